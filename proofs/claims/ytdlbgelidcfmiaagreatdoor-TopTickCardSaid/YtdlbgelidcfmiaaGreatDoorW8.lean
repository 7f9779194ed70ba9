/- Awake holds; the walk of TickReads. -/
import Derived.Test.YtdlbgelidcfmiaaGreatDoorW7
namespace Go.Proofs.YtdlbgelidcfmiaaGreatDoor
open Go.RowKit Go.Firn

def exF (i : Nat) : Int := [14, 1, 1, 0].getD i 0

theorem Awake_any (w : World) : Calls Tryz.prog 5 #[] w (RetB true w) := by
  have hr : ∀ w : World, RdI (w.alloc (.cells #[.int .i64 14, .int .i64 1, .int .i64 1, .int .i64 0] 3)) (some ⟨w.heap.size, 0, none⟩) 4 exF := fun w => .inr ⟨w.heap.size, 0, rfl, fun i hi => by
    have : i = 0 ∨ i = 1 ∨ i = 2 ∨ i = 3 := by omega
    rcases this with rfl | rfl | rfl | rfl <;> simp [World.cell?_alloc_new, exF]⟩
  have e1 := Lib.hid (show (if vR 4 4 exF then cst (pw 4) exF 4 / pw 4 else 0) = 2 by decide)
  have e2 := Lib.hid (show errOf 4 (vR 4 4 exF) = 0 by decide)
  have Hr := Lib.hid hr
  clear hr
  go_enter Tryz.func5, Tryz.ntmps5
  go_wp2_with (go_at_call 20; refine (Rounds_any 4 _ 4 4 exF _ (by omega) (Hr.out w)).mono ?_; rintro e w' ⟨rfl, hg⟩; rw [e1.out, e2.out])
  go_ret
  exact ⟨rfl, ((Gr.refl w).alloc _).trans hg⟩

end Go.Proofs.YtdlbgelidcfmiaaGreatDoor
