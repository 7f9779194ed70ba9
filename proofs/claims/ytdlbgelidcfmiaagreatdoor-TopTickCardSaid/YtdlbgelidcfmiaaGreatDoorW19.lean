/- Contracts of chapter 1: Inverse and Moved of the program, Equal. -/
import Derived.Test.YtdlbgelidcfmiaaGreatDoorW18
import Derived.Test.YtdlbgelidcfmiaaGreatDoorCorn
namespace Go.Proofs.YtdlbgelidcfmiaaGreatDoor
open Go.RowKit Go.Firn

theorem Tryz.info55 : (Tryz.prog.info? 55).map (fun i => (i.zero, i.size, i.bytes)) = some (some (.agg #[.int .i64 0, .int .i64 0]), 2, 16) := by kernel_rfl

theorem inv1_any (l t : Int) (w : World) : Calls Tryz.prog 30 #[.agg #[.int .i64 l, .int .i64 t]] w (RetR t l w) := by
  go_enter Tryz.func30, Tryz.ntmps30
  go_wp2
  exact bodyPost_ret (v := .agg #[.int .i64 t, .int .i64 l]) (by simp [results, Tryz.results30, go_sem]) rfl ⟨rfl, ((Gr.refl w).alloc _).alloc _⟩

set_option maxRecDepth 100000 in
set_option maxHeartbeats 1000000 in
theorem changed_any (F : Nat) (cap : Array Value) (hcf : ∀ (args : Array Value) (wz : World), (callFunc F args).run Tryz.prog wz = .ok (.enter F args) wz)
    (a : Option Addr) (n c : Nat) (L T f g : Nat → Int) (w : World) (hn : n ≤ 30) (hr : RdM w a n L T)
    (H : Hid (∀ j, j < n → ∀ wz, Gr w wz → Calls Tryz.prog F (#[.agg #[.int .i64 (L j), .int .i64 (T j)]] ++ cap) wz (RetR (f j) (g j) wz))) :
    Calls Tryz.prog 29 #[.slice a n c, .func (.func F) #[] cap] w (RetM1 (pairs n f g) w) := by
  go_enter Tryz.func29, Tryz.ntmps29
  go_wp2_with fail
  go_loopw [5, 7, 10] (fun out _ i wr => ∃ k : Nat, k ≤ n ∧ i = .int .i64 k ∧ OwnM w 55 wr out (pairs k f g)) (fun _ _ i _ => n - (intOf i).toNat)
  case atStart => exact ⟨0, by omega, rfl, OwnM.nil _ _⟩
  case round =>
    obtain ⟨k, hk, rfl, hown⟩ := hrel
    by_cases hlt : k < n
    · obtain ⟨b, o, rfl, hc⟩ := hr.at hlt
      have c1 := hown.2.cell (hc k hlt).1
      have c2 := hown.2.cell (hc k hlt).2
      clear hc hr
      have i4 : (k : Int) < n := by omega
      go_wp2_with fail
      refine (H.out k hlt _ (hown.2.alloc _)).mono ?_
      rintro e w1 ⟨rfl, g1⟩
      have hown1 := (hown.alloc _).gr g1
      clear hown c1 c2
      have hl : (pairs k f g).length < 1000000000 := by rw [pairs_length]; omega
      go_wp2_with (at_builtin; go_must (refine wpList_app_pair rfl _ _ 23 55 rfl Tryz.underlying23 Tryz.info55 _ (pairs k f g) rfl (hown1.alloc _) _ _ _ rfl (cell_new2 _ _ _ _) hl ?_); intro v1 w2 hown2 _)
      rw [← pairs_succ] at hown2
      go_roundw
      case rel => exact ⟨k + 1, by omega, by go_num, hown2⟩
      case measure => simp [intOf]; omega
    · have : k = n := by omega
      subst this
      go_wp2_with fail
      go_ret
      exact hown.ret1

end Go.Proofs.YtdlbgelidcfmiaaGreatDoor
