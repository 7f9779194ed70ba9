/- Contracts of chapter 2: Threads. -/
import Derived.Test.YtjokheeegcilhaaDoorW31
namespace Go.Proofs.YtjokheeegcilhaaDoor
open Go.RowKit Go.Firn

theorem thr_row {n : Nat} {nx pv : Nat → Int} (hn : n ≤ 14) {i : Nat} (hi : i < (thr n nx pv n).length) : (tr nf (thr n nx pv n) i).1 ≤ 60 := by
  have e : (thr n nx pv n).getD i [] ∈ thr n nx pv n := by rw [List.getD, List.getElem?_eq_getElem hi]; exact List.getElem_mem hi
  obtain ⟨y, hy, e2⟩ := List.mem_map.1 e
  show ((thr n nx pv n).getD i []).length ≤ 60
  rw [← e2]
  have := path_len nx n y
  omega

/-- Threads, of valid hits. -/
def RetThE (n : Nat) (P T : Nat → Int) (w : World) (e : Ending) (w' : World) : Prop :=
  ∃ a c, ∃ tb : List (List Nat), tb.length = (layL n P T).length ∧ areB n (chnB n P T) tb.length (tr nf tb) = true ∧ (∀ i, i < tb.length → (tr nf tb i).1 ≤ 60) ∧ tb.length ≤ 60 ∧ tb.length ≤ c ∧ c ≤ maxLen ∧
    e = .returned (.tuple #[.slice a tb.length c, .int .i64 0]) ∧ RdT w' a tb.length (tr nf tb) ∧ Gr w w'

theorem Threads_ok (adr : Option Addr) (n c : Nat) (P T : Nat → Int) (w : World) (V : VH n P T) (hw : WfH n P T) (hr : RdM w adr n P T) (hT : Tab w) :
    Calls Tryd.prog 44 #[.slice adr n c] w (RetThE n P T w) := by
  have HW := Lib.hid hw
  have HR := Lib.hid hr
  have TT := Lib.hid hT
  have HV := Lib.hid V
  have hf := V.few
  have hp := V.pos
  clear hw hr hT V
  go_enter Tryd.func44, Tryd.ntmps44
  go_wp2_with (first
    | (go_at_call 66; refine (open_any adr n c P T _ HV.out HW.out HR.out).mono ?_; rintro e w1 ⟨p, b1, b2, rfl, O, g1, l1⟩; have O1 := Lib.hid O; clear O)
    | (go_at_call 86; refine (threads_any hp hf _ (TT.out.gr g1) O1.out).mono ?_; rintro e w2 ⟨a, c, nx, pv, K, rfl, r1, r2, r3, g2⟩; have HK := Lib.hid K; clear K)
    | go_in)
  go_ret2
  have hl : (thr n nx pv n).length ≤ n := by rw [thr_length]; exact cnt_le _ _
  exact ⟨a, c, _, thr_layer hf HK.out, thr_are hf HK.out.1, fun i hi => thr_row hf hi, by omega, r1, r2, rfl, r3, g1.trans g2⟩

theorem Threads_bad (adr : Option Addr) (n c : Nat) (P T : Nat → Int) (w : World) (hn : n ≤ 1000) (hv : vH n P T = false) (hw : WfH n P T) (hr : RdM w adr n P T) :
    Calls Tryd.prog 44 #[.slice adr n c] w (fun e w' => e = .returned (.tuple #[.slice none 0 0, .int .i64 20]) ∧ Gr w w') := by
  have HW := Lib.hid hw
  have HR := Lib.hid hr
  have HV := Lib.hid hv
  clear hw hr hv
  go_enter Tryd.func44, Tryd.ntmps44
  go_wp2_with (first
    | (go_at_call 66; refine (open_bad adr n c P T _ hn HV.out HW.out HR.out).mono ?_; rintro e w1 ⟨rfl, g1⟩)
    | go_in)
  go_ret2
  exact ⟨rfl, g1⟩

end Go.Proofs.YtjokheeegcilhaaDoor
