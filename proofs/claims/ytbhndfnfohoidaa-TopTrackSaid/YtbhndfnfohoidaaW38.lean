/- Contracts of chapter 5: the weights that the program tells. -/
import Derived.Test.YtbhndfnfohoidaaW35
import Derived.Test.YtbhndfnfohoidaaPG
namespace Go.Proofs.Ytbhndfnfohoidaa
open Go.RowKit Go.Firn

theorem Weights_none (a : Option Addr) (n c : Nat) (X Y : Nat → Int) (w : World) (hn : n ≤ 1000) (hr : RdM w a n X Y) (hv : vP n X Y = false) :
    Calls Try.prog 43 #[.slice a n c] w (fun e w' => e = .returned (.tuple #[.slice none 0 0, .int .i64 0, .int .i64 50]) ∧ Gr w w') := by
  have CV := Lib.hid (Valid_any a n c X Y w hn hr)
  rw [hv] at CV
  clear hv hr
  go_enter Try.func43, Try.ntmps43
  go_wp2_with (go_at_call 28; (with_reducible refine CV.out.mono ?_); rintro e w1 ⟨rfl, g1⟩; have G1 := Lib.hid g1; clear g1)
  go_ret3
  exact ⟨rfl, G1.out⟩

theorem Weights_any (a : Option Addr) (n c : Nat) (X Y : Nat → Int) (V : VP n X Y) (q0 : Nat × Nat) (hq0 : bst n X Y (prs X n) = some q0) (w : World) (hr : RdM w a n X Y) :
    Calls Try.prog 43 #[.slice a n c] w (fun e w' => ∃ bw cw m W, e = .returned (.tuple #[.slice (some ⟨bw, 0, none⟩) n cw, .int .i64 m, .int .i64 0]) ∧ n ≤ cw ∧ cw ≤ maxLen ∧ Good n X (fun j => rs (X j) (Y j) (pA X Y q0) (pB X Y q0) (pD X Y q0)) W m ∧ RdI w' (some ⟨bw, 0, none⟩) n W ∧ Gr w w') := by
  have n12 := V.few
  have CV := Lib.hid (Valid_any a n c X Y w (by omega) hr)
  rw [vP_iff.2 V] at CV
  obtain ⟨b, o, rfl, _⟩ := hr.at (show 0 < n by have := V.two; omega)
  have C80 := Lib.hid (fun w1 (g : Gr w w1) => weights_any b o n c X Y V q0 hq0 w1 (hr.gr g))
  clear V hr hq0
  generalize (fun j => rs (X j) (Y j) (pA X Y q0) (pB X Y q0) (pD X Y q0)) = r0 at *
  go_enter Try.func43, Try.ntmps43
  go_wp2_with (first
    | (go_at_call 28; (with_reducible refine CV.out.mono ?_); rintro e w1 ⟨rfl, g1⟩; have G1 := Lib.hid g1; clear g1)
    | (go_at_call 80; (with_reducible refine (C80.out _ G1.out).mono ?_); rintro e w2 ⟨bw, cw, m, W, rfl, c1, c2, gd, rd, g2⟩; have G2 := Lib.hid (G1.out.trans g2); have GD := Lib.hid gd; have RD := Lib.hid rd; clear gd rd g2))
  go_ret3
  exact ⟨bw, cw, m, W, rfl, c1, c2, GD.out, RD.out, G2.out⟩

end Go.Proofs.Ytbhndfnfohoidaa
