/- Contracts of chapter 5: all witnesses, of the reference. -/
import Derived.Test.YtbhndfnfohoidaaCow
import Derived.Test.YtbhndfnfohoidaaQA
namespace Go.Proofs.Ytbhndfnfohoidaa
open Go.RowKit Go.Firn

theorem Try.info23 : (Try.prog.info? 23).map (fun i => (i.zero, i.size, i.bytes)) = some (some (.slice none 0 0), 1, 24) := by kernel_rfl

/-- A slice that holds the list l, in a block behind base. -/
def LiB (w : World) (base : Nat) (l : List Nat) (x : Value) : Prop := ∃ a c, x = .slice a l.length c ∧ l.length ≤ c ∧ c ≤ maxLen ∧ (l.length = 0 ∨ ∃ b o, a = some ⟨b, o, none⟩ ∧ base ≤ b ∧ ∀ j, j < l.length → w.cell? ⟨b, o + j, none⟩ = some (.int .i64 (nf l j)))
theorem LiB.gr {w w' : World} {base : Nat} {l : List Nat} {x : Value} (h : LiB w base l x) (g : Gr w w') : LiB w' base l x := by
  obtain ⟨a, c, h1, h2, h3, h4⟩ := h
  refine ⟨a, c, h1, h2, h3, h4.imp id ?_⟩
  rintro ⟨b, o, k1, k2, k3⟩
  exact ⟨b, o, k1, k2, fun j hj => g.cell (k3 j hj)⟩
theorem LiB.set {w : World} {base b j : Nat} {l : List Nat} {x : Value} (h : LiB w base l x) (hb : b < base) (u : Value) : LiB (w.setCell ⟨b, j, none⟩ u) base l x := by
  obtain ⟨a, c, h1, h2, h3, h4⟩ := h
  refine ⟨a, c, h1, h2, h3, h4.imp id ?_⟩
  rintro ⟨b', o, k1, k2, k3⟩
  exact ⟨b', o, k1, k2, fun j hj => cell_far (k3 j hj) (by omega) _⟩
theorem LiB.rd {w : World} {base : Nat} {l : List Nat} {x : Value} (h : LiB w base l x) : ∃ a c, x = .slice a l.length c ∧ l.length ≤ c ∧ c ≤ maxLen ∧ RdI w a l.length (nf l) := by
  obtain ⟨a, c, h1, h2, h3, h4⟩ := h
  refine ⟨a, c, h1, h2, h3, h4.imp id ?_⟩
  rintro ⟨b, o, k1, k2, k3⟩
  exact ⟨b, o, k1, k3⟩
/-- A table of lists, all of it in blocks behind base. -/
def RdTB (w : World) (base : Nat) (a : Option Addr) (tb : List (List Nat)) : Prop := tb.length = 0 ∨ ∃ b, a = some ⟨b, 0, none⟩ ∧ base ≤ b ∧ ∀ i, i < tb.length → ∃ x, w.cell? ⟨b, i, none⟩ = some x ∧ LiB w base (tb.getD i []) x
theorem RdTB.gr {w w' : World} {base : Nat} {a : Option Addr} {tb : List (List Nat)} (h : RdTB w base a tb) (g : Gr w w') : RdTB w' base a tb := by
  refine h.imp id ?_
  rintro ⟨b, h1, h2, h3⟩
  refine ⟨b, h1, h2, fun i hi => ?_⟩
  obtain ⟨x, k1, k2⟩ := h3 i hi
  exact ⟨x, g.cell k1, k2.gr g⟩
theorem RdTB.set {w : World} {base b j : Nat} {a : Option Addr} {tb : List (List Nat)} (h : RdTB w base a tb) (hb : b < base) (u : Value) : RdTB (w.setCell ⟨b, j, none⟩ u) base a tb := by
  refine h.imp id ?_
  rintro ⟨b', h1, h2, h3⟩
  refine ⟨b', h1, h2, fun i hi => ?_⟩
  obtain ⟨x, k1, k2⟩ := h3 i hi
  exact ⟨x, cell_far k1 (by omega) _, k2.set hb u⟩
theorem OwnT.rdB {w0 w : World} {base : Nat} {v : Value} {tb : List (List Nat)} (h : OwnT w0 base nf w v tb) : ∃ a c, v = .slice a tb.length c ∧ tb.length ≤ c ∧ c ≤ maxLen ∧ RdTB w base a tb := by
  obtain ⟨h0, xs, h1, h2⟩ := h
  have h1' := h1
  obtain ⟨hl, hv⟩ := h1'
  rcases hv with ⟨rfl, hz⟩ | ⟨g, cap, cur, rfl, hb, hg, hnc, hcm, hcs, htake⟩
  · rw [hz]; exact ⟨none, 0, rfl, Nat.le_refl _, by unfold maxLen; omega, .inl hz⟩
  · refine ⟨_, _, rfl, hnc, hcm, .inr ⟨g, rfl, (h1.lt g rfl).1, fun i hi => ?_⟩⟩
    obtain ⟨x, hx, ai, ci, rfl, k1, k2, k3, k4⟩ := h2 i hi
    have c0 := h1.cells (g := g) rfl _ _ hx
    rw [add_flat rfl] at c0
    refine ⟨_, by simpa using c0, ai, ci, rfl, k1, k2, k4.imp id ?_⟩
    rintro ⟨b, o, rfl, _, _, m3⟩
    rcases k3 with k3 | ⟨b', o', e, k3⟩
    · exact ⟨b, o, rfl, m3, fun j hj => by omega⟩
    · cases e
      exact ⟨b, o, rfl, m3, k3⟩
/-- A slice of slices of ints that hold tb, in blocks of the call's own. -/
def RetTb (tb : List (List Nat)) (w : World) (e : Ending) (w' : World) : Prop := ∃ a c, e = .returned (.slice a tb.length c) ∧ tb.length ≤ c ∧ c ≤ maxLen ∧ RdTB w' w.heap.size a tb ∧ Gr w w'
theorem rd2 {W W' : World} {g A B : Nat} (hg : W.heap.size = g) (h : Gr (W.alloc (.cells #[.int .i64 A, .int .i64 B] 3)) W') : RdI W' (some ⟨g, 0, none⟩) 2 (nf [A, B]) := .inr ⟨g, 0, rfl, fun i hi => by
  subst hg
  have := h.cell (hx2 W A B i hi)
  rw [Nat.zero_add]; exact this⟩
theorem rd3 {W W' : World} {g A B C : Nat} (hg : W.heap.size = g) (h : Gr (W.alloc (.cells #[.int .i64 A, .int .i64 B, .int .i64 C] 3)) W') : RdI W' (some ⟨g, 0, none⟩) 3 (nf [A, B, C]) := .inr ⟨g, 0, rfl, fun i hi => by
  subst hg
  have := h.cell (hx3 W A B C i hi)
  rw [Nat.zero_add]; exact this⟩
theorem holds2 {w W W' : World} {g A B : Nat} {v : Value} {tb : List (List Nat)} (hg : W.heap.size = g) (ho : OwnT w w.heap.size nf W v tb) (h : Gr (W.alloc (.cells #[.int .i64 A, .int .i64 B] 3)) W') : Holds w.heap.size W' v nf (.slice (some ⟨g, 0, none⟩) 2 2) [A, B] := by
  have hs := h.size
  rw [World.size_alloc] at hs
  exact ⟨_, 2, rfl, Nat.le_refl _, by unfold maxLen; omega, rd2 hg h, .inr ⟨g, 0, rfl, by omega, fun e => by have := ho.lt e.symm; omega, by have := ho.1.2.2; omega⟩⟩
theorem holds3 {w W W' : World} {g A B C : Nat} {v : Value} {tb : List (List Nat)} (hg : W.heap.size = g) (ho : OwnT w w.heap.size nf W v tb) (h : Gr (W.alloc (.cells #[.int .i64 A, .int .i64 B, .int .i64 C] 3)) W') : Holds w.heap.size W' v nf (.slice (some ⟨g, 0, none⟩) 3 3) [A, B, C] := by
  have hs := h.size
  rw [World.size_alloc] at hs
  exact ⟨_, 3, rfl, Nat.le_refl _, by unfold maxLen; omega, rd3 hg h, .inr ⟨g, 0, rfl, by omega, fun e => by have := ho.lt e.symm; omega, by have := ho.1.2.2; omega⟩⟩

theorem cell_new1e {w : World} {g : Nat} (h : w.heap.size = g) (v : Value) (e : TypeId) : (w.alloc (.cells #[v] e)).cell? ⟨g, 0, none⟩ = some v := by subst h; exact cell_new1 w v e

set_option maxHeartbeats 4000000 in
set_option maxRecDepth 100000 in
theorem witnesses_any (a : Option Addr) (n c : Nat) (X Y : Nat → Int) (V : VP n X Y) (w : World) (hr : RdM w a n X Y) :
    Calls Try.prog 90 #[.slice a n c] w (RetTb (wits n X) w) := by
  have HR := Lib.hid hr
  have n12 := V.few
  have HV := Lib.hid V
  clear hr V
  go_enter Try.func90, Try.ntmps90
  go_wp2_with fail
  go_loopw [3, 15] (fun v s wr => ∃ A : Nat, A ≤ n ∧ s = .int .i64 A ∧ OwnT w w.heap.size nf wr v (pr2 X n A)) (fun _ s _ => n - (intOf s).toNat)
  case atStart => exact ⟨0, Nat.zero_le _, rfl, OwnT.nil' (Gr.refl w) (Nat.le_refl _) (Nat.le_refl _) nf⟩
  case round =>
    obtain ⟨A, hA, rfl, hown⟩ := hrel
    by_cases hlt : A < n
    · have i1 : (A : Int) < n := by omega
      have H0 := Lib.hid hown
      clear hown
      go_wp2_with fail
      go_loopw [3, 5] (fun v s wr => ∃ B : Nat, A + 1 ≤ B ∧ B ≤ n ∧ s = .int .i64 B ∧ OwnT w w.heap.size nf wr v (pr2 X n A ++ row2 X A B)) (fun _ s _ => n - (intOf s).toNat)
      case atStart => exact ⟨A + 1, Nat.le_refl _, hlt, by go_num, by rw [row2_low X A (A + 1) (Nat.le_refl _), List.append_nil]; exact H0.out⟩
      case round =>
        obtain ⟨B, hB1, hB, rfl, hown⟩ := hrel
        by_cases hlb : B < n
        · have j1 : (B : Int) < n := by omega
          have CT := Lib.hid (fun w1 (g : Gr w w1) (h : RdI w1 (some ⟨wr.heap.size, 0, none⟩) 2 (nf [A, B])) => reftells_any a n c X Y HV.out (some ⟨wr.heap.size, 0, none⟩) 2 2 (nf [A, B]) w1 (by omega) (Nat.le_refl _) (HR.out.gr g) h)
          have W0 := Lib.hid (wit2 hlt hlb (by omega) : witB n X 2 (nf [A, B]) = decide (X A = X B))
          have LN := Lib.hid (pre2_len (X := X) n12 hlt hB)
          have RS := Lib.hid (show pr2 X n A ++ row2 X A (B + 1) = (pr2 X n A ++ row2 X A B) ++ (if X A = X B then [[A, B]] else []) from by rw [row2, ← List.append_assoc]; congr 1; by_cases h : X A = X B <;> simp [h, show A < B by omega])
          by_cases hx : X A = X B
          · have WB : witB n X 2 (nf [A, B]) = true := by rw [W0.out]; exact decide_eq_true hx
            have RX := Lib.hid (show pr2 X n A ++ row2 X A (B + 1) = (pr2 X n A ++ row2 X A B) ++ [[A, B]] by rw [RS.out, if_pos hx])
            clear hx W0 RS
            go_wp2_with (first
              | (go_at_call 58; refine (CT.out _ (hown.1.1.alloc _) (rd2 rfl (Gr.refl _))).mono ?_; rintro e w2 ⟨N, D, rfl, hnd, g2⟩; clear hnd; rw [WB]; have O2 := Lib.hid (hown.gr ((((Gr.refl _).alloc (.cells #[.int .i64 (A : Nat), .int .i64 (B : Nat)] 3)).trans g2).alloc (.cells #[.int .i64 N, .int .i64 D] 27))); clear g2)
              | (at_builtin; go_must (refine wpList_app_list rfl _ _ 105 rfl Try.underlying105 Try.info23 nf _ _ rfl (O2.out.gr (((Gr.refl _).alloc _).alloc _)) _ _ [A, B] rfl (cell_new1e (by simp) _ _) (holds2 (by simp) O2.out ((Gr.refl _).alloc _)) LN.out ?_); intro v1 w4 ow4 g4))
            go_roundw
            case rel => exact ⟨B + 1, by omega, hlb, by go_num, by rw [RX.out]; exact ow4⟩
            case measure => simp [intOf]; omega
          · have WB : witB n X 2 (nf [A, B]) = false := by rw [W0.out]; exact decide_eq_false hx
            have RX := Lib.hid (show pr2 X n A ++ row2 X A (B + 1) = (pr2 X n A ++ row2 X A B) by rw [RS.out, if_neg hx, List.append_nil])
            clear hx W0 RS
            go_wp2_with (go_at_call 58; refine (CT.out _ (hown.1.1.alloc _) (rd2 rfl (Gr.refl _))).mono ?_; rintro e w2 ⟨N, D, rfl, hnd, g2⟩; clear hnd; rw [WB]; have O2 := Lib.hid (hown.gr ((((Gr.refl _).alloc (.cells #[.int .i64 (A : Nat), .int .i64 (B : Nat)] 3)).trans g2).alloc (.cells #[.int .i64 N, .int .i64 D] 27))); clear g2)
            go_roundw
            case rel => exact ⟨B + 1, by omega, hlb, by go_num, by rw [RX.out]; exact O2.out⟩
            case measure => simp [intOf]; omega
        · have eB : B = n := by omega
          have n1 : (n : Int) ≤ (B : Int) := by omega
          have RX := Lib.hid (show pr2 X n A ++ row2 X A B = pr2 X n (A + 1) by rw [eB]; rfl)
          clear eB hlb
          go_wp2_with fail
          go_roundw
          case rel => exact ⟨A + 1, hlt, by go_num, by rw [← RX.out]; exact hown⟩
          case measure => simp [intOf]; omega
    · have eA : A = n := by omega
      have n1 : (n : Int) ≤ (A : Int) := by omega
      have H0 := Lib.hid (show OwnT w w.heap.size nf wr _ (pr2 X n n) from eA ▸ hown)
      have eD : decide (A < n) = false := decide_eq_false (by omega)
      clear eA hlt hown
      go_wp2_with fail
      try simp only [eD]
      go_loopw [3, 44] (fun v s wr => ∃ A : Nat, A ≤ n ∧ s = .int .i64 A ∧ OwnT w w.heap.size nf wr v (pr2 X n n ++ cub X n A)) (fun _ s _ => n - (intOf s).toNat)
      case atStart => exact ⟨0, Nat.zero_le _, rfl, by rw [show cub X n 0 = [] from rfl, List.append_nil]; exact H0.out⟩
      case round =>
        obtain ⟨A, hA, rfl, hown⟩ := hrel
        by_cases hlt : A < n
        · have i1 : (A : Int) < n := by omega
          have H1 := Lib.hid hown
          clear hown
          go_wp2_with fail
          go_loopw [3, 49] (fun v s wr => ∃ B : Nat, B ≤ n ∧ s = .int .i64 B ∧ OwnT w w.heap.size nf wr v (pr2 X n n ++ (cub X n A ++ pl3 X n A B))) (fun _ s _ => n - (intOf s).toNat)
          case atStart => exact ⟨0, Nat.zero_le _, rfl, by rw [show pl3 X n A 0 = [] from rfl, List.append_nil]; exact H1.out⟩
          case round =>
            obtain ⟨B, hB, rfl, hown⟩ := hrel
            by_cases hlb : B < n
            · have j1 : (B : Int) < n := by omega
              have H2 := Lib.hid hown
              clear hown
              go_wp2_with fail
              go_loopw [3, 54] (fun v s wr => ∃ C : Nat, C ≤ n ∧ s = .int .i64 C ∧ OwnT w w.heap.size nf wr v (pr2 X n n ++ (cub X n A ++ (pl3 X n A B ++ row3 X A B C)))) (fun _ s _ => n - (intOf s).toNat)
              case atStart => exact ⟨0, Nat.zero_le _, rfl, by rw [show row3 X A B 0 = [] from rfl, List.append_nil]; exact H2.out⟩
              case round =>
                obtain ⟨C, hC, rfl, hown⟩ := hrel
                by_cases hlc : C < n
                · have k1 : (C : Int) < n := by omega
                  have CT := Lib.hid (fun w1 (g : Gr w w1) (h : RdI w1 (some ⟨wr.heap.size, 0, none⟩) 3 (nf [A, B, C])) => reftells_any a n c X Y HV.out (some ⟨wr.heap.size, 0, none⟩) 3 3 (nf [A, B, C]) w1 (by omega) (Nat.le_refl _) (HR.out.gr g) h)
                  have W0 := Lib.hid (wit3 hlt hlb hlc : witB n X 3 (nf [A, B, C]) = decide (X A < X B ∧ X B < X C))
                  have LN := Lib.hid (pre3_len (X := X) n12 hlt hlb hC)
                  have RS := Lib.hid (show pr2 X n n ++ (cub X n A ++ (pl3 X n A B ++ row3 X A B (C + 1))) = (pr2 X n n ++ (cub X n A ++ (pl3 X n A B ++ row3 X A B C))) ++ (if X A < X B ∧ X B < X C then [[A, B, C]] else []) from by rw [row3]; simp only [List.append_assoc])
                  by_cases hx : X A < X B ∧ X B < X C
                  · have WB : witB n X 3 (nf [A, B, C]) = true := by rw [W0.out]; exact decide_eq_true hx
                    have RX := Lib.hid (show pr2 X n n ++ (cub X n A ++ (pl3 X n A B ++ row3 X A B (C + 1))) = (pr2 X n n ++ (cub X n A ++ (pl3 X n A B ++ row3 X A B C))) ++ [[A, B, C]] by rw [RS.out, if_pos hx])
                    clear hx W0 RS
                    go_wp2_with (first
                      | (go_at_call 58; refine (CT.out _ (hown.1.1.alloc _) (rd3 rfl (Gr.refl _))).mono ?_; rintro e w2 ⟨N, D, rfl, hnd, g2⟩; clear hnd; rw [WB]; have O2 := Lib.hid (hown.gr ((((Gr.refl _).alloc (.cells #[.int .i64 (A : Nat), .int .i64 (B : Nat), .int .i64 (C : Nat)] 3)).trans g2).alloc (.cells #[.int .i64 N, .int .i64 D] 27))); clear g2)
                      | (at_builtin; go_must (refine wpList_app_list rfl _ _ 105 rfl Try.underlying105 Try.info23 nf _ _ rfl (O2.out.gr (((Gr.refl _).alloc _).alloc _)) _ _ [A, B, C] rfl (cell_new1e (by simp) _ _) (holds3 (by simp) O2.out ((Gr.refl _).alloc _)) LN.out ?_); intro v1 w4 ow4 g4))
                    go_roundw
                    case rel => exact ⟨C + 1, hlc, by go_num, by rw [RX.out]; exact ow4⟩
                    case measure => simp [intOf]; omega
                  · have WB : witB n X 3 (nf [A, B, C]) = false := by rw [W0.out]; exact decide_eq_false hx
                    have RX := Lib.hid (show pr2 X n n ++ (cub X n A ++ (pl3 X n A B ++ row3 X A B (C + 1))) = (pr2 X n n ++ (cub X n A ++ (pl3 X n A B ++ row3 X A B C))) by rw [RS.out, if_neg hx, List.append_nil])
                    clear hx W0 RS
                    go_wp2_with (go_at_call 58; refine (CT.out _ (hown.1.1.alloc _) (rd3 rfl (Gr.refl _))).mono ?_; rintro e w2 ⟨N, D, rfl, hnd, g2⟩; clear hnd; rw [WB]; have O2 := Lib.hid (hown.gr ((((Gr.refl _).alloc (.cells #[.int .i64 (A : Nat), .int .i64 (B : Nat), .int .i64 (C : Nat)] 3)).trans g2).alloc (.cells #[.int .i64 N, .int .i64 D] 27))); clear g2)
                    go_roundw
                    case rel => exact ⟨C + 1, hlc, by go_num, by rw [RX.out]; exact O2.out⟩
                    case measure => simp [intOf]; omega
                · have eC : C = n := by omega
                  have n1 : (n : Int) ≤ (C : Int) := by omega
                  have RX := Lib.hid (show pr2 X n n ++ (cub X n A ++ (pl3 X n A B ++ row3 X A B C)) = pr2 X n n ++ (cub X n A ++ pl3 X n A (B + 1)) by rw [eC]; rfl)
                  clear eC hlc
                  go_wp2_with fail
                  go_roundw
                  case rel => exact ⟨B + 1, hlb, by go_num, by rw [← RX.out]; exact hown⟩
                  case measure => simp [intOf]; omega
            · have eB : B = n := by omega
              have n1 : (n : Int) ≤ (B : Int) := by omega
              have RX := Lib.hid (show pr2 X n n ++ (cub X n A ++ pl3 X n A B) = pr2 X n n ++ cub X n (A + 1) by rw [eB]; rfl)
              clear eB hlb
              go_wp2_with fail
              go_roundw
              case rel => exact ⟨A + 1, hlt, by go_num, by rw [← RX.out]; exact hown⟩
              case measure => simp [intOf]; omega
        · have eA : A = n := by omega
          have n1 : (n : Int) ≤ (A : Int) := by omega
          have RX := Lib.hid (show pr2 X n n ++ cub X n A = wits n X by rw [eA]; rfl)
          rw [RX.out] at hown
          clear eA hlt
          have hg := hown.1.1
          obtain ⟨a', c', rfl, h1, h2, h3⟩ := OwnT.rdB hown
          go_wp2_with fail
          go_ret
          exact ⟨_, _, rfl, h1, h2, h3, hg⟩

end Go.Proofs.Ytbhndfnfohoidaa
