/- Contracts of chapter 5: SameInts; the points on a line, of the program and of the reference. Contracts of chapter 5: On, of the program and of the reference. -/
import Derived.Test.YtbhndfnfohoidaaWB
import Derived.Test.YtbhndfnfohoidaaQA
namespace Go.Proofs.Ytbhndfnfohoidaa
open Go.RowKit Go.Firn

/-- A bool of a call that only reads. -/
def RetQ (b : Bool) (w : World) (e : Ending) (w' : World) : Prop := e = .returned (.bool b) ∧ ∃ m, w' = w.drewN m

/-- Are the first n numbers of both lists the same? -/
def eqB (n m : Nat) (f g : Nat → Int) : Bool := decide (n = m) && (List.range n).all fun i => decide (f i = g i)
theorem eqB_true {n m : Nat} {f g : Nat → Int} : eqB n m f g = true ↔ n = m ∧ ∀ i, i < n → f i = g i := by simp [eqB]
theorem eqB_false_of {n m k : Nat} {f g : Nat → Int} (hk : k < n) (h : f k ≠ g k) : eqB n m f g = false := by
  cases e : eqB n m f g with
  | false => rfl
  | true => exact absurd ((eqB_true.1 e).2 k hk) h

theorem SameInts_q (a a' : Option Addr) (n c n' c' : Nat) (f g : Nat → Int) (w : World) (hn : n ≤ 9223372036854775807) (hn' : n' ≤ 9223372036854775807) (hr : RdI w a n f) (hr' : RdI w a' n' g) :
    Calls Try.prog 25 #[.slice a n c, .slice a' n' c'] w (RetQ (eqB n n' f g) w) := by
  by_cases hnn : n = n'
  rotate_left
  · have E := Lib.hid (show eqB n n' f g = false by simp [eqB, hnn])
    have hne : (n : Int) ≠ n' := by omega
    go_enter Try.func25, Try.ntmps25
    go_wp2
    go_ret
    rw [E.out]; exact ⟨rfl, 0, rfl⟩
  subst hnn
  go_enter Try.func25, Try.ntmps25
  go_wp2
  go_loopw [13] (fun i wr => ∃ k : Nat, k ≤ n ∧ i = .int .i64 k ∧ Hid (∀ i, i < k → f i = g i) ∧ ∃ m, wr = w.drewN m) (fun i _ => n - (intOf i).toNat)
  case atStart => exact ⟨0, by omega, rfl, fun i hi => by omega, 0, rfl⟩
  case round =>
    obtain ⟨k, hk, rfl, H1, hm⟩ := hrel
    have hg : Gr w wr := by obtain ⟨m, rfl⟩ := hm; exact (Gr.refl w).drewN m
    have Hm := Lib.hid hm
    clear hm
    by_cases hlt : k < n
    · obtain ⟨b, o, rfl, hc⟩ := hr.at hlt
      obtain ⟨b', o', rfl, hc'⟩ := hr'.at hlt
      have hck := hg.cell (hc k hlt)
      have hck' := hg.cell (hc' k hlt)
      clear hc hr hc' hr'
      have i3 : (0 : Int) ≤ (k : Int) := by omega
      have i4 : (k : Int) < n := by omega
      by_cases ht : f k = g k
      · have H1' : Hid (∀ i, i < k + 1 → f i = g i) := fun i hi => by
          by_cases e : i = k
          · subst e; exact ht
          · exact H1.out i (by omega)
        have t1 : (f k != g k) = false := by simp [ht]
        have Ht := Lib.hid ht
        clear ht
        go_wp2
        go_quiet (fail)
        go_wp2
        go_roundw
        case rel => exact ⟨k + 1, by omega, by go_num, H1', drewN_more Hm.out _⟩
        case measure => simp [intOf]; omega
      · have E := Lib.hid (show eqB n n f g = false from eqB_false_of hlt ht)
        have t1 : (f k != g k) = true := by simp [ht]
        go_wp2
        go_quiet (fail)
        go_wp2
        go_ret
        rw [E.out]; exact ⟨rfl, drewN_more Hm.out _⟩
    · have : k = n := by omega
      subst this
      have E := Lib.hid (show eqB k k f g = true from eqB_true.2 ⟨rfl, H1.out⟩)
      go_wp2_with fail
      go_ret
      rw [E.out]; exact ⟨rfl, Hm.out⟩

theorem SameInts_any (a a' : Option Addr) (n c n' c' : Nat) (f g : Nat → Int) (w : World) (hn : n ≤ 9223372036854775807) (hn' : n' ≤ 9223372036854775807) (hr : RdI w a n f) (hr' : RdI w a' n' g) :
    Calls Try.prog 25 #[.slice a n c, .slice a' n' c'] w (RetB (eqB n n' f g) w) :=
  (SameInts_q a a' n c n' c' f g w hn hn' hr hr').mono fun _ _ ⟨h, _, e⟩ => ⟨h, by rw [e]; exact (Gr.refl w).drewN _⟩

theorem Try.info3 : (Try.prog.info? 3).map (fun i => (i.zero, i.size, i.bytes)) = some (some (.int .i64 0), 1, 8) := by kernel_rfl

/-- The numbers below n that are so, rising. -/
def onL (p : Nat → Bool) (n : Nat) : List Nat := (List.range n).filter p
theorem onL_succ (p : Nat → Bool) (n : Nat) : onL p (n + 1) = onL p n ++ (if p n then [n] else []) := by
  unfold onL
  rw [List.range_succ, List.filter_append]
  cases h : p n <;> simp [h]
theorem onL_len (p : Nat → Bool) (n : Nat) : (onL p n).length ≤ n := by
  have := List.length_filter_le p (List.range n)
  simpa [onL] using this
theorem onL_pre {p : Nat → Bool} {k : Nat} : ∀ {n : Nat}, k ≤ n → ∃ r, onL p n = onL p k ++ r := by
  intro n
  induction n with
  | zero => intro h; obtain rfl : k = 0 := by omega
            exact ⟨[], by simp⟩
  | succ n ih =>
    intro h
    by_cases e : k = n + 1
    · subst e; exact ⟨[], by simp⟩
    · obtain ⟨r, hr⟩ := ih (by omega)
      exact ⟨r ++ (if p n then [n] else []), by rw [onL_succ, hr, List.append_assoc]⟩
theorem onL_at {p : Nat → Bool} {n k : Nat} (hk : k < n) (hp : p k = true) : nf (onL p n) (onL p k).length = (k : Int) := by
  obtain ⟨r, e⟩ := onL_pre (p := p) (show k + 1 ≤ n by omega)
  rw [e, onL_succ, if_pos hp]
  unfold nf
  simp

/-- A slice of ints of the call's own. -/
def RetO (k : Nat) (f : Nat → Int) (w : World) (e : Ending) (w' : World) : Prop := ∃ a c, e = .returned (.slice a k c) ∧ k ≤ c ∧ c ≤ maxLen ∧ RdI w' a k f ∧ Gr w w'
/-- Is a point on the line? -/
def onP (X Y : Nat → Int) (A B D : Int) (i : Nat) : Bool := decide (rs (X i) (Y i) A B D = 0)

set_option maxHeartbeats 1000000 in
theorem on_any (a : Option Addr) (n c : Nat) (X Y : Nat → Int) (A B D : Int) (w : World) (hn : n ≤ 12) (hr : RdM w a n X Y) (ok : ∀ i, i < n → InP (X i) (Y i)) (hl : InL A B D) :
    Calls Try.prog 76 #[.slice a n c, .agg #[.int .i64 A, .int .i64 B, .int .i64 D]] w (RetO (onL (onP X Y A B D) n).length (nf (onL (onP X Y A B D) n)) w) := by
  have HR := Lib.hid hr
  have OK := Lib.hid ok
  have HL := Lib.hid hl
  clear hr ok hl
  obtain ⟨W0, hW0⟩ : ∃ W0, (w.alloc (.cells #[.int .i64 A, .int .i64 B, .int .i64 D] 37)) = W0 := ⟨_, rfl⟩
  have G0 := Lib.hid (show Gr w W0 by rw [← hW0]; exact (Gr.refl w).alloc _)
  have B3 := Lib.hid (show Box3 W0 w.heap.size A B D by rw [← hW0]; exact Box3.new rfl)
  obtain ⟨F, hF⟩ : ∃ F, nf (onL (onP X Y A B D) n) = F := ⟨_, rfl⟩
  have HF := Lib.hid hF
  rw [hF]
  clear hF
  go_enter Try.func76, Try.ntmps76
  go_wp2_with fail
  clear hW0
  go_loopw [5, 10] (fun so sk wr => ∃ k : Nat, k ≤ n ∧ sk = .int .i64 k ∧ OwnI W0 3 wr so (onL (onP X Y A B D) k).length F) (fun _ sk _ => n - (intOf sk).toNat)
  case atStart => exact ⟨0, Nat.zero_le _, rfl, OwnI.nil _ _ _⟩
  case round =>
    obtain ⟨k, hk, rfl, hown⟩ := hrel
    have hg := hown.2
    obtain ⟨l0, l1, l2, f0, f1, f2⟩ := B3.out.gr hg
    have lw : w.heap.size < wr.heap.size := World.block_lt_of_cell? wr _ l0
    by_cases hlt : k < n
    · obtain ⟨b, o, ea, hc⟩ := (HR.out.gr (G0.out.trans hg)).at hlt
      subst ea
      obtain ⟨c1, c2⟩ := hc k hlt
      have i1 : (k : Int) < n := by omega
      have C := Lib.hid (fun w' => rest_any (X k) (Y k) A B D w' (OK.out k hlt) HL.out)
      have LK := onL_len (onP X Y A B D) k
      have S := Lib.hid (onL_succ (onP X Y A B D) k)
      have AT := Lib.hid (fun h => onL_at (p := onP X Y A B D) hlt h)
      rw [HF.out] at AT
      have PD := Lib.hid (show onP X Y A B D k = decide (rs (X k) (Y k) A B D = 0) from rfl)
      generalize onL (onP X Y A B D) k = L at *
      generalize rs (X k) (Y k) A B D = r at *
      generalize onP X Y A B D k = pk at *
      clear hc
      have HO := Lib.hid hown
      by_cases hz : r = 0
      · have E' := Lib.hid (AT.out (by rw [PD.out]; simpa using hz))
        have S' := Lib.hid (show (onL (onP X Y A B D) (k + 1)).length = L.length + 1 by rw [S.out, PD.out, if_pos (by simpa using hz)]; simp)
        subst hz
        go_wp2_with (first
          | (go_at_call 67; (with_reducible refine (C.out _).mono ?_); rintro e w1 ⟨rfl, g1⟩; have OW := Lib.hid ((HO.out.alloc (.cells #[.int .i64 (X k), .int .i64 (Y k)] 56)).gr g1))
          | (at_builtin; go_must (refine wpList_app_int rfl _ _ 23 3 rfl Try.underlying23 Try.info3 _ _ _ rfl (OW.out.alloc _) _ _ rfl (cell_new1 _ _ _) E'.out (by omega) ?_); intro v1 w2 hown2 _))
        go_roundw
        case rel => exact ⟨k + 1, by omega, by go_num, by rw [S'.out]; exact hown2⟩
        case measure => simp [intOf]; omega
      · have S' := Lib.hid (show (onL (onP X Y A B D) (k + 1)).length = L.length by rw [S.out, PD.out, if_neg (by simpa using hz)]; simp)
        have d1 : (r == 0) = false := by simpa using hz
        go_wp2_with (go_at_call 67; (with_reducible refine (C.out _).mono ?_); rintro e w1 ⟨rfl, g1⟩; have OW := Lib.hid ((HO.out.alloc (.cells #[.int .i64 (X k), .int .i64 (Y k)] 56)).gr g1))
        go_roundw
        case rel => exact ⟨k + 1, by omega, by go_num, by rw [S'.out]; exact OW.out⟩
        case measure => simp [intOf]; omega
    · obtain rfl : k = n := by omega
      go_wp2_with fail
      go_ret
      obtain ⟨a1, c1, rfl, h1, h2, h3⟩ := hown.rd
      exact ⟨a1, c1, rfl, h1, h2, h3, G0.out.trans hown.2⟩

end Go.Proofs.Ytbhndfnfohoidaa

namespace Go.Proofs.Ytbhndfnfohoidaa
open Go.RowKit Go.Firn

/-- How many points On tells. -/
def okL (E : Int) (k : Nat) : Nat := if E = 0 then k else 0

set_option maxHeartbeats 1000000 in
theorem On_any (a : Option Addr) (n c : Nat) (X Y : Nat → Int) (A B D : Int) (w : World) (hn : n ≤ 1000) (hr : RdM w a n X Y) :
    Calls Try.prog 37 #[.slice a n c, .agg #[.int .i64 A, .int .i64 B, .int .i64 D]] w (RetIs (okL (asE n X Y A B D) (onL (onP X Y A B D) n).length) (nf (onL (onP X Y A B D) n)) (asE n X Y A B D) w) := by
  obtain ⟨W0, hW0⟩ : ∃ W0, (w.alloc (.cells #[.int .i64 A, .int .i64 B, .int .i64 D] 37)) = W0 := ⟨_, rfl⟩
  have G0 := Lib.hid (show Gr w W0 by rw [← hW0]; exact (Gr.refl w).alloc _)
  have B3 := Lib.hid (show Box3 W0 w.heap.size A B D by rw [← hW0]; exact Box3.new rfl)
  obtain ⟨l0, l1, l2, f0, f1, f2⟩ := B3.out
  have HA := Lib.hid (lined_any a n c X Y A B D W0 hn (hr.gr G0.out))
  by_cases he : asE n X Y A B D = 0
  case neg =>
    have e1 : okL (asE n X Y A B D) (onL (onP X Y A B D) n).length = 0 := if_neg he
    rw [e1]
    clear e1 hr hn
    generalize asE n X Y A B D = E at *
    have d1 : (E != 0) = true := by simpa using he
    have d2 : (E == 0) = false := by simpa using he
    go_enter Try.func37, Try.ntmps37
    go_wp2_with (go_at_call 65; refine (HA.out).mono ?_; rintro e w1 ⟨rfl, g1⟩)
    exact bodyPost_ret (v := .tuple #[.slice none 0 0, .int .i64 E]) (by simp [results, Try.results37, go_sem]) rfl ((OwnI.nil' (G0.out.trans g1) 3 _).ret E)
  case pos =>
    obtain ⟨V, IL⟩ := asE_ok he
    have n12 := V.few
    rw [he] at HA
    rw [he]
    have e1 : okL 0 (onL (onP X Y A B D) n).length = (onL (onP X Y A B D) n).length := if_pos rfl
    rw [e1]
    clear e1 he
    have HR := Lib.hid hr
    have OK := Lib.hid V.ok
    have HL := Lib.hid IL
    clear hr V IL
    obtain ⟨F, hF⟩ : ∃ F, nf (onL (onP X Y A B D) n) = F := ⟨_, rfl⟩
    have HF := Lib.hid hF
    have HC := Lib.hid (fun w1 (g : Gr W0 w1) => on_any a n c X Y A B D w1 n12 ((HR.out.gr G0.out).gr g) OK.out HL.out)
    rw [hF] at HC
    rw [hF]
    clear hF
    go_enter Try.func37, Try.ntmps37
    go_wp2_with (first
      | (go_at_call 65; refine (HA.out).mono ?_; rintro e w1 ⟨rfl, g1⟩; have G1 := Lib.hid g1; obtain ⟨l0, l1, l2, f0, f1, f2⟩ := B3.out.gr g1; clear g1)
      | (go_at_call 76; refine (HC.out _ G1.out).mono ?_; rintro e w2 ⟨a1, c1, rfl, h1, h2, h3, g2⟩; have G2 := Lib.hid ((G0.out.trans G1.out).trans g2); clear g2))
    exact bodyPost_ret (v := .tuple #[.slice a1 (onL (onP X Y A B D) n).length c1, .int .i64 0]) (by simp [results, Try.results37, go_sem]) rfl ⟨a1, c1, rfl, h1, h2, h3, G2.out⟩

set_option maxHeartbeats 1000000 in
theorem refOn_any (a : Option Addr) (n c : Nat) (X Y : Nat → Int) (A B D : Int) (w : World) (hn : n ≤ 1000) (hr : RdM w a n X Y) :
    Calls Try.prog 38 #[.slice a n c, .agg #[.int .i64 A, .int .i64 B, .int .i64 D]] w (RetIs (okL (asE n X Y A B D) (onL (onP X Y A B D) n).length) (nf (onL (onP X Y A B D) n)) (asE n X Y A B D) w) := by
  obtain ⟨W0, hW0⟩ : ∃ W0, (w.alloc (.cells #[.int .i64 A, .int .i64 B, .int .i64 D] 37)) = W0 := ⟨_, rfl⟩
  have G0 := Lib.hid (show Gr w W0 by rw [← hW0]; exact (Gr.refl w).alloc _)
  have B3 := Lib.hid (show Box3 W0 w.heap.size A B D by rw [← hW0]; exact Box3.new rfl)
  obtain ⟨l0, l1, l2, f0, f1, f2⟩ := B3.out
  have HA := Lib.hid (asked_any a n c X Y A B D W0 hn (hr.gr G0.out))
  by_cases he : asE n X Y A B D = 0
  case neg =>
    have e1 : okL (asE n X Y A B D) (onL (onP X Y A B D) n).length = 0 := if_neg he
    rw [e1]
    clear e1 hr hn
    generalize asE n X Y A B D = E at *
    have d1 : (E != 0) = true := by simpa using he
    have d2 : (E == 0) = false := by simpa using he
    go_enter Try.func38, Try.ntmps38
    go_wp2_with (go_at_call 68; refine (HA.out).mono ?_; rintro e w1 ⟨rfl, g1⟩)
    exact bodyPost_ret (v := .tuple #[.slice none 0 0, .int .i64 E]) (by simp [results, Try.results38, go_sem]) rfl ((OwnI.nil' (G0.out.trans g1) 3 _).ret E)
  case pos =>
    obtain ⟨V, IL⟩ := asE_ok he
    have n12 := V.few
    rw [he] at HA
    rw [he]
    have e1 : okL 0 (onL (onP X Y A B D) n).length = (onL (onP X Y A B D) n).length := if_pos rfl
    rw [e1]
    clear e1 he
    have HR := Lib.hid hr
    have OK := Lib.hid V.ok
    have HL := Lib.hid IL
    clear hr V IL
    obtain ⟨F, hF⟩ : ∃ F, nf (onL (onP X Y A B D) n) = F := ⟨_, rfl⟩
    have HF := Lib.hid hF
    rw [hF]
    clear hF
    go_enter Try.func38, Try.ntmps38
    go_wp2_with (go_at_call 68; refine (HA.out).mono ?_; rintro e w1 ⟨rfl, g1⟩; have G1 := Lib.hid g1; clear g1)
    clear l0 l1 l2 f0 f1 f2
    go_loopw [7, 18] (fun so sk wr => ∃ k : Nat, k ≤ n ∧ sk = .int .i64 k ∧ OwnI W0 3 wr so (onL (onP X Y A B D) k).length F) (fun _ sk _ => n - (intOf sk).toNat)
    case atStart => exact ⟨0, Nat.zero_le _, rfl, OwnI.nil' G1.out _ _⟩
    case round =>
      obtain ⟨k, hk, rfl, hown⟩ := hrel
      have hg := hown.2
      obtain ⟨l0, l1, l2, f0, f1, f2⟩ := B3.out.gr hg
      have lw : w.heap.size < wr.heap.size := World.block_lt_of_cell? wr _ l0
      by_cases hlt : k < n
      · obtain ⟨b, o, ea, hc⟩ := (HR.out.gr (G0.out.trans hg)).at hlt
        subst ea
        obtain ⟨c1, c2⟩ := hc k hlt
        have i1 : (k : Int) < n := by omega
        have C := Lib.hid (fun w' => refrest_any (X k) (Y k) A B D w' (OK.out k hlt) HL.out)
        have LK := onL_len (onP X Y A B D) k
        have S := Lib.hid (onL_succ (onP X Y A B D) k)
        have AT := Lib.hid (fun h => onL_at (p := onP X Y A B D) hlt h)
        rw [HF.out] at AT
        have PD := Lib.hid (show onP X Y A B D k = decide (rs (X k) (Y k) A B D = 0) from rfl)
        generalize onL (onP X Y A B D) k = L at *
        generalize rs (X k) (Y k) A B D = r at *
        generalize onP X Y A B D k = pk at *
        clear hc
        have HO := Lib.hid hown
        by_cases hz : r = 0
        · have E' := Lib.hid (AT.out (by rw [PD.out]; simpa using hz))
          have S' := Lib.hid (show (onL (onP X Y A B D) (k + 1)).length = L.length + 1 by rw [S.out, PD.out, if_pos (by simpa using hz)]; simp)
          subst hz
          go_wp2_with (first
            | (go_at_call 69; (with_reducible refine (C.out _).mono ?_); rintro e w1 ⟨rfl, g1⟩; have OW := Lib.hid ((HO.out.alloc (.cells #[.int .i64 (X k), .int .i64 (Y k)] 56)).gr g1))
            | (at_builtin; go_must (refine wpList_app_int rfl _ _ 23 3 rfl Try.underlying23 Try.info3 _ _ _ rfl (OW.out.alloc _) _ _ rfl (cell_new1 _ _ _) E'.out (by omega) ?_); intro v1 w2 hown2 _))
          go_roundw
          case rel => exact ⟨k + 1, by omega, by go_num, by rw [S'.out]; exact hown2⟩
          case measure => simp [intOf]; omega
        · have S' := Lib.hid (show (onL (onP X Y A B D) (k + 1)).length = L.length by rw [S.out, PD.out, if_neg (by simpa using hz)]; simp)
          have d1 : (r == 0) = false := by simpa using hz
          go_wp2_with (go_at_call 69; (with_reducible refine (C.out _).mono ?_); rintro e w1 ⟨rfl, g1⟩; have OW := Lib.hid ((HO.out.alloc (.cells #[.int .i64 (X k), .int .i64 (Y k)] 56)).gr g1))
          go_roundw
          case rel => exact ⟨k + 1, by omega, by go_num, by rw [S'.out]; exact OW.out⟩
          case measure => simp [intOf]; omega
      · obtain rfl : k = n := by omega
        go_wp2_with fail
        obtain ⟨a1, c1, rfl, h1, h2, h3⟩ := hown.rd
        exact bodyPost_ret (v := .tuple #[.slice a1 (onL (onP X Y A B D) k).length c1, .int .i64 0]) (by simp [results, Try.results38, go_sem]) rfl ⟨a1, c1, rfl, h1, h2, h3, G0.out.trans hown.2⟩

end Go.Proofs.Ytbhndfnfohoidaa
