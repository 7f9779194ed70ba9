/- Contracts: strings.Cut at a sign; Format. -/
import Derived.Test.YtdlbgelidcfmiaaDoorTE
namespace Go.Proofs.YtdlbgelidcfmiaaDoor
open Go.RowKit Go.Firn Go.Shelf

theorem cut_none {x : Key} (h : (61 : UInt8) ∉ x) : cutA x = x ∧ cutB x = [] := by
  have a : ∀ b ∈ x, (b != (61 : UInt8)) = true := fun b hb => ne_eq fun k => h (by rw [← k]; exact hb)
  have e1 : x.takeWhile (· != 61) = x := by
    have := List.takeWhile_append_of_pos (l₂ := []) a
    simpa using this
  have e2 : x.dropWhile (· != 61) = [] := by
    have := List.dropWhile_append_of_pos (l₂ := []) a
    simpa using this
  unfold cutA cutB
  rw [e1, e2]
  exact ⟨rfl, rfl⟩
theorem cut_some {x : Key} {o : Nat} (h1 : (61 : UInt8) ∉ x.take o) (h2 : x[o]? = some 61) : cutA x = x.take o ∧ cutB x = x.drop (o + 1) := by
  obtain ⟨hl, e⟩ := List.getElem?_eq_some_iff.1 h2
  have ee : x = x.take o ++ 61 :: x.drop (o + 1) := by
    conv => lhs; rw [← List.take_append_drop o x]
    rw [List.drop_eq_getElem_cons hl, e]
  have := cut_word (d := x.take o) (e := x.drop (o + 1)) h1
  rwa [← ee] at this
theorem cut_le (x : Key) : (cutA x).length ≤ x.length ∧ (cutB x).length ≤ x.length := by
  unfold cutA cutB
  have h1 := (List.takeWhile_sublist (l := x) (· != 61)).length_le
  have h2 := (List.dropWhile_sublist (l := x) (· != 61)).length_le
  rw [List.length_drop]
  omega
def RetCut (x : Key) (w : World) (e : Ending) (w' : World) : Prop := ∃ f, e = .returned (.tuple #[.string (bA (cutA x)), .string (bA (cutB x)), .bool f]) ∧ Gr w w'
set_option maxHeartbeats 1000000 in
theorem cut26 (x : Key) (hx : x.length ≤ 1000000) (w : World) : Calls Tryd.prog 26 #[.string (bA x), .string ⟨#[61]⟩] w (RetCut x w) := by
  have C := Lib.hid (show Calls Tryd.prog 38 #[.string (bA x), .string ⟨#[61]⟩] w fun e w' => e = .returned (.int .i64 (Lib.indexByte x 61)) ∧ w = w' from Calls.mono (Any.stringslite_Index_one Tryd.idx38 (bA x) 61 w) fun e w' ⟨h1, h2⟩ => ⟨h1, h2.symm⟩)
  rcases idx_is 61 x with ⟨e1, e2⟩ | ⟨o, e1, e2, e3, e4⟩
  · rw [e1] at C
    obtain ⟨c1, c2⟩ := cut_none e2
    have HC := Lib.hid (And.intro c1 c2)
    clear e1 e2 c1 c2
    go_enter Tryd.func26, Tryd.ntmps26
    go_wp2_with (go_at_call 38; (with_reducible refine C.out.mono ?_); rintro e w6 ⟨rfl, rfl⟩)
    refine bodyPost_ret (v := .tuple #[.string (bA x), .string ⟨#[]⟩, .bool false]) (by simp [results, Tryd.results26, go_sem]) rfl ?_
    exact ⟨false, by rw [HC.out.1, HC.out.2]; rfl, Gr.refl _⟩
  · rw [e1] at C
    obtain ⟨c1, c2⟩ := cut_some e3 e4
    have HC := Lib.hid (And.intro c1 c2)
    have s1 : o < (bA x).size := by rw [bA_size]; exact e2
    have s2 : (bA x).size ≤ 1000000 := by rw [bA_size]; exact hx
    have i0 : (0 : Int) ≤ (o : Int) := by omega
    have i1 : (o : Int) ≤ ((bA x).size : Int) := by omega
    have i2 : (o : Int) + 1 ≤ ((bA x).size : Int) := by omega
    have w2 : IntKind.i64.wrap ((o : Int) + 1) = (o : Int) + 1 := IntWalk.i64_in _ (by omega)
    have i3 : (0 : Int) ≤ (o : Int) + 1 := by omega
    have i4 : ((o : Int) + 1).toNat = o + 1 := by omega
    have EX := Lib.hid (ext_key' x)
    have EZ := Lib.hid (bA_size x)
    clear e1 e2 e3 e4 c1 c2
    go_enter Tryd.func26, Tryd.ntmps26
    go_wp2_with (go_at_call 38; (with_reducible refine C.out.mono ?_); rintro e w6 ⟨rfl, rfl⟩)
    go_region_held3 (fun _ => True) (trivial) (fail)
    go_wp2_with fail
    refine bodyPost_ret (v := .tuple #[.string ((bA x).extract 0 o), .string ((bA x).extract (o + 1) (bA x).size), .bool true]) (by simp [results, Tryd.results26, go_sem]) rfl ?_
    refine ⟨true, ?_, (Gr.refl _).drew⟩
    rw [EX.out, EX.out, HC.out.1, HC.out.2, EZ.out, List.take_of_length_le (l := x.drop (o + 1)) (by rw [List.length_drop]; exact Nat.le_refl _)]
    rfl
theorem Cut_any (x : Key) (hx : x.length ≤ 1000000) (w : World) : Calls Tryd.prog 17 #[.string (bA x), .string ⟨#[61]⟩] w (RetCut x w) := by
  have C := Lib.hid (cut26 x hx w)
  go_enter Tryd.func17, Tryd.ntmps17
  go_wp2_with (go_at_call 26; (with_reducible refine C.out.mono ?_); rintro e w6 ⟨f, rfl, g6⟩; have G6 := Lib.hid g6; clear g6)
  refine bodyPost_ret (v := .tuple #[.string (bA (cutA x)), .string (bA (cutB x)), .bool f]) (by simp [results, Tryd.results17, go_sem]) rfl ?_
  exact ⟨f, rfl, G6.out⟩

/-! ### Format -/
def lsC (f g : Nat → Int) (n : Nat) : CL := (List.range n).map fun i => (f i, g i)
theorem lsC_len (f g : Nat → Int) (n : Nat) : (lsC f g n).length = n := by simp [lsC]
theorem lsC_at {f g : Nat → Int} {n i : Nat} (h : i < n) : f i = px (lsC f g n) i ∧ g i = py (lsC f g n) i := by simp [px, py, lsC, h]
theorem vMk_of (f g : Nat → Int) (n : Nat) : vK n f g = vMk (lsC f g n) := by
  unfold vMk
  rw [lsC_len, Bool.eq_iff_iff, vK_true, vK_true]
  have e : ∀ i, i < n → px (lsC f g n) i = f i ∧ py (lsC f g n) i = g i := fun i hi => ⟨(lsC_at hi).1.symm, (lsC_at hi).2.symm⟩
  constructor
  · rintro ⟨a, b, h1, h2⟩
    refine ⟨a, b, fun i hi => ?_, fun i hi => ?_⟩
    · rw [(e i hi).1, (e i hi).2]; exact h1 i hi
    · rw [(e i (by omega)).1, (e i (by omega)).2, (e (i + 1) hi).1, (e (i + 1) hi).2]; exact h2 i hi
  · rintro ⟨a, b, h1, h2⟩
    refine ⟨a, b, fun i hi => ?_, fun i hi => ?_⟩
    · have := h1 i hi; rwa [(e i hi).1, (e i hi).2] at this
    · have := h2 i hi; rwa [(e i (by omega)).1, (e i (by omega)).2, (e (i + 1) hi).1, (e (i + 1) hi).2] at this
def fmT (v : Bool) (c : CL) : ByteArray := if v = true then bA (txC c) else ⟨#[]⟩
def fmE (v : Bool) : Int := if v = true then 0 else 11
theorem Format_any (a : Option Addr) (cp : Nat) (c : CL) (w : World) (hT : Pow10 w) (hn : c.length ≤ 9223372036854775807) (hr : RdM w a c.length (px c) (py c)) :
    Calls Tryd.prog 6 #[.slice a c.length cp] w (RetTE (fmT (vMk c) c) (fmE (vMk c)) w) := by
  have C1 := Lib.hid (show Calls Tryd.prog 12 #[.slice a c.length cp] w (RetB (vMk c) w) from ValidClock_any a c.length cp (px c) (py c) w hn hr)
  cases hv : vMk c with
  | false =>
    rw [hv] at C1
    clear hv hr hT
    go_enter Tryd.func6, Tryd.ntmps6
    go_wp2_with (go_at_call 12; (with_reducible refine C1.out.mono ?_); rintro e w1 ⟨rfl, g1⟩; have G1 := Lib.hid g1; clear g1)
    refine bodyPost_ret (v := .tuple #[.string ⟨#[]⟩, .int .i64 11]) (by simp [results, Tryd.results6, go_sem]) rfl ?_
    exact ⟨rfl, G1.out⟩
  | true =>
    rw [hv] at C1
    have C2 := Lib.hid (fun wx (k : Gr w wx) => text_any a cp c wx (hT.gr k) hv (hr.gr k))
    show Calls Tryd.prog 6 _ w (RetTE (bA (txC c)) 0 w)
    clear hv hr hT
    generalize bA (txC c) = T at *
    go_enter Tryd.func6, Tryd.ntmps6
    go_wp2_with (first
      | (go_at_call 12; (with_reducible refine C1.out.mono ?_); rintro e w1 ⟨rfl, g1⟩; have G1 := Lib.hid g1; clear g1)
      | (go_at_call 13; (with_reducible refine (C2.out _ G1.out).mono ?_); rintro e w2 ⟨rfl, g2⟩; have G2 := Lib.hid (G1.out.trans g2); clear g2))
    refine bodyPost_ret (v := .tuple #[.string T, .int .i64 0]) (by simp [results, Tryd.results6, go_sem]) rfl ?_
    exact ⟨rfl, G2.out⟩
theorem refFormat_any (a : Option Addr) (cp : Nat) (c : CL) (w : World) (hn : c.length ≤ 9223372036854775807) (hr : RdM w a c.length (px c) (py c)) :
    Calls Tryd.prog 7 #[.slice a c.length cp] w (RetTE (fmT (vMk c) c) (fmE (vMk c)) w) := by
  have C1 := Lib.hid (show Calls Tryd.prog 14 #[.slice a c.length cp] w (RetB (vMk c) w) from refValidClock_any a c.length cp (px c) (py c) w hn hr)
  cases hv : vMk c with
  | false =>
    rw [hv] at C1
    clear hv hr
    go_enter Tryd.func7, Tryd.ntmps7
    go_wp2_with (go_at_call 14; (with_reducible refine C1.out.mono ?_); rintro e w1 ⟨rfl, g1⟩; have G1 := Lib.hid g1; clear g1)
    refine bodyPost_ret (v := .tuple #[.string ⟨#[]⟩, .int .i64 11]) (by simp [results, Tryd.results7, go_sem]) rfl ?_
    exact ⟨rfl, G1.out⟩
  | true =>
    rw [hv] at C1
    have C2 := Lib.hid (fun wx (k : Gr w wx) => reftext_any a cp c wx hv (hr.gr k))
    show Calls Tryd.prog 7 _ w (RetTE (bA (txC c)) 0 w)
    clear hv hr
    generalize bA (txC c) = T at *
    go_enter Tryd.func7, Tryd.ntmps7
    go_wp2_with (first
      | (go_at_call 14; (with_reducible refine C1.out.mono ?_); rintro e w1 ⟨rfl, g1⟩; have G1 := Lib.hid g1; clear g1)
      | (go_at_call 15; (with_reducible refine (C2.out _ G1.out).mono ?_); rintro e w2 ⟨rfl, g2⟩; have G2 := Lib.hid (G1.out.trans g2); clear g2))
    refine bodyPost_ret (v := .tuple #[.string T, .int .i64 0]) (by simp [results, Tryd.results7, go_sem]) rfl ?_
    exact ⟨rfl, G2.out⟩
end Go.Proofs.YtdlbgelidcfmiaaDoor
