/- Contracts of chapter 9: the reference's Plus and Times; whether two sums are the same. -/
import Derived.Test.YtehdemcfeoiecaaDoorV9
namespace Go.Proofs.YtehdemcfeoiecaaDoor
open Go.RowKit Go.Firn Go.Shelf Go.Maps Go.WideMaps

theorem ans_times {s t : SL} (hs : Pos s) (ht : Pos t) : ansL true (timesR s t []) = ansL true (timesL s t) ∧ ansE true (timesR s t []) = ansE true (timesL s t) := by
  obtain ⟨h1, h2⟩ := timesR_is hs ht (o := [])
  have e : timesF s t [] = timesL s t := rfl
  rw [e] at h1 h2
  cases ho : overL (timesL s t) with
  | true => rw [ho] at h1; simp [ansL, ansE, h1, ho]
  | false => rw [h2 ho]; exact ⟨rfl, rfl⟩

set_option maxRecDepth 100000 in
set_option maxHeartbeats 4000000 in
theorem RefPlus_any (a : Option Addr) (n c : Nat) (f : Nat → ByteArray) (g : Nat → Int) (a' : Option Addr) (n' c' : Nat) (f' : Nat → ByteArray) (g' : Nat → Int) (w : World) (ha : SlA a n c) (hn : n ≤ 9223372036854775807) (hn' : n' ≤ 9223372036854775807)
    (hz : ∀ i, i < n → (f i).size ≤ 9223372036854775807) (hz' : ∀ i, i < n' → (f' i).size ≤ 9223372036854775807) (hr : RdS w a n f g) (hr' : RdS w a' n' f' g') :
    Calls Tryd.prog 16 #[.slice a n c, .slice a' n' c'] w (RetSE (ansL (vS f g n && vS f' g' n') (plusL (ofS f g n) (ofS f' g' n'))) (ansE (vS f g n && vS f' g' n') (plusL (ofS f g n) (ofS f' g' n'))) w) := by
  have HR := Lib.hid hr
  have HR' := Lib.hid hr'
  have HA := Lib.hid ha
  have C1 := Lib.hid (refValidSum_any a n c f g w hn hz hr)
  have C2 := Lib.hid (fun w1 (g1 : Gr w w1) => refValidSum_any a' n' c' f' g' w1 hn' hz' (hr'.gr g1))
  clear hr hr' hz hz' ha
  have HO := Lib.hid (And.intro (fun h => (OkL.of (f := f) (g := g) (n := n) h).1) (fun h => (OkL.of (f := f') (g := g') (n := n') h).1))
  cases hv : vS f g n with
  | false =>
    rw [hv] at C1
    clear HO
    go_enter Tryd.func16, Tryd.ntmps16
    go_wp2_with (go_at_call 20; refine C1.out.mono ?_; rintro e w1 ⟨rfl, g1⟩; have G1 := Lib.hid g1; clear g1)
    refine bodyPost_ret (v := .tuple #[.slice none 0 0, .int .i64 92]) (by simp [results, Tryd.results16, go_sem]) rfl ?_
    exact RetSE.none G1.out _
  | true =>
    cases hv' : vS f' g' n' with
    | false =>
      rw [hv] at C1
      rw [hv'] at C2
      clear HO
      go_enter Tryd.func16, Tryd.ntmps16
      go_wp2_with (first
        | (go_at_call 20; refine C1.out.mono ?_; rintro e w1 ⟨rfl, g1⟩; have G1 := Lib.hid g1; clear g1 C1)
        | (go_at_call 20; refine (C2.out _ G1.out).mono ?_; rintro e w2 ⟨rfl, g2⟩; have G2 := Lib.hid (G1.out.trans g2); clear g2 C2))
      refine bodyPost_ret (v := .tuple #[.slice none 0 0, .int .i64 92]) (by simp [results, Tryd.results16, go_sem]) rfl ?_
      exact RetSE.none G2.out _
    | true =>
      rw [hv] at C1
      rw [hv'] at C2
      have O1 := HO.out.1 hv
      have O2 := HO.out.2 hv'
      have D1 := Lib.hid (fun w1 (g1 : Gr w w1) => rplus_any a n c f g a' n' c' f' g' w1 HA.out O1 O2 (HR.out.gr g1) (HR'.out.gr g1))
      have KK := Lib.hid (plus_keys O1.key O2.key)
      clear O1 O2 HO HR HR' HA
      go_enter Tryd.func16, Tryd.ntmps16
      go_wp2_with (first
        | (go_at_call 20; refine C1.out.mono ?_; rintro e w1 ⟨rfl, g1⟩; have G1 := Lib.hid g1; clear g1 C1)
        | (go_at_call 20; refine (C2.out _ G1.out).mono ?_; rintro e w2 ⟨rfl, g2⟩; have G2 := Lib.hid (G1.out.trans g2); clear g2 C2)
        | (go_at_call 40; refine (D1.out _ G2.out).mono ?_; rintro e w3 ⟨v3, rfl, h3⟩; have hk3 := KK.out; have H3 := Lib.hid h3; have HK := Lib.hid hk3; clear h3 hk3 D1)
        | (go_at_call 39; refine (limited_any _ _ _ _ H3.out (fun x hx => Nat.le_trans (HK.out x hx) (by omega))).mono ?_; rintro e w4 ⟨a4, c4, rfl, q1, q2, q3, q4⟩; have A4 := Lib.hid (And.intro q1 (And.intro q2 (And.intro q3 q4))); clear q1 q2 q3 q4))
      refine bodyPost_ret (v := .tuple #[.slice a4 (ansL true (plusL (ofS f g n) (ofS f' g' n'))).length c4, .int .i64 (ansE true (plusL (ofS f g n) (ofS f' g' n')))]) (by simp [results, Tryd.results16, go_sem]) rfl ?_
      exact ⟨a4, c4, rfl, A4.out.1, A4.out.2.1, A4.out.2.2.1, G2.out.trans A4.out.2.2.2⟩

set_option maxRecDepth 100000 in
set_option maxHeartbeats 4000000 in
theorem RefTimes_any (a : Option Addr) (n c : Nat) (f : Nat → ByteArray) (g : Nat → Int) (a' : Option Addr) (n' c' : Nat) (f' : Nat → ByteArray) (g' : Nat → Int) (w : World) (ha : SlA a n c) (hn : n ≤ 9223372036854775807) (hn' : n' ≤ 9223372036854775807)
    (hz : ∀ i, i < n → (f i).size ≤ 9223372036854775807) (hz' : ∀ i, i < n' → (f' i).size ≤ 9223372036854775807) (hr : RdS w a n f g) (hr' : RdS w a' n' f' g') :
    Calls Tryd.prog 18 #[.slice a n c, .slice a' n' c'] w (RetSE (ansL (vS f g n && vS f' g' n') (timesL (ofS f g n) (ofS f' g' n'))) (ansE (vS f g n && vS f' g' n') (timesL (ofS f g n) (ofS f' g' n'))) w) := by
  have HR := Lib.hid hr
  have HR' := Lib.hid hr'
  have HA := Lib.hid ha
  have C1 := Lib.hid (refValidSum_any a n c f g w hn hz hr)
  have C2 := Lib.hid (fun w1 (g1 : Gr w w1) => refValidSum_any a' n' c' f' g' w1 hn' hz' (hr'.gr g1))
  clear hr hr' hz hz' ha
  have HO := Lib.hid (And.intro (fun h => (OkL.of (f := f) (g := g) (n := n) h).1) (fun h => (OkL.of (f := f') (g := g') (n := n') h).1))
  cases hv : vS f g n with
  | false =>
    rw [hv] at C1
    clear HO
    go_enter Tryd.func18, Tryd.ntmps18
    go_wp2_with (go_at_call 20; refine C1.out.mono ?_; rintro e w1 ⟨rfl, g1⟩; have G1 := Lib.hid g1; clear g1)
    refine bodyPost_ret (v := .tuple #[.slice none 0 0, .int .i64 92]) (by simp [results, Tryd.results18, go_sem]) rfl ?_
    exact RetSE.none G1.out _
  | true =>
    cases hv' : vS f' g' n' with
    | false =>
      rw [hv] at C1
      rw [hv'] at C2
      clear HO
      go_enter Tryd.func18, Tryd.ntmps18
      go_wp2_with (first
        | (go_at_call 20; refine C1.out.mono ?_; rintro e w1 ⟨rfl, g1⟩; have G1 := Lib.hid g1; clear g1 C1)
        | (go_at_call 20; refine (C2.out _ G1.out).mono ?_; rintro e w2 ⟨rfl, g2⟩; have G2 := Lib.hid (G1.out.trans g2); clear g2 C2))
      refine bodyPost_ret (v := .tuple #[.slice none 0 0, .int .i64 92]) (by simp [results, Tryd.results18, go_sem]) rfl ?_
      exact RetSE.none G2.out _
    | true =>
      rw [hv] at C1
      rw [hv'] at C2
      have O1 := HO.out.1 hv
      have O2 := HO.out.2 hv'
      have D1 := Lib.hid (fun w1 (g1 : Gr w w1) => rtimes_any a n c f g a' n' c' f' g' w1 O1 O2 (HR.out.gr g1) (HR'.out.gr g1))
      have KK := Lib.hid (ans_times O1.vl.2.1 O2.vl.2.1)
      clear O1 O2 HO HR HR' HA
      go_enter Tryd.func18, Tryd.ntmps18
      go_wp2_with (first
        | (go_at_call 20; refine C1.out.mono ?_; rintro e w1 ⟨rfl, g1⟩; have G1 := Lib.hid g1; clear g1 C1)
        | (go_at_call 20; refine (C2.out _ G1.out).mono ?_; rintro e w2 ⟨rfl, g2⟩; have G2 := Lib.hid (G1.out.trans g2); clear g2 C2)
        | (go_at_call 42; refine (D1.out _ G2.out).mono ?_; rintro e w3 ⟨⟨v3, rfl, h3⟩, hk3⟩; have H3 := Lib.hid h3; have HK := Lib.hid hk3; clear h3 hk3 D1)
        | (go_at_call 39; refine (limited_any _ _ _ _ H3.out (fun x hx => Nat.le_trans (HK.out x hx) (by omega))).mono ?_; rintro e w4 ⟨a4, c4, rfl, q1, q2, q3, q4⟩; have A4 := Lib.hid (And.intro q1 (And.intro q2 (And.intro q3 q4))); clear q1 q2 q3 q4))
      refine bodyPost_ret (v := .tuple #[.slice a4 (ansL true (timesR (ofS f g n) (ofS f' g' n') [])).length c4, .int .i64 (ansE true (timesR (ofS f g n) (ofS f' g' n') []))]) (by simp [results, Tryd.results18, go_sem]) rfl ?_
      rw [show (true && true) = true from rfl, ← KK.out.1, ← KK.out.2]
      exact ⟨a4, c4, rfl, A4.out.1, A4.out.2.1, A4.out.2.2.1, G2.out.trans A4.out.2.2.2⟩

end Go.Proofs.YtehdemcfeoiecaaDoor
