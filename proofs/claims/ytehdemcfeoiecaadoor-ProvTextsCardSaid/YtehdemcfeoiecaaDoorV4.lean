/- Contracts of chapter 9: made, Plus and Times (the program's own). -/
import Derived.Test.YtehdemcfeoiecaaDoorV2
import Derived.Test.YtehdemcfeoiecaaDoorV3
namespace Go.Proofs.YtehdemcfeoiecaaDoor
open Go.RowKit Go.Firn Go.Shelf Go.Maps Go.WideMaps

/-- What a sum is that is one. -/
structure OkL (L : SL) : Prop where
  vl : VL L
  le : L.length ≤ 40
  key : ∀ x ∈ L, x.1.length ≤ 12
  cnt : ∀ x ∈ L, x.2 ≤ 100000
theorem OkL.of {f : Nat → ByteArray} {g : Nat → Int} {n : Nat} (h : vS f g n = true) : OkL (ofS f g n) ∧ n ≤ 40 := by
  obtain ⟨h1, h2⟩ := vS_iff.1 h
  have hle : (ofS f g n).length ≤ 40 := by
    unfold overL at h2
    rw [Bool.or_eq_false_iff] at h2
    have := h2.2
    simp at this
    simpa using this
  have ha : ∀ x ∈ ofS f g n, x.2 ≤ 100000 ∧ x.1.length ≤ 12 := fun x hx => by
    unfold overL at h2
    rw [Bool.or_eq_false_iff] at h2
    have := List.any_eq_false.1 h2.1 x hx
    simp at this
    omega
  exact ⟨⟨h1, hle, fun x hx => (ha x hx).2, fun x hx => (ha x hx).1⟩, by rw [ofS_length] at hle; exact hle⟩
theorem tot_le {L : SL} (hc : ∀ x ∈ L, x.2 ≤ 100000) : tot (fun _ => 1) L ≤ 100000 * L.length := by
  induction L with
  | nil => simp [tot]
  | cons x r ih =>
    have h1 := hc x List.mem_cons_self
    have h2 := ih fun y hy => hc y (List.mem_cons_of_mem _ hy)
    simp only [tot, List.length_cons]
    omega
theorem OkL.tot {L : SL} (h : OkL L) : 0 ≤ tot (fun _ => 1) L ∧ tot (fun _ => 1) L ≤ 4000000 := by
  have h1 := tot_le h.cnt
  have h2 := h.le
  exact ⟨tot_one_pos h.vl.2.1, by omega⟩
theorem plus_keys {k : Nat} {t : SL} : ∀ {s : SL}, (∀ x ∈ s, x.1.length ≤ k) → (∀ x ∈ t, x.1.length ≤ k) → ∀ x ∈ plusL s t, x.1.length ≤ k := by
  induction t with
  | nil => intro s h _; exact h
  | cons y r ih =>
    intro s h hk
    refine ih (s := putL y.1 y.2 s) (fun x hx => ?_) (fun x hx => hk x (List.mem_cons_of_mem _ hx))
    rcases mem_put hx with e | hx
    · rw [e]; exact hk y List.mem_cons_self
    · exact h x hx
theorem inn_keys {k : Nat} {a : Key × Int} {t : SL} : ∀ {o : SL}, a.1.length ≤ k → (∀ x ∈ t, x.1.length ≤ k) → (∀ x ∈ o, x.1.length ≤ 2 * k) → ∀ x ∈ innL a t o, x.1.length ≤ 2 * k := by
  induction t with
  | nil => intro o _ _ h; exact h
  | cons y r ih =>
    intro o ha hk h
    refine ih (o := putL (mx a.1 y.1) (a.2 * y.2) o) ha (fun x hx => hk x (List.mem_cons_of_mem _ hx)) (fun x hx => ?_)
    rcases mem_put hx with e | hx
    · rw [e, (mx_perm a.1 y.1).length_eq, List.length_append]
      have := hk y List.mem_cons_self
      omega
    · exact h x hx
theorem times_keys {k : Nat} {s t : SL} (ht : ∀ x ∈ t, x.1.length ≤ k) : ∀ {o : SL}, (∀ x ∈ s, x.1.length ≤ k) → (∀ x ∈ o, x.1.length ≤ 2 * k) → ∀ x ∈ timesF s t o, x.1.length ≤ 2 * k := by
  induction s with
  | nil => intro o _ h; exact h
  | cons a r ih =>
    intro o hs h
    exact ih (o := innL a t o) (fun x hx => hs x (List.mem_cons_of_mem _ hx)) (inn_keys (hs a List.mem_cons_self) ht h)
/-- What the two give. -/
structure OkR (L : SL) : Prop where
  vl : VL L
  key : ∀ x ∈ L, x.1.length ≤ 1000
  tot : Go.Proofs.YtehdemcfeoiecaaDoor.tot (fun _ => 1) L ≤ 4000000000000000000
theorem OkL.plus {s t : SL} (hs : OkL s) (ht : OkL t) : OkR (plusL s t) :=
  ⟨hs.vl.plus ht.vl, fun x hx => Nat.le_trans (plus_keys hs.key ht.key x hx) (by omega), by rw [tot_plus]; have := hs.tot; have := ht.tot; omega⟩
theorem OkL.times {s t : SL} (hs : OkL s) (ht : OkL t) : OkR (timesL s t) :=
  ⟨hs.vl.times ht.vl, fun x hx => Nat.le_trans (times_keys (o := []) ht.key hs.key (by simp) x hx) (by omega), by
    rw [tot_times]
    have e : Go.Proofs.YtehdemcfeoiecaaDoor.tot (fun _ => Go.Proofs.YtehdemcfeoiecaaDoor.tot (fun _ => 1) t) s = Go.Proofs.YtehdemcfeoiecaaDoor.tot (fun _ => 1) t * Go.Proofs.YtehdemcfeoiecaaDoor.tot (fun _ => 1) s := by
      rw [← tot_mul]; simp
    rw [e]
    have h1 := hs.tot
    have h2 := ht.tot
    have := Int.mul_le_mul h2.2 h1.2 h1.1 (by omega)
    omega⟩
/-- What is answered. -/
def ansL (ok : Bool) (P : SL) : SL := if ok = true then (if overL P = true then [] else P) else []
def ansE (ok : Bool) (P : SL) : Int := if ok = true then (if overL P = true then 4 else 0) else 92

set_option maxRecDepth 100000 in
set_option maxHeartbeats 8000000 in
theorem made_plus (a : Option Addr) (n c : Nat) (f : Nat → ByteArray) (g : Nat → Int) (a' : Option Addr) (n' c' : Nat) (f' : Nat → ByteArray) (g' : Nat → Int) (w : World) (hn : n ≤ 9223372036854775807) (hn' : n' ≤ 9223372036854775807)
    (hz : ∀ i, i < n → (f i).size ≤ 9223372036854775807) (hz' : ∀ i, i < n' → (f' i).size ≤ 9223372036854775807) (hr : RdS w a n f g) (hr' : RdS w a' n' f' g') :
    Calls Tryd.prog 37 #[.slice a n c, .slice a' n' c', .func (.func 38) #[] #[]] w (RetSE (ansL (vS f g n && vS f' g' n') (plusL (ofS f g n) (ofS f' g' n'))) (ansE (vS f g n && vS f' g' n') (plusL (ofS f g n) (ofS f' g' n'))) w) := by
  have HR := Lib.hid hr
  have HR' := Lib.hid hr'
  have C1 := Lib.hid (ValidSum_any a n c f g w hn hz hr)
  have C2 := Lib.hid (fun w1 (g1 : Gr w w1) => ValidSum_any a' n' c' f' g' w1 hn' hz' (hr'.gr g1))
  have HZ := Lib.hid (And.intro hz hz')
  clear hr hr' hz hz'
  have HO := Lib.hid (And.intro (fun h => OkL.of (f := f) (g := g) (n := n) h) (fun h => OkL.of (f := f') (g := g') (n := n') h))
  cases hv : vS f g n with
  | false =>
    rw [hv] at C1
    clear HO
    go_enter Tryd.func37, Tryd.ntmps37
    go_wp2_with (go_at_call 19; refine C1.out.mono ?_; rintro e w1 ⟨rfl, g1⟩; have G1 := Lib.hid g1; clear g1)
    refine bodyPost_ret (v := .tuple #[.slice none 0 0, .int .i64 92]) (by simp [results, Tryd.results37, go_sem]) rfl ?_
    exact RetSE.none G1.out _
  | true =>
    cases hv' : vS f' g' n' with
    | false =>
      rw [hv] at C1
      rw [hv'] at C2
      clear HO
      go_enter Tryd.func37, Tryd.ntmps37
      go_wp2_with (first
        | (go_at_call 19; refine C1.out.mono ?_; rintro e w1 ⟨rfl, g1⟩; have G1 := Lib.hid g1; clear g1 C1)
        | (go_at_call 19; refine (C2.out _ G1.out).mono ?_; rintro e w2 ⟨rfl, g2⟩; have G2 := Lib.hid (G1.out.trans g2); clear g2 C2))
      refine bodyPost_ret (v := .tuple #[.slice none 0 0, .int .i64 92]) (by simp [results, Tryd.results37, go_sem]) rfl ?_
      exact RetSE.none G2.out _
    | true =>
      rw [hv] at C1
      rw [hv'] at C2
      obtain ⟨O1, m1⟩ := HO.out.1 hv
      obtain ⟨O2, m2⟩ := HO.out.2 hv'
      have D1 := Lib.hid (fun w1 (g1 : Gr w w1) => newSum_any a n c f g w1 O1.vl.1 (by omega) (fun i hi => ⟨HZ.out.1 i hi, O1.vl.2.1 _ (ofS_mem.2 ⟨i, hi, rfl⟩), by have := O1.cnt _ (ofS_mem.2 ⟨i, hi, rfl⟩); simp only [] at this; omega⟩) (HR.out.gr g1))
      have D2 := Lib.hid (fun w1 (g1 : Gr w w1) => newSum_any a' n' c' f' g' w1 O2.vl.1 (by omega) (fun i hi => ⟨HZ.out.2 i hi, O2.vl.2.1 _ (ofS_mem.2 ⟨i, hi, rfl⟩), by have := O2.cnt _ (ofS_mem.2 ⟨i, hi, rfl⟩); simp only [] at this; omega⟩) (HR'.out.gr g1))
      have HOo := Lib.hid (And.intro O1 O2)
      have HRr := Lib.hid (O1.plus O2)
      clear O1 O2 HO HR HR' HZ
      generalize ofS f g n = Ls at *
      generalize ofS f' g' n' = Lt at *
      go_enter Tryd.func37, Tryd.ntmps37
      go_wp2_with (first
        | (go_at_call 19; refine C1.out.mono ?_; rintro e w1 ⟨rfl, g1⟩; have G1 := Lib.hid g1; clear g1 C1)
        | (go_at_call 19; refine (C2.out _ G1.out).mono ?_; rintro e w2 ⟨rfl, g2⟩; have G2 := Lib.hid (G1.out.trans g2); clear g2 C2)
        | (go_at_call 60; refine (D1.out _ G2.out).mono ?_; rintro e w3 ⟨b1, k1, rfl, l1, o1, g3, _⟩; have A3 := Lib.hid (And.intro l1 o1); have G3 := Lib.hid (G2.out.trans g3); clear g3 D1 l1 o1)
        | (go_at_call 60; refine (D2.out _ G3.out).mono ?_; rintro e w4 ⟨b2, k2, rfl, l2, o2, g4, _⟩; have A4 := Lib.hid (And.intro l2 o2); have A3' := Lib.hid (A3.out.2.gr g4); have G4 := Lib.hid (G3.out.trans g4); clear g4 D2 l2 o2)
        | (go_at_call 38; refine (plus_any b1 b2 k1 k2 Ls Lt w4 A3'.out A4.out.2 (by have := A3.out.1; have := A4.out.1; omega) HOo.out.1.vl.1 HOo.out.2.vl.1 HOo.out.1.vl.2.1 HOo.out.2.vl.2.1 (by have := HRr.out.tot; rw [tot_plus] at this; exact this)).mono ?_; rintro e w5 ⟨b3, k3, rfl, l3, o3, g5, _⟩; have A5 := Lib.hid (And.intro l3 o3); have G5 := Lib.hid (G4.out.trans g5); clear g5 l3 o3)
        | (go_at_call 61; refine (products_any b3 k3 (plusL Ls Lt) w5 A5.out.2 A5.out.1 HRr.out.vl HRr.out.key HRr.out.tot).mono ?_; rintro e w6 ⟨a6, c6, rfl, q1, q2, q3, g6⟩; have A6 := Lib.hid (And.intro q1 (And.intro q2 q3)); have G6 := Lib.hid (G5.out.trans g6); clear g6 q1 q2 q3))
      · rename_i ho
        refine bodyPost_ret (v := .tuple #[.slice none 0 0, .int .i64 4]) (by simp [results, Tryd.results37, go_sem]) rfl ?_
        rw [show ansL (true && true) (plusL Ls Lt) = [] by simp [ansL, ho], show ansE (true && true) (plusL Ls Lt) = 4 by simp [ansE, ho]]
        exact RetSE.none G6.out _
      · rename_i ho
        refine bodyPost_ret (v := .tuple #[.slice a6 (plusL Ls Lt).length c6, .int .i64 0]) (by simp [results, Tryd.results37, go_sem]) rfl ?_
        rw [show ansL (true && true) (plusL Ls Lt) = plusL Ls Lt by simp [ansL, ho], show ansE (true && true) (plusL Ls Lt) = 0 by simp [ansE, ho]]
        exact ⟨a6, c6, rfl, A6.out.1, A6.out.2.1, A6.out.2.2, G6.out⟩

set_option maxHeartbeats 1000000 in
theorem Plus_any (a : Option Addr) (n c : Nat) (f : Nat → ByteArray) (g : Nat → Int) (a' : Option Addr) (n' c' : Nat) (f' : Nat → ByteArray) (g' : Nat → Int) (w : World) (hn : n ≤ 9223372036854775807) (hn' : n' ≤ 9223372036854775807)
    (hz : ∀ i, i < n → (f i).size ≤ 9223372036854775807) (hz' : ∀ i, i < n' → (f' i).size ≤ 9223372036854775807) (hr : RdS w a n f g) (hr' : RdS w a' n' f' g') :
    Calls Tryd.prog 15 #[.slice a n c, .slice a' n' c'] w (RetSE (ansL (vS f g n && vS f' g' n') (plusL (ofS f g n) (ofS f' g' n'))) (ansE (vS f g n && vS f' g' n') (plusL (ofS f g n) (ofS f' g' n'))) w) := by
  have C := Lib.hid (made_plus a n c f g a' n' c' f' g' w hn hn' hz hz' hr hr')
  clear hz hz' hr hr'
  generalize ansL (vS f g n && vS f' g' n') (plusL (ofS f g n) (ofS f' g' n')) = P at *
  generalize ansE (vS f g n && vS f' g' n') (plusL (ofS f g n) (ofS f' g' n')) = E at *
  go_enter Tryd.func15, Tryd.ntmps15
  go_wp2_with (go_at_call 37; refine C.out.mono ?_; rintro e w1 ⟨a1, c1, rfl, h1, h2, h3, h4⟩; have H := Lib.hid (And.intro h1 (And.intro h2 (And.intro h3 h4))); clear h1 h2 h3 h4)
  refine bodyPost_ret (v := .tuple #[.slice a1 P.length c1, .int .i64 E]) (by simp [results, Tryd.results15, go_sem]) rfl ?_
  exact ⟨a1, c1, rfl, H.out.1, H.out.2.1, H.out.2.2.1, H.out.2.2.2⟩

set_option maxRecDepth 100000 in
set_option maxHeartbeats 8000000 in
theorem made_times (a : Option Addr) (n c : Nat) (f : Nat → ByteArray) (g : Nat → Int) (a' : Option Addr) (n' c' : Nat) (f' : Nat → ByteArray) (g' : Nat → Int) (w : World) (hn : n ≤ 9223372036854775807) (hn' : n' ≤ 9223372036854775807)
    (hz : ∀ i, i < n → (f i).size ≤ 9223372036854775807) (hz' : ∀ i, i < n' → (f' i).size ≤ 9223372036854775807) (hr : RdS w a n f g) (hr' : RdS w a' n' f' g') :
    Calls Tryd.prog 37 #[.slice a n c, .slice a' n' c', .func (.func 41) #[] #[]] w (RetSE (ansL (vS f g n && vS f' g' n') (timesL (ofS f g n) (ofS f' g' n'))) (ansE (vS f g n && vS f' g' n') (timesL (ofS f g n) (ofS f' g' n'))) w) := by
  have HR := Lib.hid hr
  have HR' := Lib.hid hr'
  have C1 := Lib.hid (ValidSum_any a n c f g w hn hz hr)
  have C2 := Lib.hid (fun w1 (g1 : Gr w w1) => ValidSum_any a' n' c' f' g' w1 hn' hz' (hr'.gr g1))
  have HZ := Lib.hid (And.intro hz hz')
  clear hr hr' hz hz'
  have HO := Lib.hid (And.intro (fun h => OkL.of (f := f) (g := g) (n := n) h) (fun h => OkL.of (f := f') (g := g') (n := n') h))
  cases hv : vS f g n with
  | false =>
    rw [hv] at C1
    clear HO
    go_enter Tryd.func37, Tryd.ntmps37
    go_wp2_with (go_at_call 19; refine C1.out.mono ?_; rintro e w1 ⟨rfl, g1⟩; have G1 := Lib.hid g1; clear g1)
    refine bodyPost_ret (v := .tuple #[.slice none 0 0, .int .i64 92]) (by simp [results, Tryd.results37, go_sem]) rfl ?_
    exact RetSE.none G1.out _
  | true =>
    cases hv' : vS f' g' n' with
    | false =>
      rw [hv] at C1
      rw [hv'] at C2
      clear HO
      go_enter Tryd.func37, Tryd.ntmps37
      go_wp2_with (first
        | (go_at_call 19; refine C1.out.mono ?_; rintro e w1 ⟨rfl, g1⟩; have G1 := Lib.hid g1; clear g1 C1)
        | (go_at_call 19; refine (C2.out _ G1.out).mono ?_; rintro e w2 ⟨rfl, g2⟩; have G2 := Lib.hid (G1.out.trans g2); clear g2 C2))
      refine bodyPost_ret (v := .tuple #[.slice none 0 0, .int .i64 92]) (by simp [results, Tryd.results37, go_sem]) rfl ?_
      exact RetSE.none G2.out _
    | true =>
      rw [hv] at C1
      rw [hv'] at C2
      obtain ⟨O1, m1⟩ := HO.out.1 hv
      obtain ⟨O2, m2⟩ := HO.out.2 hv'
      have D1 := Lib.hid (fun w1 (g1 : Gr w w1) => newSum_any a n c f g w1 O1.vl.1 (by omega) (fun i hi => ⟨HZ.out.1 i hi, O1.vl.2.1 _ (ofS_mem.2 ⟨i, hi, rfl⟩), by have := O1.cnt _ (ofS_mem.2 ⟨i, hi, rfl⟩); simp only [] at this; omega⟩) (HR.out.gr g1))
      have D2 := Lib.hid (fun w1 (g1 : Gr w w1) => newSum_any a' n' c' f' g' w1 O2.vl.1 (by omega) (fun i hi => ⟨HZ.out.2 i hi, O2.vl.2.1 _ (ofS_mem.2 ⟨i, hi, rfl⟩), by have := O2.cnt _ (ofS_mem.2 ⟨i, hi, rfl⟩); simp only [] at this; omega⟩) (HR'.out.gr g1))
      have HOo := Lib.hid (And.intro O1 O2)
      have HRr := Lib.hid (O1.times O2)
      clear O1 O2 HO HR HR' HZ
      generalize ofS f g n = Ls at *
      generalize ofS f' g' n' = Lt at *
      go_enter Tryd.func37, Tryd.ntmps37
      go_wp2_with (first
        | (go_at_call 19; refine C1.out.mono ?_; rintro e w1 ⟨rfl, g1⟩; have G1 := Lib.hid g1; clear g1 C1)
        | (go_at_call 19; refine (C2.out _ G1.out).mono ?_; rintro e w2 ⟨rfl, g2⟩; have G2 := Lib.hid (G1.out.trans g2); clear g2 C2)
        | (go_at_call 60; refine (D1.out _ G2.out).mono ?_; rintro e w3 ⟨b1, k1, rfl, l1, o1, g3, _⟩; have A3 := Lib.hid (And.intro l1 o1); have G3 := Lib.hid (G2.out.trans g3); clear g3 D1 l1 o1)
        | (go_at_call 60; refine (D2.out _ G3.out).mono ?_; rintro e w4 ⟨b2, k2, rfl, l2, o2, g4, _⟩; have A4 := Lib.hid (And.intro l2 o2); have A3' := Lib.hid (A3.out.2.gr g4); have G4 := Lib.hid (G3.out.trans g4); clear g4 D2 l2 o2)
        | (go_at_call 41; refine (times_any b1 b2 k1 k2 Ls Lt w4 A3'.out A4.out.2 (by have := A3.out.1; omega) (by have := A4.out.1; omega) HOo.out.1.vl.1 HOo.out.2.vl.1 HOo.out.1.vl.2.1 HOo.out.2.vl.2.1 HRr.out.tot (fun x hx => Nat.le_trans (HOo.out.1.key x hx) (by omega)) (fun x hx => Nat.le_trans (HOo.out.2.key x hx) (by omega))).mono ?_; rintro e w5 ⟨b3, k3, rfl, l3, o3, g5, _⟩; have A5 := Lib.hid (And.intro l3 o3); have G5 := Lib.hid (G4.out.trans g5); clear g5 l3 o3)
        | (go_at_call 61; refine (products_any b3 k3 (timesL Ls Lt) w5 A5.out.2 A5.out.1 HRr.out.vl HRr.out.key HRr.out.tot).mono ?_; rintro e w6 ⟨a6, c6, rfl, q1, q2, q3, g6⟩; have A6 := Lib.hid (And.intro q1 (And.intro q2 q3)); have G6 := Lib.hid (G5.out.trans g6); clear g6 q1 q2 q3))
      · rename_i ho
        refine bodyPost_ret (v := .tuple #[.slice none 0 0, .int .i64 4]) (by simp [results, Tryd.results37, go_sem]) rfl ?_
        rw [show ansL (true && true) (timesL Ls Lt) = [] by simp [ansL, ho], show ansE (true && true) (timesL Ls Lt) = 4 by simp [ansE, ho]]
        exact RetSE.none G6.out _
      · rename_i ho
        refine bodyPost_ret (v := .tuple #[.slice a6 (timesL Ls Lt).length c6, .int .i64 0]) (by simp [results, Tryd.results37, go_sem]) rfl ?_
        rw [show ansL (true && true) (timesL Ls Lt) = timesL Ls Lt by simp [ansL, ho], show ansE (true && true) (timesL Ls Lt) = 0 by simp [ansE, ho]]
        exact ⟨a6, c6, rfl, A6.out.1, A6.out.2.1, A6.out.2.2, G6.out⟩

set_option maxHeartbeats 1000000 in
theorem Times_any (a : Option Addr) (n c : Nat) (f : Nat → ByteArray) (g : Nat → Int) (a' : Option Addr) (n' c' : Nat) (f' : Nat → ByteArray) (g' : Nat → Int) (w : World) (hn : n ≤ 9223372036854775807) (hn' : n' ≤ 9223372036854775807)
    (hz : ∀ i, i < n → (f i).size ≤ 9223372036854775807) (hz' : ∀ i, i < n' → (f' i).size ≤ 9223372036854775807) (hr : RdS w a n f g) (hr' : RdS w a' n' f' g') :
    Calls Tryd.prog 17 #[.slice a n c, .slice a' n' c'] w (RetSE (ansL (vS f g n && vS f' g' n') (timesL (ofS f g n) (ofS f' g' n'))) (ansE (vS f g n && vS f' g' n') (timesL (ofS f g n) (ofS f' g' n'))) w) := by
  have C := Lib.hid (made_times a n c f g a' n' c' f' g' w hn hn' hz hz' hr hr')
  clear hz hz' hr hr'
  generalize ansL (vS f g n && vS f' g' n') (timesL (ofS f g n) (ofS f' g' n')) = P at *
  generalize ansE (vS f g n && vS f' g' n') (timesL (ofS f g n) (ofS f' g' n')) = E at *
  go_enter Tryd.func17, Tryd.ntmps17
  go_wp2_with (go_at_call 37; refine C.out.mono ?_; rintro e w1 ⟨a1, c1, rfl, h1, h2, h3, h4⟩; have H := Lib.hid (And.intro h1 (And.intro h2 (And.intro h3 h4))); clear h1 h2 h3 h4)
  refine bodyPost_ret (v := .tuple #[.slice a1 P.length c1, .int .i64 E]) (by simp [results, Tryd.results17, go_sem]) rfl ?_
  exact ⟨a1, c1, rfl, H.out.1, H.out.2.1, H.out.2.2.1, H.out.2.2.2⟩
end Go.Proofs.YtehdemcfeoiecaaDoor
