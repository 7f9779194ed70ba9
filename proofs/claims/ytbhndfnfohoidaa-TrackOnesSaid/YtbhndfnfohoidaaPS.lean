/- The slopes of all pairs, sorted, and their median: the plain law; raised and turned points, and points on one line. -/
import Derived.Test.YtbhndfnfohoidaaPH
namespace Go.Proofs.Ytbhndfnfohoidaa
open Go.Firn

/-- A ratio in lowest terms. -/
def Rd (x : Int × Int) : Prop := 0 < x.2 ∧ x.1.gcd x.2 = 1
def leR (a b : Int × Int) : Prop := a.1 * b.2 ≤ b.1 * a.2
theorem leR_trans {a b c : Int × Int} (ha : 0 < a.2) (hb : 0 < b.2) (hc : 0 < c.2) (h1 : leR a b) (h2 : leR b c) : leR a c := by
  unfold leR at *
  have k1 : a.1 * b.2 * c.2 ≤ b.1 * a.2 * c.2 := Int.mul_le_mul_of_nonneg_right h1 (by omega)
  have k2 : b.1 * c.2 * a.2 ≤ c.1 * b.2 * a.2 := Int.mul_le_mul_of_nonneg_right h2 (by omega)
  have e1 : a.1 * b.2 * c.2 = b.2 * (a.1 * c.2) := by grind
  have e2 : b.1 * a.2 * c.2 = b.1 * c.2 * a.2 := by grind
  have e3 : c.1 * b.2 * a.2 = b.2 * (c.1 * a.2) := by grind
  rw [e1, e2] at k1
  rw [e3] at k2
  exact Int.le_of_mul_le_mul_left (Int.le_trans k1 k2) hb
theorem leR_anti {a b : Int × Int} (ha : Rd a) (hb : Rd b) (h1 : leR a b) (h2 : leR b a) : a = b := by
  unfold leR at *
  obtain ⟨e1, e2⟩ := cop_eq ha.2 hb.2 ha.1 hb.1 (by omega)
  exact Prod.ext e1 e2

/-- R holds what L holds, sorted. -/
def IsSrt (L R : List (Int × Int)) : Prop := R.Perm L ∧ R.Pairwise leR
theorem IsSrt.unique {L R R' : List (Int × Int)} (hL : ∀ x ∈ L, Rd x) (h : IsSrt L R) (h' : IsSrt L R') : R = R' :=
  List.Perm.eq_of_pairwise (le := leR) (fun a b ha hb h1 h2 => leR_anti (hL a (h.1.mem_iff.1 ha)) (hL b (h'.1.mem_iff.1 hb)) h1 h2) h.2 h'.2 (h.1.trans h'.1.symm)

/-- The reference's way: behind all that are less. -/
def ins (x : Int × Int) : List (Int × Int) → List (Int × Int)
  | [] => [x]
  | y :: l => if y.1 * x.2 < x.1 * y.2 then y :: ins x l else x :: y :: l
def iso (L : List (Int × Int)) : List (Int × Int) := L.foldl (fun acc x => ins x acc) []
theorem iso_snoc (L : List (Int × Int)) (x : Int × Int) : iso (L ++ [x]) = ins x (iso L) := by unfold iso; rw [List.foldl_append]; rfl
theorem ins_perm (x : Int × Int) : ∀ l, (ins x l).Perm (x :: l)
  | [] => List.Perm.refl _
  | y :: l => by
    unfold ins
    split
    · exact ((ins_perm x l).cons y).trans (List.Perm.swap x y l)
    · exact List.Perm.refl _
theorem ins_pairwise {x : Int × Int} (hx : 0 < x.2) : ∀ {l : List (Int × Int)}, (∀ y ∈ l, 0 < y.2) → l.Pairwise leR → (ins x l).Pairwise leR
  | [], _, _ => by unfold ins; exact List.pairwise_singleton _ _
  | y :: l, hl, hp => by
    obtain ⟨h1, h2⟩ := List.pairwise_cons.1 hp
    unfold ins
    split
    · rename_i h
      refine List.pairwise_cons.2 ⟨fun z hz => ?_, ins_pairwise hx (fun z hz => hl z (List.mem_cons_of_mem _ hz)) h2⟩
      rcases List.mem_cons.1 ((ins_perm x l).mem_iff.1 hz) with rfl | hz
      · unfold leR; omega
      · exact h1 z hz
    · rename_i h
      have hxy : leR x y := by unfold leR; omega
      refine List.pairwise_cons.2 ⟨fun z hz => ?_, hp⟩
      rcases List.mem_cons.1 hz with rfl | hz
      · exact hxy
      · exact leR_trans hx (hl y (List.mem_cons_self ..)) (hl z (List.mem_cons_of_mem _ hz)) hxy (h1 z hz)
theorem iso_perm (L : List (Int × Int)) : (iso L).Perm L := by
  have : ∀ (M acc : List (Int × Int)), (M.foldl (fun acc x => ins x acc) acc).Perm (acc ++ M) := by
    intro M
    induction M with
    | nil => intro acc; simp
    | cons x M ih =>
      intro acc
      refine (ih (ins x acc)).trans ?_
      refine ((ins_perm x acc).append_right M).trans ?_
      exact (List.perm_middle (a := x) (l₁ := acc) (l₂ := M)).symm
  have h := this L []
  rw [List.nil_append] at h
  exact h
theorem iso_srt {L : List (Int × Int)} (hL : ∀ x ∈ L, 0 < x.2) : IsSrt L (iso L) := by
  refine ⟨iso_perm L, ?_⟩
  have : ∀ (M acc : List (Int × Int)), (∀ x ∈ M, 0 < x.2) → (∀ x ∈ acc, 0 < x.2) → acc.Pairwise leR → (M.foldl (fun acc x => ins x acc) acc).Pairwise leR := by
    intro M
    induction M with
    | nil => intro acc _ _ h; exact h
    | cons x M ih =>
      intro acc hM ha h
      refine ih (ins x acc) (fun z hz => hM z (List.mem_cons_of_mem _ hz)) (fun z hz => ?_) (ins_pairwise (hM x (List.mem_cons_self ..)) ha h)
      rcases List.mem_cons.1 ((ins_perm x acc).mem_iff.1 hz) with rfl | hz
      · exact hM _ (List.mem_cons_self ..)
      · exact ha z hz
  exact this L [] hL (fun x hx => by cases hx) List.Pairwise.nil
theorem iso_length (L : List (Int × Int)) : (iso L).length = L.length := (iso_perm L).length_eq

/-- The slope of a pair, and all slopes. -/
def slp (X Y : Nat → Int) (q : Nat × Nat) : Int × Int := (rN (pA X Y q) (pD X Y q), rD (pA X Y q) (pD X Y q))
def sls (X Y : Nat → Int) (l : List (Nat × Nat)) : List (Int × Int) := l.map (slp X Y)
def med (L : List (Int × Int)) : Int × Int := (iso L).getD ((L.length - 1) / 2) (0, 0)
theorem slp_rd {n : Nat} {X Y : Nat → Int} (ok : ∀ i, i < n → InP (X i) (Y i)) {q : Nat × Nat} (h : IsPr n X q) : Rd (slp X Y q) ∧ (slp X Y q).2 ≤ 200 ∧ -1000000 ≤ (slp X Y q).1 ∧ (slp X Y q).1 ≤ 1000000 := by
  obtain ⟨hl, d1, d2⟩ := pr_in ok h
  refine ⟨⟨rD_pos _ d1, red_cop d1⟩, Int.le_trans (rD_le _ d1) d2, ?_⟩
  have := rN_abs (n := pA X Y q) d1
  have a1 := hl.1
  unfold InL at hl
  show -1000000 ≤ rN _ _ ∧ rN _ _ ≤ 1000000
  omega
theorem sls_rd {n : Nat} {X Y : Nat → Int} (ok : ∀ i, i < n → InP (X i) (Y i)) {l : List (Nat × Nat)} (h : ∀ q ∈ l, IsPr n X q) : ∀ x ∈ sls X Y l, Rd x := fun x hx => by
  obtain ⟨q, hq, rfl⟩ := List.mem_map.1 hx
  exact (slp_rd ok (h q hq)).1
theorem med_mem {L : List (Int × Int)} (h : L ≠ []) : med L ∈ L := by
  have hl : 0 < L.length := List.length_pos_iff.2 h
  have hi : (L.length - 1) / 2 < (iso L).length := by rw [iso_length]; omega
  unfold med
  rw [List.getD_eq_getElem?_getD, List.getElem?_eq_getElem hi]
  exact (iso_perm L).mem_iff.1 (List.getElem_mem hi)

/-- The slope as the two points give it. -/
theorem slp_val {X Y : Nat → Int} {q : Nat × Nat} (hx : X q.1 ≠ X q.2) : (slp X Y q).1 * (X q.2 - X q.1) = (Y q.2 - Y q.1) * (slp X Y q).2 := by
  obtain ⟨g, hg, h1, h2⟩ := th_rs (X := X) (Y := Y) hx
  have r := red_mul (pA X Y q) (pD X Y q)
  have own := on_own (Y := Y) hx
  have e : pA X Y q * (X q.2 - X q.1) = (Y q.2 - Y q.1) * pD X Y q := by
    have a := own.1
    have b := own.2
    unfold pA pD
    unfold rs at a b
    grind
  have hd : pD X Y q ≠ 0 := fun h0 => by
    have : thD (X q.1) (Y q.1) (X q.2) (Y q.2) = 0 := h0
    rw [this, Int.zero_mul] at h2
    omega
  show rN (pA X Y q) (pD X Y q) * (X q.2 - X q.1) = (Y q.2 - Y q.1) * rD (pA X Y q) (pD X Y q)
  generalize rN (pA X Y q) (pD X Y q) = N at *
  generalize rD (pA X Y q) (pD X Y q) = E at *
  generalize pA X Y q = A at *
  generalize pD X Y q = D at *
  have : D * (N * (X q.2 - X q.1)) = D * ((Y q.2 - Y q.1) * E) := by
    have f1 : D * (N * (X q.2 - X q.1)) = (N * D) * (X q.2 - X q.1) := by grind
    have f2 : D * ((Y q.2 - Y q.1) * E) = ((Y q.2 - Y q.1) * D) * E := by grind
    rw [f1, f2, r, ← e]
    grind
  exact Int.eq_of_mul_eq_mul_left hd this
/-- What fits the two points is the slope. -/
theorem slp_eq {n : Nat} {X Y : Nat → Int} (ok : ∀ i, i < n → InP (X i) (Y i)) {q : Nat × Nat} (h : IsPr n X q) {x : Int × Int} (hx : Rd x) (e : x.1 * (X q.2 - X q.1) = (Y q.2 - Y q.1) * x.2) : slp X Y q = x := by
  obtain ⟨⟨r1, r2⟩, _⟩ := slp_rd ok h
  have v := slp_val (Y := Y) h.2.2
  have hd : X q.2 - X q.1 ≠ 0 := by have := h.2.2; omega
  have : (slp X Y q).1 * x.2 = x.1 * (slp X Y q).2 := by
    have : (X q.2 - X q.1) * ((slp X Y q).1 * x.2) = (X q.2 - X q.1) * (x.1 * (slp X Y q).2) := by
      generalize (slp X Y q).1 = N at *
      generalize (slp X Y q).2 = E at *
      have f1 : (X q.2 - X q.1) * (N * x.2) = (N * (X q.2 - X q.1)) * x.2 := by grind
      have f2 : (X q.2 - X q.1) * (x.1 * E) = (x.1 * (X q.2 - X q.1)) * E := by grind
      rw [f1, f2, v, e]
      grind
    exact Int.eq_of_mul_eq_mul_left hd this
  obtain ⟨e1, e2⟩ := cop_eq r2 hx.2 r1 hx.1 this
  exact Prod.ext e1 e2

/-- The pairs depend on the X alone, and on which are the same. -/
theorem prow_same {X X' : Nat → Int} {k : Nat} (h : ∀ i j, (X i = X j ↔ X' i = X' j)) : ∀ m, prow X k m = prow X' k m := by
  intro m
  induction m with
  | zero => rfl
  | succ m ih =>
    unfold prow
    rw [ih]
    by_cases e : X m = X k
    · simp [e, (h m k).1 e]
    · have e' : ¬ X' m = X' k := fun e' => e ((h m k).2 e')
      simp [e, e']
theorem prs_same {X X' : Nat → Int} (h : ∀ i j, (X i = X j ↔ X' i = X' j)) : ∀ n, prs X n = prs X' n := by
  intro n
  induction n with
  | zero => rfl
  | succ n ih => unfold prs; rw [ih, prow_same h]

theorem iso_ne {L : List (Int × Int)} (h : L ≠ []) : (L.length - 1) / 2 < (iso L).length := by
  have hl : 0 < L.length := List.length_pos_iff.2 h
  rw [iso_length]; omega
theorem med_map {L : List (Int × Int)} {f : Int × Int → Int × Int} (h : L ≠ []) (hr : ∀ x ∈ L.map f, Rd x) (hL : ∀ x ∈ L, 0 < x.2) (hm : ∀ a b, leR a b → leR (f a) (f b)) : med (L.map f) = f (med L) := by
  have h1 := iso_srt hL
  have h2 : IsSrt (L.map f) ((iso L).map f) := ⟨h1.1.map f, List.Pairwise.map f (fun a b => hm a b) h1.2⟩
  have e := IsSrt.unique hr (iso_srt fun x hx => (hr x hx).1) h2
  have hi := iso_ne h
  unfold med
  rw [e, List.length_map, List.getD_eq_getElem?_getD, List.getD_eq_getElem?_getD, List.getElem?_map, List.getElem?_eq_getElem hi]
  rfl
theorem med_rev {L : List (Int × Int)} {f : Int × Int → Int × Int} (h : L.length % 2 = 1) (hr : ∀ x ∈ L.map f, Rd x) (hL : ∀ x ∈ L, 0 < x.2) (hm : ∀ a b, leR a b → leR (f b) (f a)) : med (L.map f) = f (med L) := by
  have h1 := iso_srt hL
  have h2 : IsSrt (L.map f) ((iso L).map f).reverse := ⟨(List.reverse_perm _).trans (h1.1.map f), by
    rw [List.pairwise_reverse]
    exact List.Pairwise.map f (fun a b => hm a b) h1.2⟩
  have e := IsSrt.unique hr (iso_srt fun x hx => (hr x hx).1) h2
  have hi : (L.length - 1) / 2 < (iso L).length := by rw [iso_length]; omega
  unfold med
  rw [e, List.length_map, List.getD_eq_getElem?_getD, List.getD_eq_getElem?_getD, List.getElem?_reverse (by rw [List.length_map]; exact hi), List.length_map, List.getElem?_map]
  have e2 : (iso L).length - 1 - (L.length - 1) / 2 = (L.length - 1) / 2 := by rw [iso_length]; omega
  rw [e2, List.getElem?_eq_getElem hi]
  rfl

def upS (s : Int) (x : Int × Int) : Int × Int := (x.1 + s * x.2, x.2)
def ngS (x : Int × Int) : Int × Int := (-x.1, x.2)
theorem upS_rd {s : Int} {x : Int × Int} (h : Rd x) : Rd (upS s x) := ⟨h.1, by
  show (x.1 + s * x.2).gcd x.2 = 1
  rw [Int.gcd_add_mul_right_left]
  exact h.2⟩
theorem ngS_rd {x : Int × Int} (h : Rd x) : Rd (ngS x) := ⟨h.1, by show (-x.1).gcd x.2 = 1; rw [Int.neg_gcd]; exact h.2⟩
theorem raised_sls {n : Nat} {X Y : Nat → Int} {s u : Int} (ok : ∀ i, i < n → InP (X i) (Y i)) (ok' : ∀ i, i < n → InP (X i) (rz X Y s u i)) {l : List (Nat × Nat)} (h : ∀ q ∈ l, IsPr n X q) : sls X (rz X Y s u) l = (sls X Y l).map (upS s) := by
  unfold sls
  rw [List.map_map]
  refine List.map_congr_left fun q hq => ?_
  have v := slp_val (Y := Y) (h q hq).2.2
  refine slp_eq ok' (h q hq) (upS_rd (slp_rd ok (h q hq)).1) ?_
  show ((slp X Y q).1 + s * (slp X Y q).2) * (X q.2 - X q.1) = (Y q.2 + (s * X q.2 + u) - (Y q.1 + (s * X q.1 + u))) * (slp X Y q).2
  have e1 : ((slp X Y q).1 + s * (slp X Y q).2) * (X q.2 - X q.1) = (slp X Y q).1 * (X q.2 - X q.1) + s * (slp X Y q).2 * (X q.2 - X q.1) := Int.add_mul _ _ _
  rw [e1, v]
  grind
theorem turned_sls {n : Nat} {X Y : Nat → Int} (ok : ∀ i, i < n → InP (X i) (Y i)) {l : List (Nat × Nat)} (h : ∀ q ∈ l, IsPr n X q) : sls (fun j => -X j) Y l = (sls X Y l).map ngS := by
  unfold sls
  rw [List.map_map]
  refine List.map_congr_left fun q hq => ?_
  have v := slp_val (Y := Y) (h q hq).2.2
  have hq' : IsPr n (fun j => -X j) q := ⟨(h q hq).1, (h q hq).2.1, fun e => (h q hq).2.2 (by have e : -X q.1 = -X q.2 := e; omega)⟩
  refine slp_eq (fun i hi => by have := ok i hi; unfold InP at *; omega) hq' (ngS_rd (slp_rd ok (h q hq)).1) ?_
  show -(slp X Y q).1 * (-X q.2 - -X q.1) = (Y q.2 - Y q.1) * (slp X Y q).2
  rw [← v]
  grind
/-- The median slope of raised points. -/
theorem raised_med {n : Nat} {X Y : Nat → Int} {s u : Int} (V : VP n X Y) (V' : VP n X (rz X Y s u)) : med (sls X (rz X Y s u) (prs X n)) = upS s (med (sls X Y (prs X n))) := by
  have hp := prs_pr (X := X) (Nat.le_refl n)
  have hne : sls X Y (prs X n) ≠ [] := fun e => prs_ne V (List.map_eq_nil_iff.1 e)
  have hr := sls_rd V'.ok hp
  rw [raised_sls V.ok V'.ok hp] at hr ⊢
  refine med_map hne hr (fun x hx => (sls_rd V.ok hp x hx).1) fun a b h => ?_
  unfold leR upS at *
  have e1 : (a.1 + s * a.2) * b.2 = a.1 * b.2 + s * a.2 * b.2 := Int.add_mul _ _ _
  have e2 : (b.1 + s * b.2) * a.2 = b.1 * a.2 + s * a.2 * b.2 := by grind
  show (a.1 + s * a.2) * b.2 ≤ (b.1 + s * b.2) * a.2
  omega
/-- The median slope of turned points, if there are an odd number of slopes. -/
theorem turned_med {n : Nat} {X Y : Nat → Int} (V : VP n X Y) (ho : (prs X n).length % 2 = 1) : med (sls (fun j => -X j) Y (prs (fun j => -X j) n)) = ngS (med (sls X Y (prs X n))) := by
  have hp := prs_pr (X := X) (Nat.le_refl n)
  have hp' := prs_pr (X := fun j => -X j) (Nat.le_refl n)
  have es : prs (fun j => -X j) n = prs X n := (prs_same (fun i j => by constructor <;> intro h <;> omega) n).symm
  have hr := sls_rd (turned_valid V).ok hp'
  rw [es] at hr ⊢
  rw [turned_sls V.ok hp] at hr ⊢
  refine med_rev (by unfold sls; rw [List.length_map]; exact ho) hr (fun x hx => (sls_rd V.ok hp x hx).1) fun a b h => ?_
  unfold leR ngS at *
  show -b.1 * a.2 ≤ -a.1 * b.2
  rw [Int.neg_mul, Int.neg_mul]
  omega
/-- The median slope of points on one line. -/
theorem line_med {n : Nat} {X Y : Nat → Int} (V : VP n X Y) {A B D : Int} (hD : 0 < D) (h : ∀ j, j < n → rs (X j) (Y j) A B D = 0) : med (sls X Y (prs X n)) = (rN A D, rD A D) := by
  have hp := prs_pr (X := X) (Nat.le_refl n)
  have hne : sls X Y (prs X n) ≠ [] := fun e => prs_ne V (List.map_eq_nil_iff.1 e)
  obtain ⟨q, hq, e⟩ := List.mem_map.1 (med_mem hne)
  rw [show med (sls X Y (prs X n)) = slp X Y q from e.symm]
  have hq' := hp q hq
  have i1 : q.1 < n := Nat.lt_trans hq'.1 hq'.2.1
  refine slp_eq V.ok hq' ⟨rD_pos _ hD, red_cop hD⟩ ?_
  have h1 := h q.1 i1
  have h2 := h q.2 hq'.2.1
  have r := red_mul A D
  show rN A D * (X q.2 - X q.1) = (Y q.2 - Y q.1) * rD A D
  generalize rN A D = N at *
  generalize rD A D = E at *
  unfold rs at h1 h2
  have k : A * (X q.2 - X q.1) = (Y q.2 - Y q.1) * D := by grind
  have : D * (N * (X q.2 - X q.1)) = D * ((Y q.2 - Y q.1) * E) := by
    have f1 : D * (N * (X q.2 - X q.1)) = (N * D) * (X q.2 - X q.1) := by grind
    have f2 : D * ((Y q.2 - Y q.1) * E) = ((Y q.2 - Y q.1) * D) * E := by grind
    rw [f1, f2, r, ← k]
    grind
  exact Int.eq_of_mul_eq_mul_left (by omega) this

end Go.Proofs.Ytbhndfnfohoidaa
