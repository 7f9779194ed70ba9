/- Sums as the map's datum has them, and as a slice of products has them. -/
import Derived.Test.YtehdemcfeoiecaaDoorP2
import Derived.Test.YtehdemcfeoiecaaDoorP1
import Derived.Maps.Views
import Derived.Sort.KeysCollected
namespace Go.Proofs.YtehdemcfeoiecaaDoor
open Go.Firn

theorem before_is : ∀ a b : Key, bytesBefore a b = decide (a < b)
  | [], [] => by simp [bytesBefore]
  | [], _ :: _ => by simp [bytesBefore]
  | _ :: _, [] => by simp [bytesBefore]
  | x :: a, y :: b => by
    unfold bytesBefore
    rw [before_is a b, Bool.eq_iff_iff]
    simp only [Bool.or_eq_true, Bool.and_eq_true, decide_eq_true_eq, beq_iff_eq, List.cons_lt_cons_iff]

section
variable {H : Type}
def ent (x : Key × Int) : Lit × DataW H := (.string x.1, .lit (.int .i64 x.2))
def mapD (L : SL) : DataW H := .map (L.map ent)

theorem ent_same (x : Key × Int) (k : Key) : (ent (H := H) x).1.sameKey (.string k) = decide (x.1 = k) := by
  show (x.1 == k) = _
  by_cases h : x.1 = k
  · simp [h]
  · simp [h]
theorem find_ent (k : Key) : ∀ L : SL, (L.map (ent (H := H))).find? (fun p => p.1.sameKey (.string k)) = (L.find? fun x => decide (x.1 = k)).map ent
  | [] => rfl
  | x :: r => by
    rw [List.map_cons, List.find?_cons, List.find?_cons, ent_same]
    by_cases h : x.1 = k
    · simp [h]
    · simp only [h, decide_false]; exact find_ent k r
theorem atL_find (k : Key) : ∀ L : SL, atL k L = ((L.find? fun x => decide (x.1 = k)).map (·.2)).getD 0
  | [] => rfl
  | x :: r => by
    unfold atL
    rw [List.find?_cons]
    by_cases h : x.1 = k
    · simp [h]
    · simp only [h, if_false, decide_false]; exact atL_find k r
theorem mapD_at (k : Key) (L : SL) : (mapD (H := H) L).atKey (.string k) (.lit (.int .i64 0)) = .lit (.int .i64 (atL k L)) := by
  show (match (L.map (ent (H := H))).find? (fun p => p.1.sameKey (.string k)) with | some p => p.2 | none => (.lit (.int .i64 0) : DataW H)) = _
  rw [find_ent, atL_find]
  cases L.find? (fun x => decide (x.1 = k)) <;> rfl
theorem mapD_has (k : Key) (L : SL) : Maps.has (mapD (H := H) L) (.string k) = hasL k L := by
  show (L.map ent).any (fun p => p.1.sameKey (.string k)) = L.any fun x => x.1 == k
  rw [List.any_map]
  rfl
theorem mapD_keys (L : SL) : strKeys (mapD (H := H) L) = L.map (·.1) := by
  show (L.map (ent (H := H))).map (fun p : Lit × DataW H => Go.strOf p.1) = _
  rw [List.map_map]
  rfl
theorem mapD_size (L : SL) : Maps.size (mapD (H := H) L) = L.length := by
  show (L.map ent).length = _
  simp
theorem filter_id {L : SL} {k : Key} (h : ∀ x ∈ L, x.1 ≠ k) : (L.map (ent (H := H))).filter (fun p => !p.1.sameKey (.string k)) = L.map ent := by
  rw [List.filter_eq_self]
  intro p hp
  obtain ⟨x, hx, rfl⟩ := List.mem_map.1 hp
  rw [ent_same, decide_eq_false (h x hx)]
  rfl
theorem insert_ent (k : Key) (n : Int) : ∀ {L : SL}, Srt L → DataW.insert (ent (H := H) (k, n)) ((L.map ent).filter fun p => !p.1.sameKey (.string k)) = (setL k n L).map ent
  | [], _ => rfl
  | x :: r, h => by
    obtain ⟨h1, h2⟩ := List.pairwise_cons.1 h
    unfold setL
    rw [List.map_cons, List.filter_cons, ent_same]
    have bf : ∀ a b : Key × Int, (ent (H := H) a).1.before (ent (H := H) b).1 = decide (a.1 < b.1) := fun a b => before_is a.1 b.1
    rcases key_tri x.1 k with hk | hk | hk
    · rw [if_pos hk, decide_eq_false (key_ne hk)]
      simp only [Bool.not_false, if_true]
      unfold DataW.insert
      rw [bf, decide_eq_false (key_asymm hk)]
      simp only [Bool.false_eq_true, if_false]
      rw [insert_ent k n h2]
      rfl
    · rw [if_neg (show ¬ x.1 < k by rw [hk]; exact key_irr k), if_pos hk, decide_eq_true hk]
      simp only [Bool.not_true, Bool.false_eq_true, if_false]
      rw [filter_id (fun y hy => (key_ne (hk ▸ h1 y hy)).symm)]
      cases r with
      | nil => rfl
      | cons y s =>
        rw [List.map_cons]
        unfold DataW.insert
        rw [bf, decide_eq_true (show k < y.1 from hk ▸ h1 y List.mem_cons_self)]
        rfl
    · rw [if_neg (key_asymm hk), if_neg (key_ne hk).symm, decide_eq_false (key_ne hk).symm]
      simp only [Bool.not_false, if_true]
      rw [filter_id (fun y hy => (key_ne (key_tr hk (h1 y hy))).symm)]
      unfold DataW.insert
      rw [bf, decide_eq_true hk]
      rfl
theorem mapD_put {L : SL} (h : Srt L) (k : Key) (n : Int) : (mapD (H := H) L).put (.string k) (.lit (.int .i64 n)) = mapD (setL k n L) := by
  show DataW.map (DataW.insert (ent (k, n)) ((L.map ent).filter fun p => !p.1.sameKey (.string k))) = _
  rw [insert_ent k n h]
  rfl
end
theorem atL_lt {k : Key} : ∀ {L : SL}, (∀ x ∈ L, k < x.1) → atL k L = 0
  | [], _ => rfl
  | x :: r, h => by
    unfold atL
    rw [if_neg (key_ne (h x List.mem_cons_self)).symm]
    exact atL_lt fun y hy => h y (List.mem_cons_of_mem _ hy)
theorem set_at {k : Key} {n : Int} : ∀ {L : SL}, Srt L → setL k (atL k L + n) L = putL k n L
  | [], _ => by simp [setL, putL, atL]
  | x :: r, h => by
    obtain ⟨h1, h2⟩ := List.pairwise_cons.1 h
    unfold setL putL atL
    rcases key_tri x.1 k with hk | hk | hk
    · rw [if_pos hk, if_pos hk, if_neg (key_ne hk), set_at h2]
    · rw [if_neg (show ¬ x.1 < k by rw [hk]; exact key_irr k), if_neg (show ¬ x.1 < k by rw [hk]; exact key_irr k), if_pos hk, if_pos hk, if_pos hk]
    · rw [if_neg (key_asymm hk), if_neg (key_asymm hk), if_neg (key_ne hk).symm, if_neg (key_ne hk).symm, if_neg (key_ne hk).symm, atL_lt (fun y hy => key_tr hk (h1 y hy))]
      simp
theorem set_last {k : Key} {n : Int} : ∀ {L : SL}, (∀ x ∈ L, x.1 < k) → setL k n L = L ++ [(k, n)]
  | [], _ => rfl
  | x :: r, h => by
    unfold setL
    rw [if_pos (h x List.mem_cons_self), set_last fun y hy => h y (List.mem_cons_of_mem _ hy)]
    rfl
theorem atL_mem {L : SL} (h : Srt L) {x : Key × Int} (hx : x ∈ L) : atL x.1 L = x.2 := by
  induction L with
  | nil => cases hx
  | cons y r ih =>
    obtain ⟨h1, h2⟩ := List.pairwise_cons.1 h
    unfold atL
    rcases List.mem_cons.1 hx with e | hx
    · rw [e, if_pos rfl]
    · rw [if_neg (key_ne (h1 x hx)), ih h2 hx]
theorem hasL_mem {L : SL} {k : Key} (h : hasL k L = true) : ∃ n, (k, n) ∈ L := by
  unfold hasL at h
  obtain ⟨x, hx, e⟩ := List.any_eq_true.1 h
  have e : x.1 = k := by simpa using e
  exact ⟨x.2, by rw [← e]; exact hx⟩

/-- What is still to come of a map that is gone through. -/
def lft (left : Lit → Bool) (L : SL) : SL := L.filter fun x => left (.string x.1)
theorem lft_all (L : SL) {H : Type} : lft (Maps.has (mapD (H := H) L)) L = L := by
  unfold lft
  rw [List.filter_eq_self]
  intro x hx
  rw [mapD_has]
  exact List.any_eq_true.2 ⟨x, hx, by simp⟩
theorem lft_none {left : Lit → Bool} (h : ∀ kl, left kl = false) (L : SL) : lft left L = [] := by
  unfold lft
  rw [List.filter_eq_nil_iff]
  intro x _
  simp [h]
theorem strike (left : Lit → Bool) (k : Key) (x : Key × Int) : (left (.string x.1) && !(Lit.string x.1).sameKey (.string k)) = (left (.string x.1) && !decide (x.1 = k)) := by
  congr 2
  show (x.1 == k) = _
  by_cases h : x.1 = k <;> simp [h]
theorem lft_step (φ : Key → Int) {left : Lit → Bool} {k : Key} {n : Int} (hl : left (.string k) = true) : ∀ {L : SL}, Srt L → (k, n) ∈ L → tot φ (lft left L) = n * φ k + tot φ (lft (fun z => left z && !z.sameKey (.string k)) L)
  | x :: r, h, hm => by
    obtain ⟨h1, h2⟩ := List.pairwise_cons.1 h
    simp only [lft, List.filter_cons, strike]
    rcases List.mem_cons.1 hm with e | hm
    · subst e
      have same : r.filter (fun x => left (.string x.1)) = r.filter (fun x => left (.string x.1) && !decide (x.1 = k)) := List.filter_congr fun y hy => by
        rw [decide_eq_false (key_ne (h1 y hy)).symm]; simp
      simp only [hl, if_true, decide_true, Bool.not_true, Bool.and_false, Bool.false_eq_true, if_false]
      rw [← same]
      rfl
    · have ih := lft_step φ hl h2 hm
      simp only [lft, strike] at ih
      have hne : x.1 ≠ k := key_ne (h1 _ hm)
      rw [decide_eq_false hne]
      cases hx : left (.string x.1)
      · simp only [Bool.false_and, Bool.false_eq_true, if_false]; exact ih
      · simp only [Bool.not_false, Bool.and_self, if_true, tot]; rw [ih]; omega
theorem lft_mem {H : Type} {L : SL} (h : Srt L) {k : Key} {y : DataW H} (hat : ∀ zd, (mapD (H := H) L).atKey (.string k) zd = y) : ∃ n, (k, n) ∈ L ∧ y = .lit (.int .i64 n) := by
  obtain ⟨n, hn⟩ := hasL_mem (by rw [← mapD_has (H := H)]; exact Maps.has_true_of_atKey hat)
  refine ⟨n, hn, ?_⟩
  rw [← hat (.lit (.int .i64 0)), mapD_at, atL_mem h hn]

/-- A slice of products as a list. -/
def ofS (f : Nat → ByteArray) (g : Nat → Int) (n : Nat) : SL := (List.range n).map fun i => ((f i).data.toList, g i)
theorem ofS_succ (f : Nat → ByteArray) (g : Nat → Int) (n : Nat) : ofS f g (n + 1) = ofS f g n ++ [((f n).data.toList, g n)] := by
  unfold ofS
  rw [List.range_succ, List.map_append]
  rfl
theorem ofS_length (f : Nat → ByteArray) (g : Nat → Int) (n : Nat) : (ofS f g n).length = n := by simp [ofS]
theorem ofS_get {f : Nat → ByteArray} {g : Nat → Int} {n i : Nat} (h : i < n) : (ofS f g n)[i]? = some ((f i).data.toList, g i) := by
  unfold ofS
  rw [List.getElem?_map, List.getElem?_range h]
  rfl
theorem ofS_mem {f : Nat → ByteArray} {g : Nat → Int} {n : Nat} {x : Key × Int} : x ∈ ofS f g n ↔ ∃ i, i < n ∧ x = ((f i).data.toList, g i) := by
  unfold ofS
  rw [List.mem_map]
  constructor
  · rintro ⟨i, hi, rfl⟩; exact ⟨i, by simpa using hi, rfl⟩
  · rintro ⟨i, hi, rfl⟩; exact ⟨i, by simpa using hi, rfl⟩
theorem ofS_inj {f f' : Nat → ByteArray} {g g' : Nat → Int} {n n' : Nat} (h : ofS f g n = ofS f' g' n') : n = n' ∧ ∀ i, i < n → f i = f' i ∧ g i = g' i := by
  have e : n = n' := by have := congrArg List.length h; rwa [ofS_length, ofS_length] at this
  subst e
  refine ⟨rfl, fun i hi => ?_⟩
  have := congrArg (fun L : SL => L[i]?) h
  simp only [ofS_get hi, Option.some.injEq, Prod.mk.injEq] at this
  exact ⟨by have := Array.toList_inj.1 this.1; exact ByteArray.ext this, this.2⟩
theorem ofS_congr {f f' : Nat → ByteArray} {g g' : Nat → Int} {n : Nat} (h : ∀ i, i < n → f i = f' i ∧ g i = g' i) : ofS f g n = ofS f' g' n := by
  unfold ofS
  refine List.map_congr_left fun i hi => ?_
  have := h i (by simpa using hi)
  rw [this.1, this.2]
/-- Every list is one of a slice. -/
theorem ofS_of (L : SL) : ofS (fun i => ⟨((L.getD i ([], 0)).1).toArray⟩) (fun i => (L.getD i ([], 0)).2) L.length = L := by
  refine List.ext_getElem? fun i => ?_
  by_cases h : i < L.length
  · rw [ofS_get h, List.getElem?_eq_getElem h]
    simp [List.getD_eq_getElem?_getD, List.getElem?_eq_getElem h]
  · rw [List.getElem?_eq_none (by rw [ofS_length]; omega), List.getElem?_eq_none (by omega)]

/-- Tokens in order. -/
def tkL (k : Key) : Prop := (∀ b ∈ k, 97 ≤ b.toNat ∧ b.toNat ≤ 104) ∧ srtK k
theorem bt_key {s : ByteArray} {i : Nat} (h : i < s.size) : ∃ hl : i < s.data.toList.length, bt s i = (s.data.toList[i]'hl).toNat := by
  have hl : i < s.data.toList.length := by simpa using h
  refine ⟨hl, ?_⟩
  unfold bt
  rw [List.getD_eq_getElem?_getD, List.getElem?_eq_getElem hl]
  rfl
theorem size_key (s : ByteArray) : s.data.toList.length = s.size := by simp
theorem isTk_iff {s : ByteArray} : isTk s = true ↔ tkL s.data.toList ∧ s.size ≤ 12 := by
  unfold isTk
  rw [Bool.and_eq_true, decide_eq_true_eq]
  constructor
  · rintro ⟨h, h12⟩
    refine ⟨⟨fun b hb => ?_, ?_⟩, h12⟩
    · obtain ⟨i, hi, rfl⟩ := List.getElem_of_mem hb
      have hi' : i < s.size := by simpa using hi
      have t := tkK_at h hi'
      unfold tkAt at t
      obtain ⟨hl, e⟩ := bt_key hi'
      simp only [Bool.and_eq_true, decide_eq_true_eq, e] at t
      exact t.1
    · have step : ∀ i (hi : i + 1 < s.data.toList.length), s.data.toList[i] ≤ s.data.toList[i + 1] := by
        intro i hi
        have hi' : i + 1 < s.size := by simpa using hi
        have t := tkK_at h hi'
        unfold tkAt at t
        obtain ⟨hl, e⟩ := bt_key hi'
        obtain ⟨hl2, e2⟩ := bt_key (s := s) (i := i) (by omega)
        simp only [Bool.and_eq_true, Bool.or_eq_true, decide_eq_true_eq, e, show i + 1 - 1 = i from rfl, e2] at t
        rw [UInt8.le_iff_toNat_le]
        omega
      unfold srtK
      rw [List.pairwise_iff_getElem]
      intro i j hi hj hij
      obtain ⟨d, rfl⟩ : ∃ d, j = i + 1 + d := ⟨j - i - 1, by omega⟩
      clear hij
      induction d with
      | zero => exact step i hj
      | succ d ih => exact UInt8.le_trans (ih (by omega)) (step (i + 1 + d) (by omega))
  · rintro ⟨⟨h1, h2⟩, h12⟩
    refine ⟨?_, h12⟩
    unfold tkK
    rw [List.all_eq_true]
    intro i hi
    have hi : i < s.size := by simpa using hi
    obtain ⟨hl, e⟩ := bt_key hi
    have hb := h1 _ (List.getElem_mem hl)
    unfold tkAt
    simp only [Bool.and_eq_true, Bool.or_eq_true, decide_eq_true_eq, e]
    refine ⟨hb, ?_⟩
    by_cases h0 : i = 0
    · exact .inl h0
    · right
      obtain ⟨hl2, e2⟩ := bt_key (s := s) (i := i - 1) (by omega)
      rw [e2, ← UInt8.le_iff_toNat_le]
      exact (List.pairwise_iff_getElem.1 h2) (i - 1) i hl2 hl (by omega)
theorem bLt_key {a b : ByteArray} : bLt a b = true ↔ a.data.toList < b.data.toList := by
  rw [bLt_iff, ByteArray.toList_eq, ByteArray.toList_eq]

/-- The lists that are sums. -/
def VL (L : SL) : Prop := Srt L ∧ Pos L ∧ (∀ x ∈ L, tkL x.1)
theorem vS_iff {f : Nat → ByteArray} {g : Nat → Int} {n : Nat} : vS f g n = true ↔ VL (ofS f g n) ∧ overL (ofS f g n) = false := by
  constructor
  · intro h
    have hv := vS_at h
    unfold vS at h
    rw [Bool.and_eq_true] at h
    have ad : ∀ i, i + 1 < n → bLt (f i) (f (i + 1)) = true := by
      intro i hi
      have t := vsK_at h.1 hi
      unfold vsAt at t
      rw [Bool.and_eq_true, Bool.or_eq_true] at t
      rcases t.2 with t | t
      · simp at t
      · exact t
    refine ⟨⟨?_, ?_, ?_⟩, ?_⟩
    · unfold Srt
      rw [List.pairwise_iff_getElem]
      intro i j hi hj hij
      rw [ofS_length] at hi hj
      have gi : (ofS f g n)[i]'(by rw [ofS_length]; exact hi) = ((f i).data.toList, g i) := by have := ofS_get (f := f) (g := g) hi; rw [List.getElem?_eq_getElem (by rw [ofS_length]; exact hi)] at this; simpa using this
      have gj : (ofS f g n)[j]'(by rw [ofS_length]; exact hj) = ((f j).data.toList, g j) := by have := ofS_get (f := f) (g := g) hj; rw [List.getElem?_eq_getElem (by rw [ofS_length]; exact hj)] at this; simpa using this
      rw [gi, gj]
      show (f i).data.toList < (f j).data.toList
      clear gi gj
      obtain ⟨d, rfl⟩ : ∃ d, j = i + 1 + d := ⟨j - i - 1, by omega⟩
      clear hij
      induction d with
      | zero => exact bLt_key.1 (ad i hj)
      | succ d ih =>
        have hd : i + 1 + d < n := by omega
        exact key_tr (ih (by rw [ofS_length]; exact hd) hd) (bLt_key.1 (ad (i + 1 + d) hj))
    · intro x hx
      obtain ⟨i, hi, rfl⟩ := ofS_mem.1 hx
      exact (hv.2 i hi).2.1
    · intro x hx
      obtain ⟨i, hi, rfl⟩ := ofS_mem.1 hx
      exact (isTk_iff.1 (hv.2 i hi).1).1
    · unfold overL
      rw [Bool.or_eq_false_iff, List.any_eq_false]
      refine ⟨fun x hx => ?_, by rw [ofS_length]; simpa using hv.1⟩
      obtain ⟨i, hi, rfl⟩ := ofS_mem.1 hx
      have a := (hv.2 i hi).2.2
      have b := (isTk_iff.1 (hv.2 i hi).1).2
      rw [← size_key] at b
      simp only [Bool.or_eq_true, decide_eq_true_eq]
      omega
  · rintro ⟨⟨h1, h2, h3⟩, h4⟩
    unfold overL at h4
    rw [Bool.or_eq_false_iff, List.any_eq_false, ofS_length] at h4
    unfold vS vsK
    rw [Bool.and_eq_true]
    refine ⟨?_, by have := h4.2; simp only [decide_eq_false_iff_not] at this; simp only [decide_eq_true_eq]; omega⟩
    rw [List.all_eq_true]
    intro i hi
    have hi : i < n := by simpa using hi
    have hm : ((f i).data.toList, g i) ∈ ofS f g n := ofS_mem.2 ⟨i, hi, rfl⟩
    have o := h4.1 _ hm
    simp only [Bool.or_eq_true, decide_eq_true_eq] at o
    have p := h2 _ hm
    unfold vsAt isPr btw
    simp only [Bool.and_eq_true, Bool.or_eq_true, decide_eq_true_eq]
    refine ⟨⟨isTk_iff.2 ⟨h3 _ hm, by rw [← size_key]; omega⟩, p, by omega⟩, ?_⟩
    by_cases h0 : i = 0
    · exact .inl h0
    · right
      rw [bLt_key]
      have := (List.pairwise_iff_getElem.1 h1) (i - 1) i (by rw [ofS_length]; omega) (by rw [ofS_length]; exact hi) (by omega)
      have gi : (ofS f g n)[i]'(by rw [ofS_length]; exact hi) = ((f i).data.toList, g i) := by have := ofS_get (f := f) (g := g) hi; rw [List.getElem?_eq_getElem (by rw [ofS_length]; exact hi)] at this; simpa using this
      have gj : (ofS f g n)[i - 1]'(by rw [ofS_length]; omega) = ((f (i - 1)).data.toList, g (i - 1)) := by have := ofS_get (f := f) (g := g) (i := i - 1) (n := n) (by omega); rw [List.getElem?_eq_getElem (by rw [ofS_length]; omega)] at this; simpa using this
      rw [gi, gj] at this
      exact this

theorem tkL_mx {p q : Key} (hp : tkL p) (hq : tkL q) : tkL (mx p q) :=
  ⟨fun b hb => by rcases mx_mem.1 hb with h | h; exact hp.1 b h; exact hq.1 b h, mx_srt p q⟩
theorem VL.plus {s t : SL} (hs : VL s) (ht : VL t) : VL (plusL s t) := by
  refine ⟨hs.1.plus, Pos.plus ht.2.1 hs.2.1, ?_⟩
  have key : ∀ (t s : SL), (∀ x ∈ s, tkL x.1) → (∀ x ∈ t, tkL x.1) → ∀ x ∈ plusL s t, tkL x.1 := by
    intro t
    induction t with
    | nil => intro s h _; exact h
    | cons y r ih =>
      intro s h k
      refine ih (putL y.1 y.2 s) (fun x hx => ?_) (fun x hx => k x (List.mem_cons_of_mem _ hx))
      rcases mem_put hx with e | hx
      · rw [e]; exact k y List.mem_cons_self
      · exact h x hx
  exact key t s hs.2.2 ht.2.2
theorem tk_timesF {s t : SL} (hs : ∀ x ∈ s, tkL x.1) (ht : ∀ x ∈ t, tkL x.1) : ∀ {o : SL}, (∀ x ∈ o, tkL x.1) → ∀ x ∈ timesF s t o, tkL x.1 := by
  have inn : ∀ (a : Key × Int) (t o : SL), tkL a.1 → (∀ x ∈ t, tkL x.1) → (∀ x ∈ o, tkL x.1) → ∀ x ∈ innL a t o, tkL x.1 := by
    intro a t
    induction t with
    | nil => intro o _ _ h; exact h
    | cons y r ih =>
      intro o ha k h
      refine ih (putL (mx a.1 y.1) (a.2 * y.2) o) ha (fun x hx => k x (List.mem_cons_of_mem _ hx)) fun x hx => ?_
      rcases mem_put hx with e | hx
      · rw [e]; exact tkL_mx ha (k y List.mem_cons_self)
      · exact h x hx
  induction s with
  | nil => intro o h; exact h
  | cons a r ih =>
    intro o h
    exact ih (fun x hx => hs x (List.mem_cons_of_mem _ hx)) (inn a t o (hs a List.mem_cons_self) ht h)
theorem VL.times {s t : SL} (hs : VL s) (ht : VL t) : VL (timesL s t) := ⟨Srt.times, Pos.times hs.2.1 ht.2.1, tk_timesF hs.2.2 ht.2.2 (by simp)⟩

end Go.Proofs.YtehdemcfeoiecaaDoor
