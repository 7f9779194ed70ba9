/- The value and the cost of sums and of products of sums: the plain law of ProvNumbers. -/
import Derived.Test.YtehdemcfeoiecaaDoorP3
namespace Go.Proofs.YtehdemcfeoiecaaDoor
open Go.Firn

/-- The weight of a key. -/
def wK (l : Nat → Int) (k : Key) : Int := k.foldr (fun b a => l (b.toNat - 97) * a) 1
def cK (l : Nat → Int) (k : Key) : Int := k.foldr (fun b a => l (b.toNat - 97) + a) 0
theorem wK_append (l : Nat → Int) : ∀ p q : Key, wK l (p ++ q) = wK l p * wK l q
  | [], q => by simp [wK]
  | x :: p, q => by
    have := wK_append l p q
    unfold wK at *
    simp only [List.cons_append, List.foldr_cons]
    rw [this, Int.mul_assoc]
theorem cK_append (l : Nat → Int) : ∀ p q : Key, cK l (p ++ q) = cK l p + cK l q
  | [], q => by simp [cK]
  | x :: p, q => by
    have := cK_append l p q
    unfold cK at *
    simp only [List.cons_append, List.foldr_cons]
    omega
theorem wK_perm (l : Nat → Int) {p q : Key} (h : p.Perm q) : wK l p = wK l q := by
  induction h with
  | nil => rfl
  | cons x _ ih => unfold wK at *; simp only [List.foldr_cons]; rw [ih]
  | swap x y r => unfold wK; simp only [List.foldr_cons]; rw [Int.mul_left_comm]
  | trans _ _ a b => exact a.trans b
theorem cK_perm (l : Nat → Int) {p q : Key} (h : p.Perm q) : cK l p = cK l q := by
  induction h with
  | nil => rfl
  | cons x _ ih => unfold cK at *; simp only [List.foldr_cons]; rw [ih]
  | swap x y r => unfold cK; simp only [List.foldr_cons]; omega
  | trans _ _ a b => exact a.trans b
theorem wK_mx (l : Nat → Int) (p q : Key) : wK l (mx p q) = wK l p * wK l q := by rw [wK_perm l (mx_perm p q), wK_append]
theorem cK_mx (l : Nat → Int) (p q : Key) : cK l (mx p q) = cK l p + cK l q := by rw [cK_perm l (mx_perm p q), cK_append]

theorem key_take {s : ByteArray} {k : Nat} (h : k < s.size) : ∃ b : UInt8, b.toNat = bt s k ∧ s.data.toList.take (k + 1) = s.data.toList.take k ++ [b] := by
  obtain ⟨hl, e⟩ := bt_key h
  exact ⟨_, e.symm, by rw [List.take_succ_eq_append_getElem hl]⟩
theorem prd_take (l : Nat → Int) (s : ByteArray) (m : Int) : ∀ k, k ≤ s.size → prd l s m k = m * wK l (s.data.toList.take k)
  | 0, _ => by simp [prd, wK]
  | k + 1, h => by
    obtain ⟨b, eb, et⟩ := key_take (show k < s.size by omega)
    show prd l s m k * l (bt s k - 97) = _
    rw [prd_take l s m k (by omega), et, wK_append, ← eb, ← Int.mul_assoc]
    congr 1
    simp [wK]
theorem csm_take (l : Nat → Int) (s : ByteArray) : ∀ k, k ≤ s.size → csm l s k = cK l (s.data.toList.take k)
  | 0, _ => by simp [csm, cK]
  | k + 1, h => by
    obtain ⟨b, eb, et⟩ := key_take (show k < s.size by omega)
    show csm l s k + l (bt s k - 97) = _
    rw [csm_take l s k (by omega), et, cK_append, ← eb]
    congr 1
    simp [cK]
theorem key_all (s : ByteArray) : s.data.toList.take s.size = s.data.toList := List.take_of_length_le (by rw [size_key]; omega)
theorem vlS_tot (l : Nat → Int) (f : Nat → ByteArray) (g : Nat → Int) : ∀ n, vlS l f g n = tot (wK l) (ofS f g n)
  | 0 => rfl
  | n + 1 => by
    show vlS l f g n + prd l (f n) (g n) (f n).size = _
    rw [vlS_tot l f g n, ofS_succ, tot_append, prd_take l _ _ _ (Nat.le_refl _), key_all]
    simp [tot]
theorem csP_key (l : Nat → Int) (f : Nat → ByteArray) (i : Nat) : csP l f i = cK l (f i).data.toList := by
  unfold csP
  rw [csm_take l _ _ (Nat.le_refl _), key_all]
theorem value_plus (l : Nat → Int) (s t : SL) : tot (wK l) (plusL s t) = tot (wK l) s + tot (wK l) t := tot_plus _ _ _
theorem value_times (l : Nat → Int) (s t : SL) : tot (wK l) (timesL s t) = tot (wK l) s * tot (wK l) t := by
  rw [tot_times]
  have : ∀ p : Key, tot (fun q => wK l (mx p q)) t = tot (wK l) t * wK l p := fun p => by
    rw [tot_congr (ψ := fun q => wK l p * wK l q) (fun x _ => wK_mx l p x.1), tot_mul, Int.mul_comm]
  rw [tot_congr (ψ := fun p => tot (wK l) t * wK l p) (fun x _ => this x.1), tot_mul, Int.mul_comm]

/-- Which keys there are. -/
def hasK (k : Key) (L : SL) : Prop := ∃ x ∈ L, x.1 = k
theorem hasK_put {k k' : Key} {n : Int} (hn : 1 ≤ n) {L : SL} : hasK k' (putL k n L) ↔ k' = k ∨ hasK k' L := by
  constructor
  · rintro ⟨x, hx, rfl⟩
    rcases mem_put hx with h | h
    · exact .inl h
    · exact .inr ⟨x, h, rfl⟩
  · rintro (rfl | ⟨x, hx, rfl⟩)
    · exact put_has
    · obtain ⟨z, hz, e, _⟩ := put_keeps (k := k) hn hx
      exact ⟨z, hz, e⟩
theorem hasK_plus {k : Key} : ∀ {t s : SL}, Pos t → (hasK k (plusL s t) ↔ hasK k s ∨ hasK k t)
  | [], s, _ => by
    show hasK k s ↔ _
    constructor
    · exact .inl
    · rintro (h | ⟨x, hx, _⟩)
      · exact h
      · cases hx
  | y :: r, s, h => by
    show hasK k (plusL (putL y.1 y.2 s) r) ↔ _
    rw [hasK_plus (fun x hx => h x (List.mem_cons_of_mem _ hx)), hasK_put (h y List.mem_cons_self)]
    constructor
    · rintro ((rfl | h) | ⟨x, hx, e⟩)
      · exact .inr ⟨y, List.mem_cons_self, rfl⟩
      · exact .inl h
      · exact .inr ⟨x, List.mem_cons_of_mem _ hx, e⟩
    · rintro (h | ⟨x, hx, e⟩)
      · exact .inl (.inr h)
      · rcases List.mem_cons.1 hx with rfl | hx
        · exact .inl (.inl e.symm)
        · exact .inr ⟨x, hx, e⟩
theorem hasK_inn {k : Key} {a : Key × Int} (ha : 1 ≤ a.2) : ∀ {t o : SL}, Pos t → (hasK k (innL a t o) ↔ hasK k o ∨ ∃ q, hasK q t ∧ k = mx a.1 q)
  | [], o, _ => by
    show hasK k o ↔ _
    constructor
    · exact .inl
    · rintro (h | ⟨_, ⟨x, hx, _⟩, _⟩)
      · exact h
      · cases hx
  | y :: r, o, h => by
    show hasK k (innL a r (putL (mx a.1 y.1) (a.2 * y.2) o)) ↔ _
    rw [hasK_inn ha (fun x hx => h x (List.mem_cons_of_mem _ hx)), hasK_put (pos_mul ha (h y List.mem_cons_self))]
    constructor
    · rintro ((rfl | h) | ⟨q, ⟨x, hx, e⟩, hq⟩)
      · exact .inr ⟨y.1, ⟨y, List.mem_cons_self, rfl⟩, rfl⟩
      · exact .inl h
      · exact .inr ⟨q, ⟨x, List.mem_cons_of_mem _ hx, e⟩, hq⟩
    · rintro (h | ⟨q, ⟨x, hx, e⟩, hq⟩)
      · exact .inl (.inr h)
      · rcases List.mem_cons.1 hx with rfl | hx
        · exact .inl (.inl (by rw [hq, ← e]))
        · exact .inr ⟨q, ⟨x, hx, e⟩, hq⟩
theorem hasK_timesF {k : Key} {t : SL} (ht : Pos t) : ∀ {s o : SL}, Pos s → (hasK k (timesF s t o) ↔ hasK k o ∨ ∃ p q, hasK p s ∧ hasK q t ∧ k = mx p q)
  | [], o, _ => by
    show hasK k o ↔ _
    constructor
    · exact .inl
    · rintro (h | ⟨_, _, ⟨x, hx, _⟩, _⟩)
      · exact h
      · cases hx
  | a :: r, o, h => by
    show hasK k (timesF r t (innL a t o)) ↔ _
    rw [hasK_timesF ht (fun x hx => h x (List.mem_cons_of_mem _ hx)), hasK_inn (h a List.mem_cons_self) ht]
    constructor
    · rintro ((h | ⟨q, hq, e⟩) | ⟨p, q, ⟨x, hx, e⟩, hq, hk⟩)
      · exact .inl h
      · exact .inr ⟨a.1, q, ⟨a, List.mem_cons_self, rfl⟩, hq, e⟩
      · exact .inr ⟨p, q, ⟨x, List.mem_cons_of_mem _ hx, e⟩, hq, hk⟩
    · rintro (h | ⟨p, q, ⟨x, hx, e⟩, hq, hk⟩)
      · exact .inl (.inl h)
      · rcases List.mem_cons.1 hx with rfl | hx
        · exact .inl (.inr ⟨q, hq, by rw [hk, e]⟩)
        · exact .inr ⟨p, q, ⟨x, hx, e⟩, hq, hk⟩
theorem hasK_times {k : Key} {s t : SL} (hs : Pos s) (ht : Pos t) : hasK k (timesL s t) ↔ ∃ p q, hasK p s ∧ hasK q t ∧ k = mx p q := by
  unfold timesL
  rw [hasK_timesF ht hs]
  constructor
  · rintro (⟨x, hx, _⟩ | h)
    · cases hx
    · exact h
  · exact .inr
theorem ne_nil_has {L : SL} : L ≠ [] ↔ ∃ k, hasK k L := by
  constructor
  · intro h
    cases L with
    | nil => exact absurd rfl h
    | cons x r => exact ⟨x.1, x, List.mem_cons_self, rfl⟩
  · rintro ⟨k, x, hx, _⟩ rfl
    cases hx

/-- The least weight of the keys. -/
def isMn (φ : Key → Int) (L : SL) (m : Int) : Prop := (∃ k, hasK k L ∧ φ k = m) ∧ ∀ k, hasK k L → m ≤ φ k
theorem isMn.uniq {φ : Key → Int} {L : SL} {m m' : Int} (h : isMn φ L m) (h' : isMn φ L m') : m = m' := by
  obtain ⟨⟨k, hk, e⟩, hl⟩ := h
  obtain ⟨⟨k', hk', e'⟩, hl'⟩ := h'
  have := hl k' hk'
  have := hl' k hk
  omega
theorem mnR_is (c : Nat → Int) : ∀ n, 0 < n → (∃ i, i < n ∧ c i = mnR c n) ∧ ∀ i, i < n → mnR c n ≤ c i
  | n + 1, _ => by
    show (∃ i, i < n + 1 ∧ c i = if n = 0 ∨ c n < mnR c n then c n else mnR c n) ∧ ∀ i, i < n + 1 → (if n = 0 ∨ c n < mnR c n then c n else mnR c n) ≤ c i
    by_cases h : n = 0 ∨ c n < mnR c n
    · rw [if_pos h]
      refine ⟨⟨n, by omega, rfl⟩, fun i hi => ?_⟩
      by_cases e : i = n
      · rw [e]; exact Int.le_refl _
      · rcases h with h | h
        · omega
        · have := (mnR_is c n (by omega)).2 i (by omega)
          omega
    · rw [if_neg h]
      obtain ⟨⟨i, hi, e⟩, hl⟩ := mnR_is c n (by omega)
      refine ⟨⟨i, by omega, e⟩, fun j hj => ?_⟩
      by_cases ej : j = n
      · subst ej; omega
      · exact hl j (by omega)
theorem cost_is (l : Nat → Int) (f : Nat → ByteArray) (g : Nat → Int) {n : Nat} (hn : 0 < n) : isMn (cK l) (ofS f g n) (mnR (csP l f) n) := by
  obtain ⟨⟨i, hi, e⟩, hl⟩ := mnR_is (csP l f) n hn
  refine ⟨⟨(f i).data.toList, ⟨_, ofS_mem.2 ⟨i, hi, rfl⟩, rfl⟩, by rw [← csP_key, e]⟩, ?_⟩
  rintro k ⟨x, hx, rfl⟩
  obtain ⟨j, hj, rfl⟩ := ofS_mem.1 hx
  rw [← csP_key]
  exact hl j hj
theorem isMn.plus {φ : Key → Int} {s t : SL} {c d : Int} (ht : Pos t) (hc : isMn φ s c) (hd : isMn φ t d) : isMn φ (plusL s t) (min c d) := by
  obtain ⟨⟨k, hk, e⟩, hl⟩ := hc
  obtain ⟨⟨k', hk', e'⟩, hl'⟩ := hd
  refine ⟨?_, fun x hx => ?_⟩
  · by_cases h : c ≤ d
    · exact ⟨k, (hasK_plus ht).2 (.inl hk), by omega⟩
    · exact ⟨k', (hasK_plus ht).2 (.inr hk'), by omega⟩
  · rcases (hasK_plus ht).1 hx with h | h
    · have := hl x h; omega
    · have := hl' x h; omega
theorem isMn.times {l : Nat → Int} {s t : SL} {c d : Int} (hs : Pos s) (ht : Pos t) (hc : isMn (cK l) s c) (hd : isMn (cK l) t d) : isMn (cK l) (timesL s t) (c + d) := by
  obtain ⟨⟨k, hk, e⟩, hl⟩ := hc
  obtain ⟨⟨k', hk', e'⟩, hl'⟩ := hd
  refine ⟨⟨mx k k', (hasK_times hs ht).2 ⟨k, k', hk, hk', rfl⟩, by rw [cK_mx]; omega⟩, fun x hx => ?_⟩
  obtain ⟨p, q, hp, hq, rfl⟩ := (hasK_times hs ht).1 hx
  have := hl p hp
  have := hl' q hq
  rw [cK_mx]
  omega
theorem plus_nil_left {t : SL} (st : Srt t) (pt : Pos t) : plusL [] t = t := uniq (Srt.plus (by simp [Srt])) st (Pos.plus pt (by simp [Pos])) pt fun φ => by rw [tot_plus]; simp [tot]
theorem plus_nil (s : SL) : plusL s [] = s := rfl
theorem nil_times (t : SL) : timesL [] t = [] := rfl
theorem plus_empty {s t : SL} (ht : Pos t) : plusL s t = [] ↔ s = [] ∧ t = [] := by
  rw [← Decidable.not_iff_not, ← ne_eq, ne_nil_has]
  constructor
  · rintro ⟨k, h⟩ ⟨rfl, rfl⟩
    obtain ⟨x, hx, _⟩ := h
    cases hx
  · intro h
    rw [Classical.not_and_iff_not_or_not] at h
    rcases h with h | h
    · obtain ⟨k, hk⟩ := ne_nil_has.1 h
      exact ⟨k, (hasK_plus ht).2 (.inl hk)⟩
    · obtain ⟨k, hk⟩ := ne_nil_has.1 h
      exact ⟨k, (hasK_plus ht).2 (.inr hk)⟩
theorem times_empty {s t : SL} (hs : Pos s) (ht : Pos t) : timesL s t = [] ↔ s = [] ∨ t = [] := by
  constructor
  · intro h
    by_cases h1 : s = []
    · exact .inl h1
    by_cases h2 : t = []
    · exact .inr h2
    obtain ⟨p, hp⟩ := ne_nil_has.1 h1
    obtain ⟨q, hq⟩ := ne_nil_has.1 h2
    exact absurd h (ne_nil_has.2 ⟨mx p q, (hasK_times hs ht).2 ⟨p, q, hp, hq, rfl⟩⟩)
  · rintro (rfl | rfl)
    · rfl
    · exact times_nil s

end Go.Proofs.YtehdemcfeoiecaaDoor
