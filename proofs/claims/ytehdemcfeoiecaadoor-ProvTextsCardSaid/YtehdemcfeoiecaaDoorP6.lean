/- The plain law of ProvTexts: pieces of a text, digits, what is read of a piece, and the text of a sum. -/
import Derived.Test.YtehdemcfeoiecaaDoorP3
import Derived.Lib.ItoaNum
import Derived.Lib.AtoiAll
import Derived.Lib.Join
namespace Go.Proofs.YtehdemcfeoiecaaDoor
open Go.Firn

/-- The pieces of a text between bytes of a kind. -/
def splitK (c : UInt8) : Key → List Key
  | [] => [[]]
  | b :: r => if b = c then [] :: splitK c r else (b :: (splitK c r).headD []) :: (splitK c r).tailD []
theorem splitK_ne (c : UInt8) : ∀ s : Key, splitK c s ≠ []
  | [] => by simp [splitK]
  | b :: r => by unfold splitK; split <;> simp
theorem splitK_cons (c : UInt8) (s : Key) : ∃ h t, splitK c s = h :: t := by
  cases e : splitK c s with
  | nil => exact absurd e (splitK_ne c s)
  | cons h t => exact ⟨h, t, rfl⟩
theorem splitK_no {c : UInt8} : ∀ {x : Key}, c ∉ x → splitK c x = [x]
  | [], _ => rfl
  | b :: r, h => by
    unfold splitK
    rw [if_neg (show ¬ b = c from fun e => h (by rw [e]; exact List.mem_cons_self)), splitK_no fun k => h (List.mem_cons_of_mem _ k)]
    rfl
theorem splitK_app {c : UInt8} : ∀ {x : Key} (s : Key), c ∉ x → splitK c (x ++ c :: s) = x :: splitK c s
  | [], s, _ => by
    show splitK c (c :: s) = _
    conv => lhs; unfold splitK
    rw [if_pos rfl]
  | b :: r, s, h => by
    show splitK c (b :: (r ++ c :: s)) = _
    conv => lhs; unfold splitK
    rw [if_neg (show ¬ b = c from fun e => h (by rw [e]; exact List.mem_cons_self)), splitK_app s fun k => h (List.mem_cons_of_mem _ k)]
    rfl
theorem joinK_cons (c : UInt8) (x : Key) {r : List Key} (h : r ≠ []) : Lib.join (x :: r) [c] = x ++ c :: Lib.join r [c] := by
  cases r with
  | nil => exact absurd rfl h
  | cons y r =>
    rw [Lib.join_cons, Lib.join_cons]
    simp [Lib.joinTail]
/-- What is joined is split again. -/
theorem split_join {c : UInt8} : ∀ {L : List Key}, L ≠ [] → (∀ x ∈ L, c ∉ x) → splitK c (Lib.join L [c]) = L
  | [x], _, h => by rw [Lib.join_one, splitK_no (h x List.mem_cons_self)]
  | x :: y :: r, _, h => by
    rw [joinK_cons c x (by simp), splitK_app _ (h x List.mem_cons_self), split_join (by simp) fun z hz => h z (List.mem_cons_of_mem _ hz)]

/-- Digits. -/
def isDg (b : UInt8) : Bool := decide (48 ≤ b.toNat) && decide (b.toNat ≤ 57)
theorem dg_of {k : Nat} (h : k < 10) : (UInt8.ofNat (48 + k)).toNat = 48 + k := by
  rw [UInt8.toNat_ofNat_of_lt' (by show 48 + k < 256; omega)]
theorem decDigits_all (u : Nat) : ∀ b ∈ Lib.decDigits u, isDg b = true := by
  induction u using Nat.strongRecOn with
  | _ u ih =>
    have one : ∀ k, k < 10 → isDg (UInt8.ofNat (48 + k)) = true := fun k hk => by
      unfold isDg
      rw [dg_of hk]
      simp
      omega
    intro b hb
    rw [Lib.decDigits] at hb
    split at hb
    · rename_i h
      simp only [List.mem_singleton] at hb
      rw [hb]; exact one _ h
    · rename_i h
      rw [List.mem_append, List.mem_singleton] at hb
      rcases hb with hb | rfl
      · exact ih (u / 10) (by omega) b hb
      · exact one _ (by omega)
theorem decDigits_ne (u : Nat) : Lib.decDigits u ≠ [] := by
  rw [Lib.decDigits]
  split <;> simp
theorem parse_append (l : Key) (c : UInt8) : ∀ acc, Lib.parseUint10 acc (l ++ [c]) = match Lib.parseUint10 acc l with
    | .ok a => Lib.parseUint10 a [c]
    | e => e := by
  induction l with
  | nil => intro acc; rfl
  | cons b r ih =>
    intro acc
    show Lib.parseUint10 acc (b :: (r ++ [c])) = _
    simp only [Lib.parseUint10]
    split
    · split
      · rfl
      · split
        · rfl
        · rw [ih]
          simp only [Lib.parseUint10]
    · rfl
theorem parse_dec {u : Nat} (h : u < 1000000000000000000) : Lib.parseUint10 0 (Lib.decDigits u) = .ok u := by
  induction u using Nat.strongRecOn with
  | _ u ih =>
    have one : ∀ a k, k < 10 → a < 100000000000000000 → Lib.parseUint10 a [UInt8.ofNat (48 + k)] = .ok (a * 10 + k) := fun a k hk ha => by
      unfold Lib.parseUint10
      rw [dg_of hk, if_pos (by omega), if_neg (by omega), if_neg (by omega)]
      unfold Lib.parseUint10
      congr 1
      omega
    rw [Lib.decDigits]
    split
    · rename_i h10
      rw [one 0 u h10 (by omega)]
      congr 1
      omega
    · rename_i h10
      rw [parse_append, ih (u / 10) (by omega) (by omega)]
      show Lib.parseUint10 (u / 10) [UInt8.ofNat (48 + u % 10)] = _
      rw [one _ _ (by omega) (by omega)]
      congr 1
      omega
theorem atoi_dec {u : Nat} (h : u < 1000000000000000000) : Lib.atoiAll (Lib.decDigits u) = .ok (u : Int) := by
  have hp := parse_dec h
  have hd := decDigits_all u
  cases e : Lib.decDigits u with
  | nil => exact absurd e (decDigits_ne u)
  | cons c r =>
    have hc := hd c (by rw [e]; exact List.mem_cons_self)
    unfold isDg at hc
    simp only [Bool.and_eq_true, decide_eq_true_eq] at hc
    rw [e] at hp
    unfold Lib.atoiAll
    simp only []
    rw [if_neg (show ¬ (c.toNat = 43 ∨ c.toNat = 45) by omega)]
    unfold Lib.parseMag
    rw [if_neg (by simp), hp]
    simp only []
    rw [if_neg (by omega), if_neg (by omega), if_neg (by omega)]
theorem itoa_pos {n : Int} (h : 0 ≤ n) : Lib.itoa n = Lib.decDigits n.toNat := by
  unfold Lib.itoa
  rw [if_neg (by omega)]

/-- The word of a product. -/
def wdL (x : Key × Int) : Key := (if x.2 = 1 ∧ x.1 ≠ [] then [] else Lib.itoa x.2) ++ x.1
/-- The text of a sum. -/
def txL (L : SL) : Key := if L = [] then [48] else Lib.join (L.map wdL) [43]
/-- What the program reads of a word, and what the reference does. -/
def rdO (x : Key) : Key × Int := (x.dropWhile isDg, match Lib.atoiAll (x.takeWhile isDg) with | .ok v => v | _ => 1)
def satK (l : Key) (n : Int) : Int := l.foldl (fun n b => min (10 * n + ((b.toNat : Int) - 48)) 1000000) n
def rdR (x : Key) : Key × Int := (x.dropWhile isDg, if x.takeWhile isDg = [] then 1 else satK (x.takeWhile isDg) 0)
theorem satK_dec {u : Nat} (h : u ≤ 1000000) : satK (Lib.decDigits u) 0 = u := by
  induction u using Nat.strongRecOn with
  | _ u ih =>
    rw [Lib.decDigits]
    split
    · rename_i h10
      show min (10 * (0 : Int) + (((UInt8.ofNat (48 + u)).toNat : Int) - 48)) 1000000 = u
      rw [dg_of h10]
      omega
    · rename_i h10
      unfold satK
      rw [List.foldl_append]
      show min (10 * (satK (Lib.decDigits (u / 10)) 0) + (((UInt8.ofNat (48 + u % 10)).toNat : Int) - 48)) 1000000 = u
      rw [ih (u / 10) (by omega) (by omega), dg_of (by omega)]
      omega
theorem tk_dg {k : Key} (h : tkL k) : ∀ b ∈ k, isDg b = false ∧ b ≠ 43 := by
  intro b hb
  have := h.1 b hb
  refine ⟨?_, fun e => ?_⟩
  · unfold isDg
    simp
    omega
  · subst e
    have e : (43 : UInt8).toNat = 43 := rfl
    omega
theorem take_word {d k : Key} (hd : ∀ b ∈ d, isDg b = true) (hk : ∀ b ∈ k, isDg b = false) : (d ++ k).takeWhile isDg = d ∧ (d ++ k).dropWhile isDg = k := by
  induction d with
  | nil =>
    cases k with
    | nil => exact ⟨rfl, rfl⟩
    | cons b r => simp [hk b List.mem_cons_self]
  | cons b r ih =>
    have := ih fun c hc => hd c (List.mem_cons_of_mem _ hc)
    simp [hd b List.mem_cons_self, this.1, this.2]
theorem word_parts {x : Key × Int} (h1 : 1 ≤ x.2) : ∃ d : Key, wdL x = d ++ x.1 ∧ (∀ b ∈ d, isDg b = true) ∧ ((d = [] ∧ x.2 = 1) ∨ d = Lib.decDigits x.2.toNat) := by
  unfold wdL
  split
  · rename_i h
    exact ⟨[], rfl, by simp, .inl ⟨rfl, h.1⟩⟩
  · rw [itoa_pos (by omega)]
    exact ⟨_, rfl, decDigits_all _, .inr rfl⟩
/-- A word is read as what it is the word of. -/
theorem rdO_word {x : Key × Int} (h1 : 1 ≤ x.2) (h2 : x.2 ≤ 100000) (hk : tkL x.1) : rdO (wdL x) = x := by
  obtain ⟨d, e, hd, h⟩ := word_parts h1
  obtain ⟨t1, t2⟩ := take_word hd fun b hb => (tk_dg hk b hb).1
  unfold rdO
  rw [e, t1, t2]
  rcases h with ⟨rfl, h⟩ | rfl
  · show (x.1, (1 : Int)) = x
    rw [← h]
  · rw [atoi_dec (by omega)]
    show (x.1, ((x.2.toNat : Nat) : Int)) = x
    rw [Int.toNat_of_nonneg (by omega)]
theorem rdR_word {x : Key × Int} (h1 : 1 ≤ x.2) (h2 : x.2 ≤ 100000) (hk : tkL x.1) : rdR (wdL x) = x := by
  obtain ⟨d, e, hd, h⟩ := word_parts h1
  obtain ⟨t1, t2⟩ := take_word hd fun b hb => (tk_dg hk b hb).1
  unfold rdR
  rw [e, t1, t2]
  rcases h with ⟨rfl, h⟩ | rfl
  · show (x.1, (1 : Int)) = x
    rw [← h]
  · rw [if_neg (decDigits_ne _), satK_dec (by omega)]
    show (x.1, ((x.2.toNat : Nat) : Int)) = x
    rw [Int.toNat_of_nonneg (by omega)]
theorem word_plus {x : Key × Int} (h1 : 1 ≤ x.2) (hk : tkL x.1) : (43 : UInt8) ∉ wdL x := by
  obtain ⟨d, e, hd, _⟩ := word_parts h1
  rw [e, List.mem_append]
  rintro (h | h)
  · exact absurd (hd _ h) (by decide)
  · exact (tk_dg hk _ h).2 rfl

/-- A sum's words. -/
structure Wds (L : SL) : Prop where
  pos : ∀ x ∈ L, 1 ≤ x.2
  le : ∀ x ∈ L, x.2 ≤ 100000
  key : ∀ x ∈ L, tkL x.1
  len : ∀ x ∈ L, x.1.length ≤ 12
  few : L.length ≤ 40
theorem Wds.text {L : SL} (h : Wds L) (hne : L ≠ []) : splitK 43 (txL L) = L.map wdL := by
  unfold txL
  rw [if_neg hne]
  refine split_join (by simpa using hne) fun x hx => ?_
  obtain ⟨y, hy, rfl⟩ := List.mem_map.1 hx
  exact word_plus (h.pos y hy) (h.key y hy)
theorem Wds.rdO {L : SL} (h : Wds L) : (L.map wdL).map rdO = L := by
  rw [List.map_map]
  conv => rhs; rw [← List.map_id L]
  exact List.map_congr_left fun x hx => rdO_word (h.pos x hx) (h.le x hx) (h.key x hx)
theorem Wds.rdR {L : SL} (h : Wds L) : (L.map wdL).map rdR = L := by
  rw [List.map_map]
  conv => rhs; rw [← List.map_id L]
  exact List.map_congr_left fun x hx => rdR_word (h.pos x hx) (h.le x hx) (h.key x hx)
theorem nDigits_le {u k : Nat} (h : u < 10 ^ (k + 1)) : Lib.nDigits u ≤ k + 1 := by
  induction k generalizing u with
  | zero => rw [Lib.nDigits_small (by simpa using h)]; omega
  | succ k ih =>
    by_cases h10 : u < 10
    · rw [Lib.nDigits_small h10]; omega
    · rw [Lib.nDigits_big h10]
      have := ih (u := u / 10) (by rw [Nat.pow_succ] at h; omega)
      omega
theorem word_len {x : Key × Int} (h1 : 1 ≤ x.2) (h2 : x.2 ≤ 100000) (hl : x.1.length ≤ 12) : (wdL x).length ≤ 18 := by
  obtain ⟨d, e, _, h⟩ := word_parts h1
  rw [e, List.length_append]
  rcases h with ⟨rfl, _⟩ | rfl
  · simp; omega
  · rw [Lib.decDigits_length]
    have := nDigits_le (u := x.2.toNat) (k := 5) (by omega)
    omega
theorem join_len {L : List Key} {k : Nat} (h : ∀ x ∈ L, x.length ≤ k) : (Lib.join L [43]).length ≤ L.length * (k + 1) := by
  induction L with
  | nil => simp [Lib.join_nil]
  | cons x r ih =>
    have a := h x List.mem_cons_self
    have b := ih fun y hy => h y (List.mem_cons_of_mem _ hy)
    by_cases hr : r = []
    · subst hr
      rw [Lib.join_one]
      simp
      omega
    · rw [joinK_cons 43 x hr]
      simp only [List.length_append, List.length_cons, Nat.add_mul]
      omega
theorem Wds.size {L : SL} (h : Wds L) : (txL L).length ≤ 760 := by
  unfold txL
  split
  · simp
  · have a := join_len (L := L.map wdL) (k := 18) fun x hx => by
      obtain ⟨y, hy, rfl⟩ := List.mem_map.1 hx
      exact word_len (h.pos y hy) (h.le y hy) (h.len y hy)
    rw [List.length_map] at a
    have := h.few
    omega
theorem Wds.zero {L : SL} (h : Wds L) (hne : L ≠ []) : txL L ≠ [48] := by
  intro e
  have a := h.text hne
  rw [e] at a
  have b := h.rdO
  rw [← a] at b
  have c : ([([], 0)] : SL) = L := b
  have := h.pos ([], 0) (by rw [← c]; exact List.mem_cons_self)
  simp at this

/-- What the program reads of a text, and what the reference does. -/
def rdsO (s : Key) : SL := (splitK 43 s).map rdO
def rdsR (s : Key) : SL := ((splitK 43 s).take 41).map rdR
theorem rdsO_ne (s : Key) : rdsO s ≠ [] := by simp [rdsO, splitK_ne]
theorem rdsR_ne (s : Key) : rdsR s ≠ [] := by simp [rdsR, splitK_ne]
theorem reads_of {L : SL} (h : Wds L) (hne : L ≠ []) : rdsO (txL L) = L ∧ rdsR (txL L) = L := by
  unfold rdsO rdsR
  rw [h.text hne, List.take_of_length_le (by rw [List.length_map]; have := h.few; omega)]
  exact ⟨h.rdO, h.rdR⟩
end Go.Proofs.YtehdemcfeoiecaaDoor
