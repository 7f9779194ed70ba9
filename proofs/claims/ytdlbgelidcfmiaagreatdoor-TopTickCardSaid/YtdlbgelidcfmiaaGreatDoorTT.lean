/- Plain: pieces of a text, digits. The plain law of TickTexts: the text of a clock, and both readings of a text. Contracts: equal clocks, decimal, Itoa; a row of texts. Contracts of chapter 1: the text of a clock. -/
import Derived.Test.YtdlbgelidcfmiaaGreatDoorP5
import Derived.Test.YtdlbgelidcfmiaaGreatDoorCorn
import Derived.Test.YtdlbgelidcfmiaaGreatDoorW20
import Derived.Lib.ItoaNum
import Derived.Lib.AtoiAll
import Derived.Lib.Join
import Derived.Test.YtdlbgelidcfmiaaGreatDoorW11
import Derived.Test.YtdlbgelidcfmiaaGreatDoorSheld
import Derived.Lib.AppendIntMem
import Derived.Deep.DeepCutAuto
namespace Go.Proofs.YtdlbgelidcfmiaaGreatDoor
open Go.Firn
abbrev Key := List UInt8
abbrev CL := List (Int × Int)
theorem size_key (s : ByteArray) : s.data.toList.length = s.size := by simp
/-- The pieces of a text between bytes of a kind. -/
def splitK (c : UInt8) : Key → List Key
  | [] => [[]]
  | b :: r => if b = c then [] :: splitK c r else (b :: (splitK c r).headD []) :: (splitK c r).tailD []
theorem splitK_ne (c : UInt8) : ∀ s : Key, splitK c s ≠ []
  | [] => by simp [splitK]
  | b :: r => by unfold splitK; split <;> simp
theorem splitK_cons (c : UInt8) (s : Key) : ∃ h t, splitK c s = h :: t := by
  cases e : splitK c s with
  | nil => exact absurd e (splitK_ne c s)
  | cons h t => exact ⟨h, t, rfl⟩
theorem splitK_no {c : UInt8} : ∀ {x : Key}, c ∉ x → splitK c x = [x]
  | [], _ => rfl
  | b :: r, h => by
    unfold splitK
    rw [if_neg (show ¬ b = c from fun e => h (by rw [e]; exact List.mem_cons_self)), splitK_no fun k => h (List.mem_cons_of_mem _ k)]
    rfl
theorem splitK_app {c : UInt8} : ∀ {x : Key} (s : Key), c ∉ x → splitK c (x ++ c :: s) = x :: splitK c s
  | [], s, _ => by
    show splitK c (c :: s) = _
    conv => lhs; unfold splitK
    rw [if_pos rfl]
  | b :: r, s, h => by
    show splitK c (b :: (r ++ c :: s)) = _
    conv => lhs; unfold splitK
    rw [if_neg (show ¬ b = c from fun e => h (by rw [e]; exact List.mem_cons_self)), splitK_app s fun k => h (List.mem_cons_of_mem _ k)]
    rfl
theorem joinK_cons (c : UInt8) (x : Key) {r : List Key} (h : r ≠ []) : Lib.join (x :: r) [c] = x ++ c :: Lib.join r [c] := by
  cases r with
  | nil => exact absurd rfl h
  | cons y r =>
    rw [Lib.join_cons, Lib.join_cons]
    simp [Lib.joinTail]
/-- What is joined is split again. -/
theorem split_join {c : UInt8} : ∀ {L : List Key}, L ≠ [] → (∀ x ∈ L, c ∉ x) → splitK c (Lib.join L [c]) = L
  | [x], _, h => by rw [Lib.join_one, splitK_no (h x List.mem_cons_self)]
  | x :: y :: r, _, h => by
    rw [joinK_cons c x (by simp), splitK_app _ (h x List.mem_cons_self), split_join (by simp) fun z hz => h z (List.mem_cons_of_mem _ hz)]
/-- Digits. -/
def isDg (b : UInt8) : Bool := decide (48 ≤ b.toNat) && decide (b.toNat ≤ 57)
theorem dg_of {k : Nat} (h : k < 10) : (UInt8.ofNat (48 + k)).toNat = 48 + k := by
  rw [UInt8.toNat_ofNat_of_lt' (by show 48 + k < 256; omega)]
theorem decDigits_all (u : Nat) : ∀ b ∈ Lib.decDigits u, isDg b = true := by
  induction u using Nat.strongRecOn with
  | _ u ih =>
    have one : ∀ k, k < 10 → isDg (UInt8.ofNat (48 + k)) = true := fun k hk => by
      unfold isDg
      rw [dg_of hk]
      simp
      omega
    intro b hb
    rw [Lib.decDigits] at hb
    split at hb
    · rename_i h
      simp only [List.mem_singleton] at hb
      rw [hb]; exact one _ h
    · rename_i h
      rw [List.mem_append, List.mem_singleton] at hb
      rcases hb with hb | rfl
      · exact ih (u / 10) (by omega) b hb
      · exact one _ (by omega)
theorem decDigits_ne (u : Nat) : Lib.decDigits u ≠ [] := by
  rw [Lib.decDigits]
  split <;> simp
theorem parse_append (l : Key) (c : UInt8) : ∀ acc, Lib.parseUint10 acc (l ++ [c]) = match Lib.parseUint10 acc l with
    | .ok a => Lib.parseUint10 a [c]
    | e => e := by
  induction l with
  | nil => intro acc; rfl
  | cons b r ih =>
    intro acc
    show Lib.parseUint10 acc (b :: (r ++ [c])) = _
    simp only [Lib.parseUint10]
    split
    · split
      · rfl
      · split
        · rfl
        · rw [ih]
          simp only [Lib.parseUint10]
    · rfl
theorem parse_dec {u : Nat} (h : u < 1000000000000000000) : Lib.parseUint10 0 (Lib.decDigits u) = .ok u := by
  induction u using Nat.strongRecOn with
  | _ u ih =>
    have one : ∀ a k, k < 10 → a < 100000000000000000 → Lib.parseUint10 a [UInt8.ofNat (48 + k)] = .ok (a * 10 + k) := fun a k hk ha => by
      unfold Lib.parseUint10
      rw [dg_of hk, if_pos (by omega), if_neg (by omega), if_neg (by omega)]
      unfold Lib.parseUint10
      congr 1
      omega
    rw [Lib.decDigits]
    split
    · rename_i h10
      rw [one 0 u h10 (by omega)]
      congr 1
      omega
    · rename_i h10
      rw [parse_append, ih (u / 10) (by omega) (by omega)]
      show Lib.parseUint10 (u / 10) [UInt8.ofNat (48 + u % 10)] = _
      rw [one _ _ (by omega) (by omega)]
      congr 1
      omega
theorem atoi_dec {u : Nat} (h : u < 1000000000000000000) : Lib.atoiAll (Lib.decDigits u) = .ok (u : Int) := by
  have hp := parse_dec h
  have hd := decDigits_all u
  cases e : Lib.decDigits u with
  | nil => exact absurd e (decDigits_ne u)
  | cons c r =>
    have hc := hd c (by rw [e]; exact List.mem_cons_self)
    unfold isDg at hc
    simp only [Bool.and_eq_true, decide_eq_true_eq] at hc
    rw [e] at hp
    unfold Lib.atoiAll
    simp only []
    rw [if_neg (show ¬ (c.toNat = 43 ∨ c.toNat = 45) by omega)]
    unfold Lib.parseMag
    rw [if_neg (by simp), hp]
    simp only []
    rw [if_neg (by omega), if_neg (by omega), if_neg (by omega)]
theorem itoa_pos {n : Int} (h : 0 ≤ n) : Lib.itoa n = Lib.decDigits n.toNat := by
  unfold Lib.itoa
  rw [if_neg (by omega)]
theorem nDigits_le {u k : Nat} (h : u < 10 ^ (k + 1)) : Lib.nDigits u ≤ k + 1 := by
  induction k generalizing u with
  | zero => rw [Lib.nDigits_small (by simpa using h)]; omega
  | succ k ih =>
    by_cases h10 : u < 10
    · rw [Lib.nDigits_small h10]; omega
    · rw [Lib.nDigits_big h10]
      have := ih (u := u / 10) (by rw [Nat.pow_succ] at h; omega)
      omega
theorem join_len' {c : UInt8} {L : List Key} {k : Nat} (h : ∀ x ∈ L, x.length ≤ k) : (Lib.join L [c]).length ≤ L.length * (k + 1) := by
  induction L with
  | nil => simp [Lib.join_nil]
  | cons x r ih =>
    have a := h x List.mem_cons_self
    have b := ih fun y hy => h y (List.mem_cons_of_mem _ hy)
    by_cases hr : r = []
    · subst hr
      rw [Lib.join_one]
      simp
      omega
    · rw [joinK_cons _ x hr]
      simp only [List.length_append, List.length_cons, Nat.add_mul]
      omega
def satK (l : Key) (n : Int) : Int := l.foldl (fun n b => min (10 * n + ((b.toNat : Int) - 48)) 1000000) n
theorem satK_dec {u : Nat} (h : u ≤ 1000000) : satK (Lib.decDigits u) 0 = u := by
  induction u using Nat.strongRecOn with
  | _ u ih =>
    rw [Lib.decDigits]
    split
    · rename_i h10
      show min (10 * (0 : Int) + (((UInt8.ofNat (48 + u)).toNat : Int) - 48)) 1000000 = u
      rw [dg_of h10]
      omega
    · rename_i h10
      unfold satK
      rw [List.foldl_append]
      show min (10 * (satK (Lib.decDigits (u / 10)) 0) + (((UInt8.ofNat (48 + u % 10)).toNat : Int) - 48)) 1000000 = u
      rw [ih (u / 10) (by omega) (by omega), dg_of (by omega)]
      omega
theorem take_word {d k : Key} (hd : ∀ b ∈ d, isDg b = true) (hk : ∀ b ∈ k, isDg b = false) : (d ++ k).takeWhile isDg = d ∧ (d ++ k).dropWhile isDg = k := by
  induction d with
  | nil =>
    cases k with
    | nil => exact ⟨rfl, rfl⟩
    | cons b r => simp [hk b List.mem_cons_self]
  | cons b r ih =>
    have := ih fun c hc => hd c (List.mem_cons_of_mem _ hc)
    simp [hd b List.mem_cons_self, this.1, this.2]
theorem piece_le {c : UInt8} : ∀ {K p : Key}, p ∈ splitK c K → p.length ≤ K.length
  | [], p, h => by
    simp [splitK] at h
    rw [h]
    exact Nat.le_refl _
  | b :: r, p, h => by
    unfold splitK at h
    split at h
    · rcases List.mem_cons.1 h with rfl | h
      · simp
      · have := piece_le h
        simp
        omega
    · obtain ⟨x, t, e⟩ := splitK_cons c r
      rw [e] at h
      rcases List.mem_cons.1 h with rfl | h
      · have := piece_le (c := c) (K := r) (p := x) (by rw [e]; exact List.mem_cons_self)
        simp
        omega
      · have := piece_le (c := c) (K := r) (p := p) (by rw [e]; exact List.mem_cons_of_mem _ h)
        simp
        omega
theorem join_snoc {A : List Key} (x : Key) (c : UInt8) (h : A ≠ []) : Lib.join (A ++ [x]) [c] = Lib.join A [c] ++ c :: x := by
  induction A with
  | nil => exact absurd rfl h
  | cons a r ih =>
    cases r with
    | nil =>
      show Lib.join (a :: [x]) [c] = _
      rw [joinK_cons c a (by simp), Lib.join_one, Lib.join_one]
    | cons b r =>
      have := ih (by simp)
      show Lib.join (a :: ((b :: r) ++ [x])) [c] = _
      rw [joinK_cons c a (by simp), this, joinK_cons c a (by simp)]
      simp

end Go.Proofs.YtdlbgelidcfmiaaGreatDoor

namespace Go.Proofs.YtdlbgelidcfmiaaGreatDoor
open Go.Firn

/-- Whether a list is a clock. -/
def vMk (c : CL) : Bool := vK c.length (px c) (py c)
/-- A mark's word, and a clock's text. -/
def wdC (x : Int × Int) : Key := Lib.itoa x.1 ++ 61 :: Lib.itoa x.2
def txC (c : CL) : Key := Lib.join (c.map wdC) [32]
theorem pxy {c : CL} {i : Nat} (h : i < c.length) : c[i]? = some (px c i, py c i) := by simp [px, py, List.getD_eq_getElem?_getD, List.getElem?_eq_getElem h]
/-- What a clock's marks are. -/
structure Mks (c : CL) : Prop where
  two : 2 ≤ c.length
  few : c.length ≤ 30
  ok : ∀ x ∈ c, 0 ≤ x.1 ∧ x.1 ≤ 100000 ∧ 0 ≤ x.2 ∧ x.2 ≤ 100000
theorem Mks.of {c : CL} (h : vMk c = true) : Mks c := by
  obtain ⟨h1, h2, h3, _⟩ := vK_true.1 h
  refine ⟨h1, h2, fun x hx => ?_⟩
  obtain ⟨i, hi, e⟩ := List.mem_iff_getElem.1 hx
  have := h3 i hi
  have e2 := pxy hi
  rw [List.getElem?_eq_getElem hi, e] at e2
  cases e2
  exact this
theorem dg_no {d : Key} (h : ∀ b ∈ d, isDg b = true) : (61 : UInt8) ∉ d ∧ (32 : UInt8) ∉ d := ⟨fun k => absurd (h _ k) (by decide), fun k => absurd (h _ k) (by decide)⟩
theorem word_is {x : Int × Int} (h1 : 0 ≤ x.1) (h2 : 0 ≤ x.2) : wdC x = Lib.decDigits x.1.toNat ++ 61 :: Lib.decDigits x.2.toNat := by unfold wdC; rw [itoa_pos h1, itoa_pos h2]
theorem word_sp {x : Int × Int} (h1 : 0 ≤ x.1) (h2 : 0 ≤ x.2) : (32 : UInt8) ∉ wdC x := by
  rw [word_is h1 h2]
  simp only [List.mem_append, List.mem_cons]
  rintro (h | h | h)
  · exact (dg_no (decDigits_all _)).2 h
  · exact absurd h (by decide)
  · exact (dg_no (decDigits_all _)).2 h
theorem dec_le {u : Nat} (h : u ≤ 100000) : (Lib.decDigits u).length ≤ 6 := by
  rw [Lib.decDigits_length]
  exact nDigits_le (k := 5) (by omega)
theorem word_size {x : Int × Int} (h : 0 ≤ x.1 ∧ x.1 ≤ 100000 ∧ 0 ≤ x.2 ∧ x.2 ≤ 100000) : (wdC x).length ≤ 13 := by
  rw [word_is h.1 h.2.2.1, List.length_append, List.length_cons]
  have := dec_le (u := x.1.toNat) (by omega)
  have := dec_le (u := x.2.toNat) (by omega)
  omega
theorem tx_size {c : CL} (h : Mks c) (k : Nat) : (txC (c.take k)).length ≤ 420 := by
  have a := join_len' (c := 32) (L := (c.take k).map wdC) (k := 13) fun x hx => by
    obtain ⟨y, hy, rfl⟩ := List.mem_map.1 hx
    exact word_size (h.ok y (List.mem_of_mem_take hy))
  rw [List.length_map, List.length_take] at a
  have := h.few
  unfold txC
  omega
theorem tx_split {c : CL} (h : Mks c) : splitK 32 (txC c) = c.map wdC := by
  refine split_join (fun e => ?_) fun x hx => ?_
  · have := congrArg List.length e
    rw [List.length_map, List.length_nil] at this
    have := h.two
    omega
  · obtain ⟨y, hy, rfl⟩ := List.mem_map.1 hx
    exact word_sp (h.ok y hy).1 (h.ok y hy).2.2.1

/-! ### The program's reading -/
def cutA (p : Key) : Key := p.takeWhile (· != 61)
def cutB (p : Key) : Key := (p.dropWhile (· != 61)).drop 1
def rdO (p : Key) : Option (Int × Int) := match Lib.atoiAll (cutA p) with
  | .ok a => match Lib.atoiAll (cutB p) with
    | .ok b => some (a, b)
    | _ => none
  | _ => none
def rdsO : List Key → Option CL
  | [] => some []
  | p :: r => match rdO p with
    | some x => (rdsO r).map (x :: ·)
    | none => none
theorem rdsO_snoc (L : List Key) (p : Key) (c : CL) (h : rdsO L = some c) : rdsO (L ++ [p]) = (rdO p).map fun x => c ++ [x] := by
  induction L generalizing c with
  | nil =>
    cases h
    show rdsO [p] = _
    unfold rdsO
    cases rdO p <;> rfl
  | cons q r ih =>
    unfold rdsO at h
    show rdsO (q :: (r ++ [p])) = _
    unfold rdsO
    cases hq : rdO q with
    | none => rw [hq] at h; cases h
    | some x =>
      rw [hq] at h
      cases hr : rdsO r with
      | none => rw [hr] at h; cases h
      | some d =>
        rw [hr] at h
        cases h
        rw [ih d hr]
        cases rdO p <;> rfl
theorem rdsO_stop (L : List Key) (p : Key) (t : List Key) (h : rdO p = none) : rdsO (L ++ p :: t) = none := by
  induction L with
  | nil => show rdsO (p :: t) = none; unfold rdsO; rw [h]
  | cons q r ih =>
    show rdsO (q :: (r ++ p :: t)) = none
    unfold rdsO
    rw [ih]
    cases rdO q <;> rfl
theorem rdsO_len {L : List Key} {c : CL} (h : rdsO L = some c) : c.length = L.length := by
  induction L generalizing c with
  | nil => cases h; rfl
  | cons q r ih =>
    unfold rdsO at h
    cases hq : rdO q with
    | none => rw [hq] at h; cases h
    | some x =>
      rw [hq] at h
      cases hr : rdsO r with
      | none => rw [hr] at h; cases h
      | some d => rw [hr] at h; cases h; simp [ih hr]
theorem ne_eq {b : UInt8} {c : UInt8} (h : b ≠ c) : (b != c) = true := by simpa using h
theorem cut_word {d e : Key} (hd : (61 : UInt8) ∉ d) : cutA (d ++ 61 :: e) = d ∧ cutB (d ++ 61 :: e) = e := by
  have a : ∀ b ∈ d, (b != (61 : UInt8)) = true := fun b hb => ne_eq fun k => hd (by rw [← k]; exact hb)
  unfold cutA cutB
  rw [List.takeWhile_append_of_pos a, List.dropWhile_append_of_pos a]
  simp
theorem rdO_word {x : Int × Int} (h : 0 ≤ x.1 ∧ x.1 ≤ 100000 ∧ 0 ≤ x.2 ∧ x.2 ≤ 100000) : rdO (wdC x) = some x := by
  obtain ⟨c1, c2⟩ := cut_word (d := Lib.decDigits x.1.toNat) (e := Lib.decDigits x.2.toNat) (dg_no (decDigits_all _)).1
  unfold rdO
  rw [word_is h.1 h.2.2.1, c1, c2, atoi_dec (by omega), atoi_dec (by omega), Int.toNat_of_nonneg h.1, Int.toNat_of_nonneg h.2.2.1]
theorem rdsO_words {c : CL} (h : ∀ x ∈ c, 0 ≤ x.1 ∧ x.1 ≤ 100000 ∧ 0 ≤ x.2 ∧ x.2 ≤ 100000) : rdsO (c.map wdC) = some c := by
  induction c with
  | nil => rfl
  | cons x r ih =>
    show rdsO (wdC x :: r.map wdC) = _
    unfold rdsO
    rw [rdO_word (h x List.mem_cons_self), ih fun y hy => h y (List.mem_cons_of_mem _ hy)]
    rfl
def prO (K : Key) : CL × Int := if 420 < K.length then ([], 3) else match rdsO (splitK 32 K) with
  | some c => if vMk c = true ∧ txC c = K then (c, 0) else ([], 3)
  | none => ([], 3)

/-! ### The reference's reading -/
def scn : Key → Int → List Int
  | [], n => [n]
  | b :: r, n => if isDg b = true then scn r (min (10 * n + ((b.toNat : Int) - 48)) 1000000) else n :: scn r 0
def prs : List Int → CL
  | a :: b :: r => (a, b) :: prs r
  | _ => []
def prR (K : Key) : CL × Int := if 60 < (scn K 0).length then ([], 3) else if vMk (prs (scn K 0)) = true ∧ txC (prs (scn K 0)) = K then (prs (scn K 0), 0) else ([], 3)
theorem scn_dig : ∀ (d : Key) (n : Int) (r : Key), (∀ b ∈ d, isDg b = true) → scn (d ++ r) n = scn r (satK d n)
  | [], _, _, _ => rfl
  | b :: d, n, r, h => by
    show scn (b :: (d ++ r)) n = _
    conv => lhs; unfold scn
    rw [if_pos (h b List.mem_cons_self), scn_dig d _ r fun c hc => h c (List.mem_cons_of_mem _ hc)]
    rfl
theorem scn_sep {c : UInt8} (h : isDg c = false) (r : Key) (n : Int) : scn (c :: r) n = n :: scn r 0 := by
  conv => lhs; unfold scn
  rw [if_neg (by rw [h]; simp)]
theorem scn_word {x : Int × Int} (h : 0 ≤ x.1 ∧ x.1 ≤ 100000 ∧ 0 ≤ x.2 ∧ x.2 ≤ 100000) (r : Key) : scn (wdC x ++ r) 0 = x.1 :: scn r x.2 := by
  rw [word_is h.1 h.2.2.1, List.append_assoc, scn_dig _ _ _ (decDigits_all _), List.cons_append, scn_sep (by decide), scn_dig _ _ _ (decDigits_all _), satK_dec (by omega), satK_dec (by omega), Int.toNat_of_nonneg h.1, Int.toNat_of_nonneg h.2.2.1]
theorem scn_text : ∀ (c : CL), c ≠ [] → (∀ x ∈ c, 0 ≤ x.1 ∧ x.1 ≤ 100000 ∧ 0 ≤ x.2 ∧ x.2 ≤ 100000) → (scn (txC c) 0).length = 2 * c.length ∧ prs (scn (txC c) 0) = c
  | [x], _, h => by
    have e := scn_word (h x List.mem_cons_self) []
    rw [List.append_nil] at e
    unfold txC
    rw [List.map_singleton, Lib.join_one, e]
    exact ⟨rfl, rfl⟩
  | x :: y :: r, _, h => by
    obtain ⟨i1, i2⟩ := scn_text (y :: r) (by simp) fun z hz => h z (List.mem_cons_of_mem _ hz)
    have e : txC (x :: y :: r) = wdC x ++ 32 :: txC (y :: r) := by
      unfold txC
      rw [List.map_cons, joinK_cons _ _ (by simp)]
    rw [e, scn_word (h x List.mem_cons_self), scn_sep (by decide)]
    refine ⟨by rw [List.length_cons, List.length_cons, i1]; simp only [List.length_cons]; omega, ?_⟩
    show (x.1, x.2) :: prs (scn (txC (y :: r)) 0) = _
    rw [i2]

/-! ### Both are one -/
theorem Mks.ne {c : CL} (h : Mks c) : c ≠ [] := fun e => by have := h.two; rw [e] at this; simp at this
theorem prO_text {c : CL} (h : vMk c = true) : prO (txC c) = (c, 0) := by
  have M := Mks.of h
  have z := tx_size M c.length
  rw [List.take_length] at z
  unfold prO
  rw [if_neg (by omega), tx_split M, rdsO_words M.ok]
  exact if_pos ⟨h, rfl⟩
theorem prR_text {c : CL} (h : vMk c = true) : prR (txC c) = (c, 0) := by
  have M := Mks.of h
  obtain ⟨e1, e2⟩ := scn_text c M.ne M.ok
  have := M.few
  unfold prR
  rw [if_neg (by omega), e2]
  exact if_pos ⟨h, rfl⟩
theorem prO_is (K : Key) : (vMk (prO K).1 = true ∧ txC (prO K).1 = K ∧ (prO K).2 = 0) ∨ prO K = ([], 3) := by
  unfold prO
  split
  · exact .inr rfl
  · split
    · split
      · rename_i h; exact .inl ⟨h.1, h.2, rfl⟩
      · exact .inr rfl
    · exact .inr rfl
theorem prR_is (K : Key) : (vMk (prR K).1 = true ∧ txC (prR K).1 = K ∧ (prR K).2 = 0) ∨ prR K = ([], 3) := by
  unfold prR
  split
  · exact .inr rfl
  · split
    · rename_i h; exact .inl ⟨h.1, h.2, rfl⟩
    · exact .inr rfl
theorem pr_same (K : Key) : prR K = prO K := by
  rcases prR_is K with ⟨h1, h2, h3⟩ | h
  · have := prO_text h1
    rw [h2] at this
    rw [this]
    exact Prod.ext rfl h3
  · rcases prO_is K with ⟨h1, h2, h3⟩ | h'
    · have := prR_text h1
      rw [h2] at this
      rw [this]
      exact Prod.ext rfl h3.symm
    · rw [h, h']
end Go.Proofs.YtdlbgelidcfmiaaGreatDoor

namespace Go.Proofs.YtdlbgelidcfmiaaGreatDoor
open Go.RowKit Go.Firn Go.Shelf
def bA (k : Key) : ByteArray := ⟨k.toArray⟩
theorem bA_append (a b : Key) : bA a ++ bA b = bA (a ++ b) := by
  refine ByteArray.ext ?_
  rw [ByteArray.data_append]
  simp [bA]
theorem bA_data (s : ByteArray) : bA s.data.toList = s := rfl
theorem bA_list (k : Key) : (bA k).data.toList = k := rfl
theorem bA_size (k : Key) : (bA k).size = k.length := by simp [bA, ByteArray.size]
/-- A text is returned. -/
def RetT (s : ByteArray) (w : World) (e : Ending) (w' : World) : Prop := e = .returned (.string s) ∧ Gr w w'
theorem back_one (w : World) (c : UInt8) (cp : Nat) : (convert 104 9 (.slice (some ⟨w.heap.size, 0, none⟩) 1 cp)).run Tryz.prog (w.alloc (.cells #[.int .u8 (c.toNat : Nat)] 5)) = .ok (.string (bA [c])) (w.alloc (.cells #[.int .u8 (c.toNat : Nat)] 5)) :=
  run_convert_bytes_back (w.alloc (.cells #[.int .u8 (c.toNat : Nat)] 5)) 104 9 5 ⟨w.heap.size, 0, none⟩ cp [c] Tryz.underlying104 Tryz.underlying5 Tryz.underlying9 (fun j hj => by
    obtain rfl : j = 0 := by simp at hj; exact hj
    rw [add_flat rfl]
    exact cell_new1 w _ 5)
theorem dec_len {n : Nat} (h : n ≤ 1000000000000000000) : (Lib.decDigits n).length ≤ 19 := by
  rw [Lib.decDigits_length]
  exact nDigits_le (k := 18) (by omega)
/-- A row of texts of the call's own. -/
def OwnW (w0 w : World) (v : Value) (L : List ByteArray) : Prop := w.ownsRow w0.heap.size 9 1 v L.length (L.map Value.string) ∧ Gr w0 w
theorem OwnW.nil {w0 w : World} (g : Gr w0 w) : OwnW w0 w (.slice none 0 0) [] := ⟨World.ownsRow_nil w _ _ _, g⟩
theorem OwnW.gr {w0 w w' : World} {v : Value} {L : List ByteArray} (h : OwnW w0 w v L) (g : Gr w w') : OwnW w0 w' v L :=
  ⟨h.1.kept (row := none) ⟨g.os, g.tape, g.output, Gr.size g, fun k hk _ => Below.block g k hk⟩ (by cases v.ownBlock <;> simp), h.2.trans g⟩
theorem OwnW.row {w0 w : World} {v : Value} {L : List ByteArray} (h : OwnW w0 w v L) : (v = .slice none 0 0 ∧ L = []) ∨ ∃ g c, v = .slice (some ⟨g, 0, none⟩) L.length c ∧ L.length ≤ c ∧ c ≤ maxLen ∧ (∀ i x, L[i]? = some x → w.cell? ⟨g, i, none⟩ = some (.string x) ∧ w.frozen? ⟨g, i, none⟩ = false) ∧ w0.heap.size ≤ g ∧ g < w.heap.size := by
  have h0 := h.1
  obtain ⟨hl, hv⟩ := h.1
  rcases hv with ⟨rfl, hz⟩ | ⟨g, cap, cur, rfl, hb, hg, hnc, hcm, hcs, htake⟩
  · exact .inl ⟨rfl, List.length_eq_zero_iff.1 hz⟩
  · refine .inr ⟨_, _, rfl, hnc, hcm, fun i x hx => ?_, (h0.lt g rfl).1, (h0.lt g rfl).2⟩
    have c0 := h0.cells (g := g) rfl i (.string x) (by simp [hx])
    rw [add_flat rfl] at c0
    simp only [Nat.zero_add] at c0
    exact ⟨c0, h0.frozenAt _⟩
theorem info9 : ∃ i : TypeInfo, Tryz.prog.info? 9 = some i ∧ i.zero = some (.string ⟨#[]⟩) ∧ i.size = 1 ∧ i.bytes = 16 := by
  have h : (Tryz.prog.info? 9).map (fun i => (i.zero, i.size, i.bytes)) = some (some (.string ⟨#[]⟩), 1, 16) := by kernel_rfl
  cases hi : Tryz.prog.info? 9 with
  | none => rw [hi] at h; cases h
  | some i => rw [hi] at h; simp at h; exact ⟨i, rfl, h.1, h.2.1, h.2.2⟩
theorem wpList_app_str {ops : Array Oper} {rest : List Oper} {o : Oper} {a : Act} {Q : Exit → Act → World → Prop} (hgd : o.guard = none) (s x : Operand)
    (ho : o.op = .call { callee := .builtin .append, args := #[s, x], argTypes := #[84, 84] })
    {w0 w : World} (v : Value) (L : List ByteArray) (hs : a.eval s = v) (hown : OwnW w0 w v L)
    (b : Nat) (t : ByteArray) (hx : a.eval x = .slice (some ⟨b, 0, none⟩) 1 1) (hc : w.cell? ⟨b, 0, none⟩ = some (.string t)) (hk : L.length < 999999)
    (h : ∀ v' w', OwnW w0 w' v' (L ++ [t]) → wpList Tryz.prog ops Q rest (a.put o.dst v') w') : wpList Tryz.prog ops Q (o :: rest) a w := by
  obtain ⟨i0, hi, hz0, hz1, hz2⟩ := info9
  refine wpList_append_own w hgd s x 84 ho w0.heap.size 9 i0 _ 1 16 Tryz.underlying84 hi hz0 hz1 hz2 rfl (by decide) v L.length (L.map Value.string) hs hown.1 ⟨b, 0, none⟩ 1 1 [.string t] hx rfl ?_ ?_ (by unfold maxLen; omega) (by omega) hown.2.size ?_
  · intro j u hu
    cases j with
    | zero => simp at hu; subst hu; exact hc
    | succ j => simp at hu
  · intro u hu
    simp at hu
    subst hu
    rfl
  · intro v' w' h1 h2 _
    refine h v' w' ⟨?_, hown.2.grown h2 fun k hk => (hown.1.lt k hk).1⟩
    rw [List.length_append, List.map_append]
    exact h1
/-- The table of powers of ten. -/
def Pow10 (w : World) : Prop := Lib.TabIs Tryz.prog w "internal/strconv.uint64pow10" .u64 Lib.pow10Tab
theorem Pow10.gr {w w' : World} (h : Pow10 w) (g : Gr w w') : Pow10 w' := Lib.tabBelow_of_tabIs h w' g
theorem itoa_any (n : Int) (h0 : 0 ≤ n) (h1 : n ≤ 100000) (w : World) (hT : Pow10 w) : Calls Tryz.prog 49 #[.int .i64 n] w (RetT (bA (Lib.itoa n)) w) := by
  refine (Any.strconv_Itoa Tryz.itoa21 n (by omega) (by omega) w hT).mono ?_
  rintro e w' ⟨rfl, k, os, rfl⟩
  exact ⟨rfl, Lib.below_grow _ _ (Nat.le_refl _) _ _⟩
/-- A text and an error. -/
def RetTE (s : ByteArray) (E : Int) (w : World) (e : Ending) (w' : World) : Prop := e = .returned (.tuple #[.string s, .int .i64 E]) ∧ Gr w w'
theorem ext_key (s : ByteArray) (f i : Nat) : (s.extract f i).data.toList = (s.data.toList.drop f).take (i - f) := by
  rw [ByteArray.data_extract, Array.toList_extract, List.extract_eq_take_drop]
theorem ext_bA (s : ByteArray) (f i : Nat) : s.extract f i = bA ((s.data.toList.drop f).take (i - f)) := by
  rw [← ext_key]
  rfl
theorem bt_at {s : ByteArray} {i : Nat} (h : i < s.size) : s.data.toList[i]? = some (s[i]'h) := by
  rw [List.getElem?_eq_getElem (by rw [size_key]; exact h)]
  rfl
theorem cell_news {w : World} {b : Nat} {v : Value} {e : TypeId} (h : w.heap.size = b) : (w.alloc (.cells #[v] e)).cell? ⟨b, 0, none⟩ = some v := by
  subst h
  exact cell_new1 w v e

end Go.Proofs.YtdlbgelidcfmiaaGreatDoor

namespace Go.Proofs.YtdlbgelidcfmiaaGreatDoor
open Go.RowKit Go.Firn Go.Shelf

theorem wp_app_str {o : Oper} {a : Act} {K : Act → World → Prop} {Q : Exit → Act → World → Prop} (s x : Operand)
    (ho : o.op = .call { callee := .builtin .append, args := #[s, x], argTypes := #[84, 84] })
    {w0 w : World} (v : Value) (L : List ByteArray) (hs : a.eval s = v) (hown : OwnW w0 w v L)
    (b : Nat) (t : ByteArray) (hx : a.eval x = .slice (some ⟨b, 0, none⟩) 1 1) (hc : w.cell? ⟨b, 0, none⟩ = some (.string t)) (hk : L.length < 999999)
    (h : ∀ v' w', OwnW w0 w' v' (L ++ [t]) → w.grownBy w' v.ownBlock → K (a.put o.dst v') w') : o.wp Tryz.prog a w K Q := by
  obtain ⟨i0, hi, hz0, hz1, hz2⟩ := info9
  refine wp_append_own w s x 84 ho w0.heap.size 9 i0 _ 1 16 Tryz.underlying84 hi hz0 hz1 hz2 rfl (by decide) v L.length (L.map Value.string) hs hown.1 ⟨b, 0, none⟩ 1 1 [.string t] hx rfl ?_ ?_ (by unfold maxLen; omega) (by omega) hown.2.size ?_
  · intro j u hu
    cases j with
    | zero => simp at hu; subst hu; exact hc
    | succ j => simp at hu
  · intro u hu
    simp at hu
    subst hu
    rfl
  · intro v' w' h1 h2 _
    refine h v' w' ⟨?_, hown.2.grown h2 fun k hk => (hown.1.lt k hk).1⟩ h2
    rw [List.length_append, List.map_append]
    exact h1
theorem step_app_str {ops : Array Oper} {o : Oper} {a : Act} {K : Act → World → Prop} {Q : Exit → Act → World → Prop} {E : Prop} (hgd : o.guard = none) (s x : Operand)
    (ho : o.op = .call { callee := .builtin .append, args := #[s, x], argTypes := #[84, 84] })
    {w0 w : World} (v : Value) (L : List ByteArray) (hs : a.eval s = v) (hown : OwnW w0 w v L)
    (b : Nat) (t : ByteArray) (hx : a.eval x = .slice (some ⟨b, 0, none⟩) 1 1) (hc : w.cell? ⟨b, 0, none⟩ = some (.string t)) (hk : L.length < 999999)
    (h : ∀ v' w', OwnW w0 w' v' (L ++ [t]) → w.grownBy w' v.ownBlock → K (a.put o.dst v') w') :
    if Region.wanted o (yielded ops a.tmps) = true then Oper.wp Tryz.prog o a w K Q else E := by
  have hw : Region.wanted o (yielded ops a.tmps) = true := by simp [Region.wanted, hgd]
  rw [if_pos hw]
  exact wp_app_str s x ho v L hs hown b t hx hc hk h
theorem OwnW.box {w0 wr w5 W : World} {v : Value} {M : List ByteArray} (hO : OwnW w0 wr v M) (hg : W.grownBy w5 v.ownBlock) {b off : Nat} (hb : wr.heap.size ≤ b) {x : Value} (hc : W.cell? ⟨b, off, none⟩ = some x) : w5.cell? ⟨b, off, none⟩ = some x := by
  have hlt := World.block_lt_of_cell? W _ hc
  have e := hg.block b hlt (fun e => by have := (hO.1.lt b e.symm).2; omega)
  exact (World.cell?_of_block e).trans hc
theorem box_ii (w : World) (x y : Int) (e : TypeId) : (w.alloc (.cells #[.int .i64 x, .int .i64 y] e)).cell? ⟨w.heap.size, 0, none⟩ = some (.int .i64 x) ∧ (w.alloc (.cells #[.int .i64 x, .int .i64 y] e)).cell? ⟨w.heap.size, 1, none⟩ = some (.int .i64 y) := by
  simp [World.cell?_alloc_new]
theorem take_addC {c : CL} {k : Nat} (h : k < c.length) : c.take (k + 1) = c.take k ++ [(px c k, py c k)] := by
  rw [List.take_add_one, pxy h]
  rfl
theorem itoa_size {n : Int} (h0 : 0 ≤ n) (h1 : n ≤ 100000) : (bA (Lib.itoa n)).size ≤ 19 := by
  rw [bA_size, itoa_pos h0]
  exact dec_len (by omega)
theorem bA_word (x : Int × Int) : bA (wdC x) = bA (Lib.itoa x.1) ++ ⟨#[61]⟩ ++ bA (Lib.itoa x.2) := by
  show _ = bA _ ++ bA [61] ++ bA _
  rw [bA_append, bA_append]
  unfold wdC
  simp

set_option maxHeartbeats 4000000 in
set_option maxRecDepth 100000 in
theorem text_any (a : Option Addr) (cp : Nat) (c : CL) (w : World) (hT : Pow10 w) (hL : vMk c = true) (hr : RdM w a c.length (px c) (py c)) :
    Calls Tryz.prog 31 #[.slice a c.length cp] w (RetT (bA (txC c)) w) := by
  have HW := Lib.hid (Mks.of hL)
  have HR := Lib.hid hr
  have HT := Lib.hid hT
  have HLe := Lib.hid (Mks.of hL).few
  clear hL hr hT
  go_enter Tryz.func31, Tryz.ntmps31
  go_wp2_with fail
  go_loopw [3, 8] (fun s3 s8 wr => ∃ k : Nat, k ≤ c.length ∧ s8 = .int .i64 k ∧ Hid (OwnW w wr s3 ((c.take k).map fun x => bA (wdC x)))) (fun _ s _ => c.length - (intOf s).toNat)
  case atStart => exact ⟨0, Nat.zero_le _, rfl, Lib.hid (OwnW.nil (Gr.refl _))⟩
  case round =>
    obtain ⟨k, hk, rfl, HO⟩ := hrel
    by_cases hlt : k < c.length
    · have i1 : (k : Int) < (c.length : Int) := by omega
      obtain ⟨b, o, rfl, hc⟩ := (HR.out.gr HO.out.2).at hlt
      obtain ⟨c0, c1⟩ := hc k hlt
      have w2 : IntKind.i64.wrap ((k : Int) + 1) = ((k + 1 : Nat) : Int) := by rw [IntWalk.i64_in _ (by have := HLe.out; omega)]; omega
      have hm := HW.out.ok _ (List.mem_of_getElem? (pxy hlt))
      have HN := Lib.hid (show (c.take (k + 1)).map (fun x => bA (wdC x)) = (c.take k).map (fun x => bA (wdC x)) ++ [bA (Lib.itoa (px c k)) ++ ⟨#[61]⟩ ++ bA (Lib.itoa (py c k))] by rw [take_addC hlt, List.map_append, List.map_singleton, bA_word])
      have HKl := Lib.hid (show ((c.take k).map fun x => bA (wdC x)).length < 999999 by rw [List.length_map, List.length_take]; have := HLe.out; omega)
      obtain ⟨z0, z1⟩ := box_ii wr (px c k) (py c k) 55
      have s1 : (bA (Lib.itoa (px c k))).size ≤ 19 := itoa_size hm.1 hm.2.1
      have s2 : (bA (Lib.itoa (py c k))).size ≤ 19 := itoa_size hm.2.2.1 hm.2.2.2
      have t1 : (bA (Lib.itoa (px c k))).size + 1 ≤ 9223372036854775807 := by omega
      have t2 : (bA (Lib.itoa (px c k))).size + 1 + (bA (Lib.itoa (py c k))).size ≤ 9223372036854775807 := by omega
      have t3 : (9223372036854775807 < (bA (Lib.itoa (px c k))).size + 1) = False := by simp; omega
      have t4 : (9223372036854775807 < (bA (Lib.itoa (px c k))).size + 1 + (bA (Lib.itoa (py c k))).size) = False := by simp; omega
      have CX := Lib.hid (fun wx (g : Gr wr wx) => itoa_any (px c k) hm.1 hm.2.1 wx (HT.out.gr (HO.out.2.trans g)))
      have CY := Lib.hid (fun wx (g : Gr wr wx) => itoa_any (py c k) hm.2.2.1 hm.2.2.2 wx (HT.out.gr (HO.out.2.trans g)))
      have HLk := Lib.hid hlt
      have HOA := Lib.hid (fun wx (g : Gr wr wx) => HO.out.gr g)
      have HGA := Lib.hid ((Gr.refl wr).alloc (.cells #[.int .i64 (px c k), .int .i64 (py c k)] 55))
      clear hc hm hlt s1 s2
      generalize hM : (c.take (k + 1)).map (fun x => bA (wdC x)) = M2 at *
      have HM2 := Lib.hid hM
      clear hM
      generalize (c.take k).map (fun x => bA (wdC x)) = M1 at *
      generalize px c k = x at *
      generalize py c k = y at *
      generalize bA (Lib.itoa x) = X at *
      generalize bA (Lib.itoa y) = Y at *
      go_wp2_with fail
      go_region_held3 (fun w' => w'.cell? ⟨wr.heap.size, 0, none⟩ = some (.int .i64 x) ∧ w'.cell? ⟨wr.heap.size, 1, none⟩ = some (.int .i64 y))
        (first | go_keep | exact ⟨g3.cell z0, g3.cell z1⟩ | exact ⟨g4.cell (g3.cell z0), g4.cell (g3.cell z1)⟩ | exact ⟨HO.out.box hgr (Nat.le_refl _) (((Gr.refl w4).alloc _).cell (g4.cell (g3.cell z0))), HO.out.box hgr (Nat.le_refl _) (((Gr.refl w4).alloc _).cell (g4.cell (g3.cell z1)))⟩)
        (first
          | (go_at_call 49; (with_reducible refine (CX.out _ HGA.out.drew).mono ?_); rintro e w3 ⟨rfl, g3⟩; have G3 := Lib.hid (HGA.out.drew.trans g3); clear CX)
          | (go_at_call 49; (with_reducible refine (CY.out _ G3.out).mono ?_); rintro e w4 ⟨rfl, g4⟩; have G4 := Lib.hid (G3.out.trans g4); clear CY)
          | (refine step_app_str rfl _ _ rfl _ _ rfl (HOA.out _ (G4.out.alloc _)) _ _ rfl (cell_new1 _ _ 9) HKl.out ?_; intro v1 w5 hown hgr; have H1 := Lib.hid hown; clear hown))
      go_wp2_with fail
      go_roundw
      case rel => exact ⟨k + 1, HLk.out, by go_num, Lib.hid (by rw [HM2.out, HN.out]; exact H1.out)⟩
      case measure => have := HLk.out; simp [intOf]; omega
    · obtain rfl : k = c.length := by omega
      have i1 : ¬ (c.length : Int) < (c.length : Int) := by omega
      rcases HO.out.row with ⟨rfl, h0⟩ | ⟨g, cc, rfl, h1, h2, h3, h4, h5⟩
      · exfalso
        have := congrArg List.length h0
        rw [List.length_map, List.length_take] at this
        simp only [List.length_nil] at this
        have := HW.out.two
        omega
      · have hl : ((c.take c.length).map fun x => bA (wdC x)).length = c.length := by rw [List.length_map, List.length_take]; omega
        have hj : Lib.join (((c.take c.length).map fun x => bA (wdC x)).map (·.data.toList)) [32] = txC c := by
          rw [List.take_length, List.map_map]
          rfl
        have hJ := Any.strings_Join Tryz.join22 Tryz.joinX g 0 cc ((c.take c.length).map fun x => bA (wdC x)) ⟨#[32]⟩ wr (fun j x hx => by rw [Nat.zero_add]; exact (h3 j x hx).1) h5 (by rw [hl]; have := HLe.out; omega) h1 (by
          rw [show (⟨#[32]⟩ : ByteArray).data.toList = [32] from rfl, hj]
          have := tx_size HW.out c.length
          rw [List.take_length] at this
          omega)
        rw [show (⟨#[32]⟩ : ByteArray).data.toList = [32] from rfl, hj] at hJ
        have CJ := Lib.hid (show Calls Tryz.prog 50 #[.slice (some ⟨g, 0, none⟩) ((c.take c.length).map fun x => bA (wdC x)).length cc, .string ⟨#[32]⟩] wr (RetT (bA (txC c)) wr) from hJ)
        have HG := Lib.hid HO.out.2
        clear hJ hj hl h1 h2 h3 h4 h5 HW HR HT HO
        generalize ((c.take c.length).map fun x => bA (wdC x)).length = N at *
        generalize bA (txC c) = T at *
        go_wp2_with (go_at_call 50; (with_reducible refine CJ.out.mono ?_); rintro e w3 ⟨rfl, g3⟩; have G3 := Lib.hid (HG.out.trans g3); clear g3)
        go_ret
        exact ⟨rfl, G3.out⟩

theorem tx_next {c : CL} {k : Nat} (h : k < c.length) : bA (txC (c.take (k + 1))) = (if k = 0 then bA [] else bA (txC (c.take k)) ++ ⟨#[32]⟩) ++ (bA (Lib.itoa (px c k)) ++ ⟨#[61]⟩ ++ bA (Lib.itoa (py c k))) := by
  have e := bA_word (px c k, py c k)
  rw [← e]
  unfold txC
  rw [take_addC h, List.map_append, List.map_singleton]
  by_cases h0 : k = 0
  · subst h0
    rw [if_pos rfl, bA_append]
    simp [Lib.join_one]
  · rw [if_neg h0, join_snoc _ _ (by
      intro e
      have := congrArg List.length e
      rw [List.length_map, List.length_take] at this
      simp only [List.length_nil] at this
      omega), show (⟨#[32]⟩ : ByteArray) = bA [32] from rfl, bA_append, bA_append]
    simp
end Go.Proofs.YtdlbgelidcfmiaaGreatDoor
