/- Plain: pieces of a text, digits. -/
import Derived.Test.YtdlbgelidcfmiaaDoorP5
import Derived.Test.YtdlbgelidcfmiaaDoorCorn
import Derived.Lib.ItoaNum
import Derived.Lib.AtoiAll
import Derived.Lib.Join
namespace Go.Proofs.YtdlbgelidcfmiaaDoor
open Go.Firn
abbrev Key := List UInt8
abbrev CL := List (Int × Int)
theorem size_key (s : ByteArray) : s.data.toList.length = s.size := by simp
/-- The pieces of a text between bytes of a kind. -/
def splitK (c : UInt8) : Key → List Key
  | [] => [[]]
  | b :: r => if b = c then [] :: splitK c r else (b :: (splitK c r).headD []) :: (splitK c r).tailD []
theorem splitK_ne (c : UInt8) : ∀ s : Key, splitK c s ≠ []
  | [] => by simp [splitK]
  | b :: r => by unfold splitK; split <;> simp
theorem splitK_cons (c : UInt8) (s : Key) : ∃ h t, splitK c s = h :: t := by
  cases e : splitK c s with
  | nil => exact absurd e (splitK_ne c s)
  | cons h t => exact ⟨h, t, rfl⟩
theorem splitK_no {c : UInt8} : ∀ {x : Key}, c ∉ x → splitK c x = [x]
  | [], _ => rfl
  | b :: r, h => by
    unfold splitK
    rw [if_neg (show ¬ b = c from fun e => h (by rw [e]; exact List.mem_cons_self)), splitK_no fun k => h (List.mem_cons_of_mem _ k)]
    rfl
theorem splitK_app {c : UInt8} : ∀ {x : Key} (s : Key), c ∉ x → splitK c (x ++ c :: s) = x :: splitK c s
  | [], s, _ => by
    show splitK c (c :: s) = _
    conv => lhs; unfold splitK
    rw [if_pos rfl]
  | b :: r, s, h => by
    show splitK c (b :: (r ++ c :: s)) = _
    conv => lhs; unfold splitK
    rw [if_neg (show ¬ b = c from fun e => h (by rw [e]; exact List.mem_cons_self)), splitK_app s fun k => h (List.mem_cons_of_mem _ k)]
    rfl
theorem joinK_cons (c : UInt8) (x : Key) {r : List Key} (h : r ≠ []) : Lib.join (x :: r) [c] = x ++ c :: Lib.join r [c] := by
  cases r with
  | nil => exact absurd rfl h
  | cons y r =>
    rw [Lib.join_cons, Lib.join_cons]
    simp [Lib.joinTail]
/-- What is joined is split again. -/
theorem split_join {c : UInt8} : ∀ {L : List Key}, L ≠ [] → (∀ x ∈ L, c ∉ x) → splitK c (Lib.join L [c]) = L
  | [x], _, h => by rw [Lib.join_one, splitK_no (h x List.mem_cons_self)]
  | x :: y :: r, _, h => by
    rw [joinK_cons c x (by simp), splitK_app _ (h x List.mem_cons_self), split_join (by simp) fun z hz => h z (List.mem_cons_of_mem _ hz)]
/-- Digits. -/
def isDg (b : UInt8) : Bool := decide (48 ≤ b.toNat) && decide (b.toNat ≤ 57)
theorem dg_of {k : Nat} (h : k < 10) : (UInt8.ofNat (48 + k)).toNat = 48 + k := by
  rw [UInt8.toNat_ofNat_of_lt' (by show 48 + k < 256; omega)]
theorem decDigits_all (u : Nat) : ∀ b ∈ Lib.decDigits u, isDg b = true := by
  induction u using Nat.strongRecOn with
  | _ u ih =>
    have one : ∀ k, k < 10 → isDg (UInt8.ofNat (48 + k)) = true := fun k hk => by
      unfold isDg
      rw [dg_of hk]
      simp
      omega
    intro b hb
    rw [Lib.decDigits] at hb
    split at hb
    · rename_i h
      simp only [List.mem_singleton] at hb
      rw [hb]; exact one _ h
    · rename_i h
      rw [List.mem_append, List.mem_singleton] at hb
      rcases hb with hb | rfl
      · exact ih (u / 10) (by omega) b hb
      · exact one _ (by omega)
theorem decDigits_ne (u : Nat) : Lib.decDigits u ≠ [] := by
  rw [Lib.decDigits]
  split <;> simp
theorem parse_append (l : Key) (c : UInt8) : ∀ acc, Lib.parseUint10 acc (l ++ [c]) = match Lib.parseUint10 acc l with
    | .ok a => Lib.parseUint10 a [c]
    | e => e := by
  induction l with
  | nil => intro acc; rfl
  | cons b r ih =>
    intro acc
    show Lib.parseUint10 acc (b :: (r ++ [c])) = _
    simp only [Lib.parseUint10]
    split
    · split
      · rfl
      · split
        · rfl
        · rw [ih]
          simp only [Lib.parseUint10]
    · rfl
theorem parse_dec {u : Nat} (h : u < 1000000000000000000) : Lib.parseUint10 0 (Lib.decDigits u) = .ok u := by
  induction u using Nat.strongRecOn with
  | _ u ih =>
    have one : ∀ a k, k < 10 → a < 100000000000000000 → Lib.parseUint10 a [UInt8.ofNat (48 + k)] = .ok (a * 10 + k) := fun a k hk ha => by
      unfold Lib.parseUint10
      rw [dg_of hk, if_pos (by omega), if_neg (by omega), if_neg (by omega)]
      unfold Lib.parseUint10
      congr 1
      omega
    rw [Lib.decDigits]
    split
    · rename_i h10
      rw [one 0 u h10 (by omega)]
      congr 1
      omega
    · rename_i h10
      rw [parse_append, ih (u / 10) (by omega) (by omega)]
      show Lib.parseUint10 (u / 10) [UInt8.ofNat (48 + u % 10)] = _
      rw [one _ _ (by omega) (by omega)]
      congr 1
      omega
theorem atoi_dec {u : Nat} (h : u < 1000000000000000000) : Lib.atoiAll (Lib.decDigits u) = .ok (u : Int) := by
  have hp := parse_dec h
  have hd := decDigits_all u
  cases e : Lib.decDigits u with
  | nil => exact absurd e (decDigits_ne u)
  | cons c r =>
    have hc := hd c (by rw [e]; exact List.mem_cons_self)
    unfold isDg at hc
    simp only [Bool.and_eq_true, decide_eq_true_eq] at hc
    rw [e] at hp
    unfold Lib.atoiAll
    simp only []
    rw [if_neg (show ¬ (c.toNat = 43 ∨ c.toNat = 45) by omega)]
    unfold Lib.parseMag
    rw [if_neg (by simp), hp]
    simp only []
    rw [if_neg (by omega), if_neg (by omega), if_neg (by omega)]
theorem itoa_pos {n : Int} (h : 0 ≤ n) : Lib.itoa n = Lib.decDigits n.toNat := by
  unfold Lib.itoa
  rw [if_neg (by omega)]
theorem nDigits_le {u k : Nat} (h : u < 10 ^ (k + 1)) : Lib.nDigits u ≤ k + 1 := by
  induction k generalizing u with
  | zero => rw [Lib.nDigits_small (by simpa using h)]; omega
  | succ k ih =>
    by_cases h10 : u < 10
    · rw [Lib.nDigits_small h10]; omega
    · rw [Lib.nDigits_big h10]
      have := ih (u := u / 10) (by rw [Nat.pow_succ] at h; omega)
      omega
theorem join_len' {c : UInt8} {L : List Key} {k : Nat} (h : ∀ x ∈ L, x.length ≤ k) : (Lib.join L [c]).length ≤ L.length * (k + 1) := by
  induction L with
  | nil => simp [Lib.join_nil]
  | cons x r ih =>
    have a := h x List.mem_cons_self
    have b := ih fun y hy => h y (List.mem_cons_of_mem _ hy)
    by_cases hr : r = []
    · subst hr
      rw [Lib.join_one]
      simp
      omega
    · rw [joinK_cons _ x hr]
      simp only [List.length_append, List.length_cons, Nat.add_mul]
      omega
def satK (l : Key) (n : Int) : Int := l.foldl (fun n b => min (10 * n + ((b.toNat : Int) - 48)) 1000000) n
theorem satK_dec {u : Nat} (h : u ≤ 1000000) : satK (Lib.decDigits u) 0 = u := by
  induction u using Nat.strongRecOn with
  | _ u ih =>
    rw [Lib.decDigits]
    split
    · rename_i h10
      show min (10 * (0 : Int) + (((UInt8.ofNat (48 + u)).toNat : Int) - 48)) 1000000 = u
      rw [dg_of h10]
      omega
    · rename_i h10
      unfold satK
      rw [List.foldl_append]
      show min (10 * (satK (Lib.decDigits (u / 10)) 0) + (((UInt8.ofNat (48 + u % 10)).toNat : Int) - 48)) 1000000 = u
      rw [ih (u / 10) (by omega) (by omega), dg_of (by omega)]
      omega
theorem take_word {d k : Key} (hd : ∀ b ∈ d, isDg b = true) (hk : ∀ b ∈ k, isDg b = false) : (d ++ k).takeWhile isDg = d ∧ (d ++ k).dropWhile isDg = k := by
  induction d with
  | nil =>
    cases k with
    | nil => exact ⟨rfl, rfl⟩
    | cons b r => simp [hk b List.mem_cons_self]
  | cons b r ih =>
    have := ih fun c hc => hd c (List.mem_cons_of_mem _ hc)
    simp [hd b List.mem_cons_self, this.1, this.2]
theorem piece_le {c : UInt8} : ∀ {K p : Key}, p ∈ splitK c K → p.length ≤ K.length
  | [], p, h => by
    simp [splitK] at h
    rw [h]
    exact Nat.le_refl _
  | b :: r, p, h => by
    unfold splitK at h
    split at h
    · rcases List.mem_cons.1 h with rfl | h
      · simp
      · have := piece_le h
        simp
        omega
    · obtain ⟨x, t, e⟩ := splitK_cons c r
      rw [e] at h
      rcases List.mem_cons.1 h with rfl | h
      · have := piece_le (c := c) (K := r) (p := x) (by rw [e]; exact List.mem_cons_self)
        simp
        omega
      · have := piece_le (c := c) (K := r) (p := p) (by rw [e]; exact List.mem_cons_of_mem _ h)
        simp
        omega
theorem join_snoc {A : List Key} (x : Key) (c : UInt8) (h : A ≠ []) : Lib.join (A ++ [x]) [c] = Lib.join A [c] ++ c :: x := by
  induction A with
  | nil => exact absurd rfl h
  | cons a r ih =>
    cases r with
    | nil =>
      show Lib.join (a :: [x]) [c] = _
      rw [joinK_cons c a (by simp), Lib.join_one, Lib.join_one]
    | cons b r =>
      have := ih (by simp)
      show Lib.join (a :: ((b :: r) ++ [x])) [c] = _
      rw [joinK_cons c a (by simp), this, joinK_cons c a (by simp)]
      simp

end Go.Proofs.YtdlbgelidcfmiaaDoor
