/- The plain law of TickTexts: the text of a clock, and both readings of a text. -/
import Derived.Test.YtdlbgelidcfmiaaDoorTA
namespace Go.Proofs.YtdlbgelidcfmiaaDoor
open Go.Firn

/-- Whether a list is a clock. -/
def vMk (c : CL) : Bool := vK c.length (px c) (py c)
/-- A mark's word, and a clock's text. -/
def wdC (x : Int × Int) : Key := Lib.itoa x.1 ++ 61 :: Lib.itoa x.2
def txC (c : CL) : Key := Lib.join (c.map wdC) [32]
theorem pxy {c : CL} {i : Nat} (h : i < c.length) : c[i]? = some (px c i, py c i) := by simp [px, py, List.getD_eq_getElem?_getD, List.getElem?_eq_getElem h]
/-- What a clock's marks are. -/
structure Mks (c : CL) : Prop where
  two : 2 ≤ c.length
  few : c.length ≤ 30
  ok : ∀ x ∈ c, 0 ≤ x.1 ∧ x.1 ≤ 100000 ∧ 0 ≤ x.2 ∧ x.2 ≤ 100000
theorem Mks.of {c : CL} (h : vMk c = true) : Mks c := by
  obtain ⟨h1, h2, h3, _⟩ := vK_true.1 h
  refine ⟨h1, h2, fun x hx => ?_⟩
  obtain ⟨i, hi, e⟩ := List.mem_iff_getElem.1 hx
  have := h3 i hi
  have e2 := pxy hi
  rw [List.getElem?_eq_getElem hi, e] at e2
  cases e2
  exact this
theorem dg_no {d : Key} (h : ∀ b ∈ d, isDg b = true) : (61 : UInt8) ∉ d ∧ (32 : UInt8) ∉ d := ⟨fun k => absurd (h _ k) (by decide), fun k => absurd (h _ k) (by decide)⟩
theorem word_is {x : Int × Int} (h1 : 0 ≤ x.1) (h2 : 0 ≤ x.2) : wdC x = Lib.decDigits x.1.toNat ++ 61 :: Lib.decDigits x.2.toNat := by unfold wdC; rw [itoa_pos h1, itoa_pos h2]
theorem word_sp {x : Int × Int} (h1 : 0 ≤ x.1) (h2 : 0 ≤ x.2) : (32 : UInt8) ∉ wdC x := by
  rw [word_is h1 h2]
  simp only [List.mem_append, List.mem_cons]
  rintro (h | h | h)
  · exact (dg_no (decDigits_all _)).2 h
  · exact absurd h (by decide)
  · exact (dg_no (decDigits_all _)).2 h
theorem dec_le {u : Nat} (h : u ≤ 100000) : (Lib.decDigits u).length ≤ 6 := by
  rw [Lib.decDigits_length]
  exact nDigits_le (k := 5) (by omega)
theorem word_size {x : Int × Int} (h : 0 ≤ x.1 ∧ x.1 ≤ 100000 ∧ 0 ≤ x.2 ∧ x.2 ≤ 100000) : (wdC x).length ≤ 13 := by
  rw [word_is h.1 h.2.2.1, List.length_append, List.length_cons]
  have := dec_le (u := x.1.toNat) (by omega)
  have := dec_le (u := x.2.toNat) (by omega)
  omega
theorem tx_size {c : CL} (h : Mks c) (k : Nat) : (txC (c.take k)).length ≤ 420 := by
  have a := join_len' (c := 32) (L := (c.take k).map wdC) (k := 13) fun x hx => by
    obtain ⟨y, hy, rfl⟩ := List.mem_map.1 hx
    exact word_size (h.ok y (List.mem_of_mem_take hy))
  rw [List.length_map, List.length_take] at a
  have := h.few
  unfold txC
  omega
theorem tx_split {c : CL} (h : Mks c) : splitK 32 (txC c) = c.map wdC := by
  refine split_join (fun e => ?_) fun x hx => ?_
  · have := congrArg List.length e
    rw [List.length_map, List.length_nil] at this
    have := h.two
    omega
  · obtain ⟨y, hy, rfl⟩ := List.mem_map.1 hx
    exact word_sp (h.ok y hy).1 (h.ok y hy).2.2.1

/-! ### The program's reading -/
def cutA (p : Key) : Key := p.takeWhile (· != 61)
def cutB (p : Key) : Key := (p.dropWhile (· != 61)).drop 1
def rdO (p : Key) : Option (Int × Int) := match Lib.atoiAll (cutA p) with
  | .ok a => match Lib.atoiAll (cutB p) with
    | .ok b => some (a, b)
    | _ => none
  | _ => none
def rdsO : List Key → Option CL
  | [] => some []
  | p :: r => match rdO p with
    | some x => (rdsO r).map (x :: ·)
    | none => none
theorem rdsO_snoc (L : List Key) (p : Key) (c : CL) (h : rdsO L = some c) : rdsO (L ++ [p]) = (rdO p).map fun x => c ++ [x] := by
  induction L generalizing c with
  | nil =>
    cases h
    show rdsO [p] = _
    unfold rdsO
    cases rdO p <;> rfl
  | cons q r ih =>
    unfold rdsO at h
    show rdsO (q :: (r ++ [p])) = _
    unfold rdsO
    cases hq : rdO q with
    | none => rw [hq] at h; cases h
    | some x =>
      rw [hq] at h
      cases hr : rdsO r with
      | none => rw [hr] at h; cases h
      | some d =>
        rw [hr] at h
        cases h
        rw [ih d hr]
        cases rdO p <;> rfl
theorem rdsO_stop (L : List Key) (p : Key) (t : List Key) (h : rdO p = none) : rdsO (L ++ p :: t) = none := by
  induction L with
  | nil => show rdsO (p :: t) = none; unfold rdsO; rw [h]
  | cons q r ih =>
    show rdsO (q :: (r ++ p :: t)) = none
    unfold rdsO
    rw [ih]
    cases rdO q <;> rfl
theorem rdsO_len {L : List Key} {c : CL} (h : rdsO L = some c) : c.length = L.length := by
  induction L generalizing c with
  | nil => cases h; rfl
  | cons q r ih =>
    unfold rdsO at h
    cases hq : rdO q with
    | none => rw [hq] at h; cases h
    | some x =>
      rw [hq] at h
      cases hr : rdsO r with
      | none => rw [hr] at h; cases h
      | some d => rw [hr] at h; cases h; simp [ih hr]
theorem ne_eq {b : UInt8} {c : UInt8} (h : b ≠ c) : (b != c) = true := by simpa using h
theorem cut_word {d e : Key} (hd : (61 : UInt8) ∉ d) : cutA (d ++ 61 :: e) = d ∧ cutB (d ++ 61 :: e) = e := by
  have a : ∀ b ∈ d, (b != (61 : UInt8)) = true := fun b hb => ne_eq fun k => hd (by rw [← k]; exact hb)
  unfold cutA cutB
  rw [List.takeWhile_append_of_pos a, List.dropWhile_append_of_pos a]
  simp
theorem rdO_word {x : Int × Int} (h : 0 ≤ x.1 ∧ x.1 ≤ 100000 ∧ 0 ≤ x.2 ∧ x.2 ≤ 100000) : rdO (wdC x) = some x := by
  obtain ⟨c1, c2⟩ := cut_word (d := Lib.decDigits x.1.toNat) (e := Lib.decDigits x.2.toNat) (dg_no (decDigits_all _)).1
  unfold rdO
  rw [word_is h.1 h.2.2.1, c1, c2, atoi_dec (by omega), atoi_dec (by omega), Int.toNat_of_nonneg h.1, Int.toNat_of_nonneg h.2.2.1]
theorem rdsO_words {c : CL} (h : ∀ x ∈ c, 0 ≤ x.1 ∧ x.1 ≤ 100000 ∧ 0 ≤ x.2 ∧ x.2 ≤ 100000) : rdsO (c.map wdC) = some c := by
  induction c with
  | nil => rfl
  | cons x r ih =>
    show rdsO (wdC x :: r.map wdC) = _
    unfold rdsO
    rw [rdO_word (h x List.mem_cons_self), ih fun y hy => h y (List.mem_cons_of_mem _ hy)]
    rfl
def prO (K : Key) : CL × Int := if 420 < K.length then ([], 3) else match rdsO (splitK 32 K) with
  | some c => if vMk c = true ∧ txC c = K then (c, 0) else ([], 3)
  | none => ([], 3)

/-! ### The reference's reading -/
def scn : Key → Int → List Int
  | [], n => [n]
  | b :: r, n => if isDg b = true then scn r (min (10 * n + ((b.toNat : Int) - 48)) 1000000) else n :: scn r 0
def prs : List Int → CL
  | a :: b :: r => (a, b) :: prs r
  | _ => []
def prR (K : Key) : CL × Int := if 60 < (scn K 0).length then ([], 3) else if vMk (prs (scn K 0)) = true ∧ txC (prs (scn K 0)) = K then (prs (scn K 0), 0) else ([], 3)
theorem scn_dig : ∀ (d : Key) (n : Int) (r : Key), (∀ b ∈ d, isDg b = true) → scn (d ++ r) n = scn r (satK d n)
  | [], _, _, _ => rfl
  | b :: d, n, r, h => by
    show scn (b :: (d ++ r)) n = _
    conv => lhs; unfold scn
    rw [if_pos (h b List.mem_cons_self), scn_dig d _ r fun c hc => h c (List.mem_cons_of_mem _ hc)]
    rfl
theorem scn_sep {c : UInt8} (h : isDg c = false) (r : Key) (n : Int) : scn (c :: r) n = n :: scn r 0 := by
  conv => lhs; unfold scn
  rw [if_neg (by rw [h]; simp)]
theorem scn_word {x : Int × Int} (h : 0 ≤ x.1 ∧ x.1 ≤ 100000 ∧ 0 ≤ x.2 ∧ x.2 ≤ 100000) (r : Key) : scn (wdC x ++ r) 0 = x.1 :: scn r x.2 := by
  rw [word_is h.1 h.2.2.1, List.append_assoc, scn_dig _ _ _ (decDigits_all _), List.cons_append, scn_sep (by decide), scn_dig _ _ _ (decDigits_all _), satK_dec (by omega), satK_dec (by omega), Int.toNat_of_nonneg h.1, Int.toNat_of_nonneg h.2.2.1]
theorem scn_text : ∀ (c : CL), c ≠ [] → (∀ x ∈ c, 0 ≤ x.1 ∧ x.1 ≤ 100000 ∧ 0 ≤ x.2 ∧ x.2 ≤ 100000) → (scn (txC c) 0).length = 2 * c.length ∧ prs (scn (txC c) 0) = c
  | [x], _, h => by
    have e := scn_word (h x List.mem_cons_self) []
    rw [List.append_nil] at e
    unfold txC
    rw [List.map_singleton, Lib.join_one, e]
    exact ⟨rfl, rfl⟩
  | x :: y :: r, _, h => by
    obtain ⟨i1, i2⟩ := scn_text (y :: r) (by simp) fun z hz => h z (List.mem_cons_of_mem _ hz)
    have e : txC (x :: y :: r) = wdC x ++ 32 :: txC (y :: r) := by
      unfold txC
      rw [List.map_cons, joinK_cons _ _ (by simp)]
    rw [e, scn_word (h x List.mem_cons_self), scn_sep (by decide)]
    refine ⟨by rw [List.length_cons, List.length_cons, i1]; simp only [List.length_cons]; omega, ?_⟩
    show (x.1, x.2) :: prs (scn (txC (y :: r)) 0) = _
    rw [i2]

/-! ### Both are one -/
theorem Mks.ne {c : CL} (h : Mks c) : c ≠ [] := fun e => by have := h.two; rw [e] at this; simp at this
theorem prO_text {c : CL} (h : vMk c = true) : prO (txC c) = (c, 0) := by
  have M := Mks.of h
  have z := tx_size M c.length
  rw [List.take_length] at z
  unfold prO
  rw [if_neg (by omega), tx_split M, rdsO_words M.ok]
  exact if_pos ⟨h, rfl⟩
theorem prR_text {c : CL} (h : vMk c = true) : prR (txC c) = (c, 0) := by
  have M := Mks.of h
  obtain ⟨e1, e2⟩ := scn_text c M.ne M.ok
  have := M.few
  unfold prR
  rw [if_neg (by omega), e2]
  exact if_pos ⟨h, rfl⟩
theorem prO_is (K : Key) : (vMk (prO K).1 = true ∧ txC (prO K).1 = K ∧ (prO K).2 = 0) ∨ prO K = ([], 3) := by
  unfold prO
  split
  · exact .inr rfl
  · split
    · split
      · rename_i h; exact .inl ⟨h.1, h.2, rfl⟩
      · exact .inr rfl
    · exact .inr rfl
theorem prR_is (K : Key) : (vMk (prR K).1 = true ∧ txC (prR K).1 = K ∧ (prR K).2 = 0) ∨ prR K = ([], 3) := by
  unfold prR
  split
  · exact .inr rfl
  · split
    · rename_i h; exact .inl ⟨h.1, h.2, rfl⟩
    · exact .inr rfl
theorem pr_same (K : Key) : prR K = prO K := by
  rcases prR_is K with ⟨h1, h2, h3⟩ | h
  · have := prO_text h1
    rw [h2] at this
    rw [this]
    exact Prod.ext rfl h3
  · rcases prO_is K with ⟨h1, h2, h3⟩ | h'
    · have := prR_text h1
      rw [h2] at this
      rw [this]
      exact Prod.ext rfl h3.symm
    · rw [h, h']
end Go.Proofs.YtdlbgelidcfmiaaDoor
