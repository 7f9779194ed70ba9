/- The plain law of the program's count of chains: in the order of time, all that are before one were counted. -/
import Derived.Test.YtjokheeegcilhaaDoorPD
import Derived.Test.YtjokheeegcilhaaDoorPE
namespace Go.Proofs.YtjokheeegcilhaaDoor
open Go.Firn

/-- How many chains end with a hit, and how many begin with it. -/
def enF (n : Nat) (P T : Nat → Int) : Nat → Int := wF (fun a b => bf P T b a) n 14
def bgF (n : Nat) (P T : Nat → Int) : Nat → Int := wF (bf P T) n 14
theorem earlier_few {n : Nat} {T : Nat → Int} {i : Nat} (hi : i < n) : earlier n T i < n := by
  have h := cnt_one_less (q := fun _ => true) hi rfl
  rw [cnt_true] at h
  have m : earlier n T i ≤ cnt (fun x => true && !decide (x = i)) n := cnt_mono fun y _ hy => by
    have : T y < T i := by simpa using hy
    have : y ≠ i := fun e => by rw [e] at this; omega
    simpa using this
  omega
theorem enF_eq {n : Nat} {P T : Nat → Int} (hn : n ≤ 14) {i : Nat} (hi : i < n) : enF n P T i = 1 + sg (fun k => if bf P T k i = true then enF n P T k else 0) n :=
  wF_eq (h := fun i => earlier n T i + 1) (fun _ _ => Nat.succ_le_succ (Nat.zero_le _)) (fun _ _ ha hb hr => Nat.succ_lt_succ (earlier_lt hb (bf_time hr))) (fun a ha => by have := earlier_few (T := T) ha; show earlier n T a + 1 ≤ 14; omega) hi
theorem bgF_eq {n : Nat} {P T : Nat → Int} (hn : n ≤ 14) {i : Nat} (hi : i < n) : bgF n P T i = 1 + sg (fun k => if bf P T i k = true then bgF n P T k else 0) n :=
  wF_eq (h := fun i => later n T i + 1) (fun _ _ => Nat.succ_le_succ (Nat.zero_le _)) (fun _ _ ha hb hr => Nat.succ_lt_succ (later_lt hb (bf_time hr))) (fun a ha => by have := later_few (T := T) ha; show later n T a + 1 ≤ 14; omega) hi
/-- How many chains there are. -/
def chC (n : Nat) (P T : Nat → Int) : Int := sg (bgF n P T) n
theorem chC_ends {n : Nat} {P T : Nat → Int} (hn : n ≤ 14) : sg (enF n P T) n = chC n P T :=
  ends_begins (rel := bf P T) (fun _ ha => bgF_eq hn ha) (fun _ hi => enF_eq hn hi)
theorem enF_bd {n : Nat} {P T : Nat → Int} (hn : n ≤ 14) (i : Nat) : 0 ≤ enF n P T i ∧ enF n P T i ≤ 29192926025390625 := wF_bd _ hn 14 i
theorem bgF_bd {n : Nat} {P T : Nat → Int} (hn : n ≤ 14) (i : Nat) : 0 ≤ bgF n P T i ∧ bgF n P T i ≤ 29192926025390625 := wF_bd _ hn 14 i

/-- A sum over the first m of a list. -/
def sgL (f : Nat → Int) (l : List Nat) (m : Nat) : Int := sg (fun x => f (l.getD x 0)) m
theorem sgL_succ (f : Nat → Int) (l : List Nat) (m : Nat) : sgL f l (m + 1) = sgL f l m + f (l.getD m 0) := rfl
theorem sgL_more (f : Nat → Int) (l r : List Nat) {m : Nat} (h : m ≤ l.length) : sgL f (l ++ r) m = sgL f l m := sg_congr fun i hi => by simp [List.getD, List.getElem?_append_left (show i < l.length by omega)]
theorem sgL_els (f : Nat → Int) (p : Nat → Bool) : ∀ n, sgL f (els p n) (els p n).length = sg (fun k => if p k = true then f k else 0) n
  | 0 => rfl
  | n + 1 => by
    show _ = sg (fun k => if p k = true then f k else 0) n + (if p n = true then f n else 0)
    rw [← sgL_els f p n, els_succ]
    by_cases t : p n = true
    · rw [if_pos t, if_pos t, List.length_append]
      show sgL f (els p n ++ [n]) ((els p n).length + 1) = _
      rw [sgL_succ, sgL_more f _ _ (Nat.le_refl _)]
      simp [List.getD]
    · rw [if_neg t, if_neg t, List.append_nil, Int.add_zero]
theorem sgL_sum (f : Nat → Int) : ∀ l : List Nat, sgL f l l.length = (l.map f).foldr (· + ·) 0
  | [] => rfl
  | x :: l => by
    rw [List.map_cons, List.foldr_cons, ← sgL_sum f l]
    have key : ∀ m, sgL f (x :: l) (m + 1) = f x + sgL f l m := by
      intro m
      induction m with
      | zero => show (0 : Int) + f ((x :: l).getD 0 0) = f x + 0; simp [List.getD]
      | succ m ih => rw [sgL_succ, ih, sgL_succ]; simp [List.getD]; omega
    exact key l.length
theorem sgL_perm (f : Nat → Int) {l r : List Nat} (h : l.Perm r) : sgL f l l.length = sgL f r r.length := by
  rw [sgL_sum, sgL_sum]
  exact (h.map f).foldr_eq' (fun x _ y _ z => by omega) 0
theorem sgL_range (f : Nat → Int) (n : Nat) : sgL f (List.range n) n = sg f n := sg_congr fun i hi => by simp [List.getD, List.getElem?_range hi]

/-- Hits in the order of time. -/
structure Lne (n : Nat) (T : Nat → Int) (L : List Nat) : Prop where
  perm : L.Perm (List.range n)
  asc : ∀ i j, i < j → j < n → T (L.getD i 0) ≤ T (L.getD j 0)
theorem Lne.len {n : Nat} {T : Nat → Int} {L : List Nat} (h : Lne n T L) : L.length = n := by rw [h.perm.length_eq, List.length_range]
theorem Lne.lt {n : Nat} {T : Nat → Int} {L : List Nat} (h : Lne n T L) {q : Nat} (hq : q < n) : L.getD q 0 < n := by
  have : L.getD q 0 ∈ L := getD_mem (by rw [h.len]; exact hq)
  exact List.mem_range.1 ((h.perm.mem_iff).1 this)
theorem Lne.at {n : Nat} {T : Nat → Int} {L : List Nat} (h : Lne n T L) {k : Nat} (hk : k < n) : ∃ p, p < n ∧ L.getD p 0 = k := by
  have : k ∈ L := h.perm.mem_iff.2 (List.mem_range.2 hk)
  obtain ⟨p, hp, e⟩ := List.getElem_of_mem this
  exact ⟨p, by rw [← h.len]; exact hp, by rw [List.getD, List.getElem?_eq_getElem hp]; exact e⟩
theorem Lne.inj {n : Nat} {T : Nat → Int} {L : List Nat} (h : Lne n T L) {p q : Nat} (hp : p < n) (hq : q < n) (e : L.getD p 0 = L.getD q 0) : p = q := by
  have nd : L.Nodup := h.perm.nodup_iff.2 List.nodup_range
  have hp' : p < L.length := by rw [h.len]; exact hp
  have hq' : q < L.length := by rw [h.len]; exact hq
  rw [List.getD, List.getElem?_eq_getElem hp', List.getD, List.getElem?_eq_getElem hq'] at e
  exact (List.getElem_inj nd).1 e
theorem Lne.before {n : Nat} {P T : Nat → Int} {L : List Nat} (h : Lne n T L) {q k : Nat} (hq : q < n) (hk : k < n) (hb : bf P T k (L.getD q 0) = true) : ∃ p, p < q ∧ L.getD p 0 = k := by
  obtain ⟨p, hp, e⟩ := h.at hk
  have t := bf_time hb
  refine ⟨p, ?_, e⟩
  rcases Nat.lt_trichotomy p q with h1 | h1 | h1
  · exact h1
  · subst h1; rw [e] at t; omega
  · have := h.asc q p h1 hp; rw [e] at this; omega
theorem Lne.sum {n : Nat} {T : Nat → Int} {L : List Nat} (h : Lne n T L) (f : Nat → Int) : sgL f L n = sg f n := by
  have := sgL_perm f h.perm
  rw [h.len, List.length_range, sgL_range] at this
  exact this

/-- The program's ends, the first q hits in the order of time being done. -/
def Ends (n : Nat) (P T : Nat → Int) (L : List Nat) (q : Nat) (g : Nat → Int) : Prop := ∀ p, p < q → g (L.getD p 0) = enF n P T (L.getD p 0)
/-- The hits before one. -/
def pasL (n : Nat) (P T : Nat → Int) (i : Nat) : List Nat := els (fun k => bf P T k i) n
theorem Ends.of {n : Nat} {P T : Nat → Int} {L : List Nat} {q : Nat} {g : Nat → Int} (h : Ends n P T L q g) (H : Lne n T L) (hq : q < n) {m : Nat} (hm : m < (pasL n P T (L.getD q 0)).length) :
    (pasL n P T (L.getD q 0)).getD m 0 < n ∧ (pasL n P T (L.getD q 0)).getD m 0 ≠ L.getD q 0 ∧ g ((pasL n P T (L.getD q 0)).getD m 0) = enF n P T ((pasL n P T (L.getD q 0)).getD m 0) := by
  obtain ⟨h1, h2⟩ := els_lt hm
  obtain ⟨p, hp, e⟩ := H.before hq h1 h2
  refine ⟨h1, fun e2 => ?_, ?_⟩
  · have t := bf_time h2; rw [show (els (fun k => bf P T k (L.getD q 0)) n).getD m 0 = L.getD q 0 from e2] at t; omega
  · show g ((els _ n).getD m 0) = enF n P T ((els _ n).getD m 0)
    rw [← e]; exact h p hp
theorem pas_sum {n : Nat} {P T : Nat → Int} (hn : n ≤ 14) {i : Nat} (hi : i < n) : 1 + sgL (enF n P T) (pasL n P T i) (pasL n P T i).length = enF n P T i := by
  rw [enF_eq hn hi]; unfold pasL; rw [sgL_els]
theorem Ends.step {n : Nat} {P T : Nat → Int} {L : List Nat} {q : Nat} {g : Nat → Int} (h : Ends n P T L q g) (H : Lne n T L) (hq : q < n) : Ends n P T L (q + 1) fun x => if x = L.getD q 0 then enF n P T (L.getD q 0) else g x := fun p hp => by
  by_cases e : p = q
  · subst e; exact if_pos rfl
  · exact (if_neg fun e2 => e (H.inj (by omega) hq e2)).trans (h p (by omega))
theorem sgL_bd {n : Nat} {P T : Nat → Int} (hn : n ≤ 14) (l : List Nat) (m : Nat) : 0 ≤ sgL (enF n P T) l m ∧ sgL (enF n P T) l m ≤ 29192926025390625 * m := sg_bd fun _ _ => enF_bd hn _

end Go.Proofs.YtjokheeegcilhaaDoor
