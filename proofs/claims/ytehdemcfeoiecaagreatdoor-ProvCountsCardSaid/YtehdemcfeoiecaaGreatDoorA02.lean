import Derived.Lib.ItoaNum
import Derived.Lib.AtoiAll
import Derived.Lib.Join
import Derived.Shelf.Strings.SlTrimAscii
import Derived.Shelf.Slices.Turned
import Derived.Shelf.SlicesE.IndexFunc
import Derived.Ground.NamesProg
import Derived.Ground.SlgfProg
import Derived.Shelf.SlGeneric
import Derived.Test.YtehdemcfeoiecaaGreatDoorProg
import Derived.Test.YtehdemcfeoiecaaGreatDoorRows
import Derived.Deep.QuietTactic
import Derived.BigQuiet
import Derived.BigRegion
import Derived.Deep.DeepCutAuto
import Derived.Deep.RegionHeld3
import Derived.Test.YtehdemcfeoiecaaGreatDoorA01
set_option maxHeartbeats 64000000
set_option maxRecDepth 100000
namespace Go.Proofs.YtehdemcfeoiecaaGreatDoor
open Go.Firn
def splitK (c : UInt8) : Key → List Key
 | [] => [[]]
 | b :: r => if b = c then [] :: splitK c r else (b :: (splitK c r).headD []) :: (splitK c r).tailD []
theorem splitK_ne (c : UInt8) : ∀ s : Key, splitK c s ≠ []
 | [] => by simp [splitK]
 | b :: r => by unfold splitK; split <;> simp
theorem splitK_cons (c : UInt8) (s : Key) : ∃ h t, splitK c s = h :: t := by
 cases e : splitK c s with
 | nil => exact absurd e (splitK_ne c s)
 | cons h t => exact ⟨h, t, rfl⟩
theorem splitK_no {c : UInt8} : ∀ {x : Key}, c ∉ x → splitK c x = [x]
 | [], _ => rfl
 | b :: r, h => by
  unfold splitK
  rw [if_neg (show ¬ b = c from fun e => h (by rw [e]; exact List.mem_cons_self)), splitK_no fun k => h (List.mem_cons_of_mem _ k)]
  rfl
theorem splitK_app {c : UInt8} : ∀ {x : Key} (s : Key), c ∉ x → splitK c (x ++ c :: s) = x :: splitK c s
 | [], s, _ => by
  show splitK c (c :: s) = _
  conv => lhs; unfold splitK
  rw [if_pos rfl]
 | b :: r, s, h => by
  show splitK c (b :: (r ++ c :: s)) = _
  conv => lhs; unfold splitK
  rw [if_neg (show ¬ b = c from fun e => h (by rw [e]; exact List.mem_cons_self)), splitK_app s fun k => h (List.mem_cons_of_mem _ k)]
  rfl
def isDg (b : UInt8) : Bool := decide (48 ≤ b.toNat) && decide (b.toNat ≤ 57)
theorem dg_of {k : Nat} (h : k < 10) : (UInt8.ofNat (48 + k)).toNat = 48 + k := by
 rw [UInt8.toNat_ofNat_of_lt' (by show 48 + k < 256; omega)]
theorem decDigits_all (u : Nat) : ∀ b ∈ Lib.decDigits u, isDg b = true := by
 induction u using Nat.strongRecOn with
 | _ u ih =>
  have one : ∀ k, k < 10 → isDg (UInt8.ofNat (48 + k)) = true := fun k hk => by
   unfold isDg
   rw [dg_of hk]
   simp
   omega
  intro b hb
  rw [Lib.decDigits] at hb
  split at hb
  ·rename_i h
   simp only [List.mem_singleton] at hb
   rw [hb]; exact one _ h
  rename_i h
  rw [List.mem_append, List.mem_singleton] at hb
  rcases hb with hb | rfl
  ·exact ih (u / 10) (by omega) b hb
  exact one _ (by omega)
theorem decDigits_ne (u : Nat) : Lib.decDigits u ≠ [] := by
 rw [Lib.decDigits]
 split <;> simp
theorem parse_append (l : Key) (c : UInt8) : ∀ acc, Lib.parseUint10 acc (l ++ [c]) = match Lib.parseUint10 acc l with
  | .ok a => Lib.parseUint10 a [c]
  | e => e := by
 induction l with
 | nil => intro acc; rfl
 | cons b r ih =>
  intro acc
  show Lib.parseUint10 acc (b :: (r ++ [c])) = _
  simp only [Lib.parseUint10]
  split
  ·split
   ·rfl
   split
   ·rfl
   rw [ih]
   simp only [Lib.parseUint10]
  rfl
theorem parse_dec {u : Nat} (h : u < 1000000000000000000) : Lib.parseUint10 0 (Lib.decDigits u) = .ok u := by
 induction u using Nat.strongRecOn with
 | _ u ih =>
  have one : ∀ a k, k < 10 → a < 100000000000000000 → Lib.parseUint10 a [UInt8.ofNat (48 + k)] = .ok (a * 10 + k) := fun a k hk ha => by
   unfold Lib.parseUint10
   rw [dg_of hk, if_pos (by omega), if_neg (by omega), if_neg (by omega)]
   unfold Lib.parseUint10
   congr 1
   omega
  rw [Lib.decDigits]
  split
  ·rename_i h10
   rw [one 0 u h10 (by omega)]
   congr 1
   omega
  rename_i h10
  rw [parse_append, ih (u / 10) (by omega) (by omega)]
  show Lib.parseUint10 (u / 10) [UInt8.ofNat (48 + u % 10)] = _
  rw [one _ _ (by omega) (by omega)]
  congr 1
  omega
theorem atoi_dec {u : Nat} (h : u < 1000000000000000000) : Lib.atoiAll (Lib.decDigits u) = .ok (u : Int) := by
 have hp := parse_dec h
 have hd := decDigits_all u
 cases e : Lib.decDigits u with
 | nil => exact absurd e (decDigits_ne u)
 | cons c r =>
  have hc := hd c (by rw [e]; exact List.mem_cons_self)
  unfold isDg at hc
  simp only [Bool.and_eq_true, decide_eq_true_eq] at hc
  rw [e] at hp
  unfold Lib.atoiAll
  simp only []
  rw [if_neg (show ¬ (c.toNat = 43 ∨ c.toNat = 45) by omega)]
  unfold Lib.parseMag
  rw [if_neg (by simp), hp]
  simp only []
  rw [if_neg (by omega), if_neg (by omega), if_neg (by omega)]
theorem itoa_pos {n : Int} (h : 0 ≤ n) : Lib.itoa n = Lib.decDigits n.toNat := by
 unfold Lib.itoa
 rw [if_neg (by omega)]
theorem nDigits_le {u k : Nat} (h : u < 10 ^ (k + 1)) : Lib.nDigits u ≤ k + 1 := by
 induction k generalizing u with
 | zero => rw [Lib.nDigits_small (by simpa using h)]; omega
 | succ k ih =>
  by_cases h10 : u < 10
  ·rw [Lib.nDigits_small h10]; omega
  rw [Lib.nDigits_big h10]
  have := ih (u := u / 10) (by rw [Nat.pow_succ] at h; omega)
  omega
end Go.Proofs.YtehdemcfeoiecaaGreatDoor
namespace Go.Proofs.YtehdemcfeoiecaaGreatDoor
open Go.Firn Go.Firn.Tb
def dgv (b : UInt8) : Nat := b.toNat - 48
def numO (x : Key) : Option Int := match Lib.atoiAll x with
 | .ok n => if Lib.itoa n = x ∧ -999 ≤ n ∧ n ≤ 999 then some n else none
 | _ => none
def foldR (l : Key) (n : Int) : Int := l.foldl (fun n b => 10 * n + ((b.toNat : Int) - 48)) n
def readR (x : Key) : Bool × Int := match x with
 | [] => (true, 0)
 | b :: r => if b = 45 then (r.all isDg, -foldR r 0) else ((b :: r).all isDg, foldR (b :: r) 0)
def numR (x : Key) : Option Int := if (readR x).1 = true ∧ -999 ≤ (readR x).2 ∧ (readR x).2 ≤ 999 ∧ Lib.itoa (readR x).2 = x then some (readR x).2 else none
theorem foldR_app (a b : Key) (n : Int) : foldR (a ++ b) n = foldR b (foldR a n) := by simp [foldR]
theorem fold_dec (u : Nat) : foldR (Lib.decDigits u) 0 = u := by
 induction u using Nat.strongRecOn with
 | _ u ih =>
  rw [Lib.decDigits]
  split
  ·rename_i h
   simp only [foldR, List.foldl_cons, List.foldl_nil]
   rw [dg_of h]
   omega
  rename_i h
  rw [foldR_app, ih (u / 10) (by omega)]
  simp only [foldR, List.foldl_cons, List.foldl_nil]
  rw [dg_of (by omega)]
  omega
theorem dec_all (u : Nat) : (Lib.decDigits u).all isDg = true := List.all_eq_true.2 (decDigits_all u)
theorem read_itoa (n : Int) : readR (Lib.itoa n) = (true, n) := by
 unfold Lib.itoa
 split
 ·rename_i h
  unfold readR
  simp only [if_true]
  rw [dec_all, fold_dec]
  simp only [Prod.mk.injEq, true_and]
  omega
 rename_i h
 have hd := dec_all n.toNat
 have hf := fold_dec n.toNat
 cases e : Lib.decDigits n.toNat with
 | nil => exact absurd e (decDigits_ne _)
 | cons b r =>
  rw [e] at hd hf
  have hb : b ≠ 45 := by
   intro e
   subst e
   simp [isDg] at hd
  unfold readR
  simp only []
  rw [if_neg hb, hd, hf]
  simp only [Prod.mk.injEq, true_and]
  omega
theorem atoi_itoa {n : Int} (h1 : -999 ≤ n) (h2 : n ≤ 999) : Lib.atoiAll (Lib.itoa n) = .ok n := by
 by_cases h : n < 0
 ·have e : Lib.itoa n = 45 :: Lib.decDigits n.natAbs := by unfold Lib.itoa; rw [if_pos h]
  rw [e]
  unfold Lib.atoiAll
  have h45 : (45 : UInt8).toNat = 45 := rfl
  simp only [h45]
  simp only [or_true, if_true]
  unfold Lib.parseMag
  rw [if_neg (decDigits_ne _), parse_dec (by omega)]
  simp only [not_true, false_and, if_false, true_and]
  rw [if_neg (by omega)]
  congr 1
  omega
 rw [itoa_pos (by omega), atoi_dec (by omega)]
 congr 1
 omega
theorem numO_iff {x : Key} {n : Int} : numO x = some n ↔ (-999 ≤ n ∧ n ≤ 999) ∧ x = Lib.itoa n := by
 constructor
 ·intro h
  unfold numO at h
  split at h
  ·split at h
   ·rename_i m _ hm
    cases h
    exact ⟨hm.2, hm.1.symm⟩
   cases h
  cases h
 rintro ⟨⟨h1, h2⟩, rfl⟩
 unfold numO
 rw [atoi_itoa h1 h2]
 simp only []
 rw [if_pos ⟨trivial, h1, h2⟩]
theorem numR_iff {x : Key} {n : Int} : numR x = some n ↔ (-999 ≤ n ∧ n ≤ 999) ∧ x = Lib.itoa n := by
 constructor
 ·intro h
  unfold numR at h
  split at h
  ·rename_i hm
   cases h
   exact ⟨⟨hm.2.1, hm.2.2.1⟩, hm.2.2.2.symm⟩
  cases h
 rintro ⟨⟨h1, h2⟩, rfl⟩
 unfold numR
 rw [read_itoa]
 simp only []
 rw [if_pos ⟨trivial, h1, h2, trivial⟩]
theorem num_eq (x : Key) : numR x = numO x := by
 cases h : numO x with
 | some n => exact numR_iff.2 (numO_iff.1 h)
 | none =>
  cases k : numR x with
  | none => rfl
  | some n => rw [numO_iff.2 (numR_iff.1 k)] at h; cases h
theorem dec3 {u : Nat} (h : u ≤ 999) : (Lib.decDigits u).length ≤ 3 := by
 rw [Lib.decDigits]
 split
 ·simp
 rw [Lib.decDigits]
 split
 ·simp
 rw [Lib.decDigits]
 rw [dif_pos (by omega)]
 simp
theorem num_len {x : Key} {n : Int} (h : numO x = some n) : 1 ≤ x.length ∧ x.length ≤ 4 := by
 obtain ⟨⟨h1, h2⟩, rfl⟩ := numO_iff.1 h
 unfold Lib.itoa
 split
 ·have := dec3 (u := n.natAbs) (by omega)
  simp; omega
 have := dec3 (u := n.toNat) (by omega)
 have := List.length_pos_iff.2 (decDigits_ne n.toNat)
 omega
def dropK : Key := [100, 114, 111, 112]
def sameK : Key := [115, 97, 109, 101]
def pickK : Key := [112, 105, 99, 107]
def wdDrop : Key → Option Wd
 | [d] => if isDg d then some (.drop (dgv d)) else none
 | _ => none
def wdSame : Key → Option Wd
 | [d, e] => if isDg d && isDg e then some (.same (dgv d) (dgv e)) else none
 | _ => none
def wdPick : Key → Option Wd
 | d :: c :: r => if isDg d && decide (c = 61) then (numO r).map (.pick (dgv d)) else none
 | _ => none
def wdOf (s : Key) : Option Wd :=
 if s = [65] then some (.put 0) else if s = [66] then some (.put 1) else if s = [67] then some (.put 2) else if s = [68] then some (.put 3)
 else if s = [111, 114] then some .orr else if s = [98, 121] then some .byy
 else if s.take 4 = dropK then wdDrop (s.drop 4) else if s.take 4 = sameK then wdSame (s.drop 4) else if s.take 4 = pickK then wdPick (s.drop 4) else none
theorem wd_len {s : Key} {w : Wd} (h : wdOf s = some w) : 1 ≤ s.length ∧ s.length ≤ 10 := by
 unfold wdOf at h
 have big : ∀ {K : Key}, K.length = 4 → s.take 4 = K → (s.drop 4).length ≤ 6 → 1 ≤ s.length ∧ s.length ≤ 10 := by
  intro K hK e hd
  have := congrArg List.length e
  rw [List.length_take, hK] at this
  rw [List.length_drop] at hd
  omega
 split at h
 ·subst_vars; simp
 split at h
 ·subst_vars; simp
 split at h
 ·subst_vars; simp
 split at h
 ·subst_vars; simp
 split at h
 ·subst_vars; simp
 split at h
 ·subst_vars; simp
 split at h
 ·rename_i e
  refine big (by rfl) e ?_
  unfold wdDrop at h
  split at h
  ·rename_i d hd; rw [hd]; simp
  cases h
 split at h
 ·rename_i e
  refine big (by rfl) e ?_
  unfold wdSame at h
  split at h
  ·rename_i d hd; rw [hd]; simp
  cases h
 split at h
 ·rename_i e
  refine big (by rfl) e ?_
  unfold wdPick at h
  split at h
  ·rename_i d c r hd
   rw [hd]
   split at h
   ·cases hn : numO r with
    | none => rw [hn] at h; cases h
    | some n => have := num_len hn; simp; omega
   cases h
  cases h
 cases h
def planQ (ws : List Int) : List Key → List Int → Option (List Wd × List Int)
 | [], p => some ([], p)
 | k :: r, p => match wdOf k with
  | none => none
  | some w => match widW ws w p with
   | none => none
   | some q => (planQ ws r q).map fun x => (w :: x.1, x.2)
theorem planQ_cons (ws : List Int) (k : Key) (r : List Key) (p : List Int) : planQ ws (k :: r) p = match wdOf k with
  | none => none
  | some w => match widW ws w p with
   | none => none
   | some q => (planQ ws r q).map fun x => (w :: x.1, x.2) := rfl
theorem planQ_app (ws : List Int) : ∀ (a b : List Key) (p : List Int), planQ ws (a ++ b) p = match planQ ws a p with
  | none => none
  | some x => (planQ ws b x.2).map fun y => (x.1 ++ y.1, y.2)
 | [], b, p => by
  simp only [planQ, List.nil_append]
  cases planQ ws b p <;> simp
 | k :: r, b, p => by
  show planQ ws (k :: (r ++ b)) p = _
  rw [planQ_cons, planQ_cons]
  cases wdOf k with
  | none => rfl
  | some w =>
   simp only []
   cases widW ws w p with
   | none => rfl
   | some q =>
    simp only []
    rw [planQ_app ws r b q]
    cases planQ ws r q with
    | none => rfl
    | some x =>
     simp only [Option.map_some]
     cases planQ ws b x.2 <;> simp
theorem planQ_snoc (ws : List Int) (a : List Key) (k : Key) (p : List Int) : planQ ws (a ++ [k]) p = match planQ ws a p with
  | none => none
  | some x => match wdOf k with
   | none => none
   | some w => (widW ws w x.2).map fun q => (x.1 ++ [w], q) := by
 rw [planQ_app]
 cases planQ ws a p with
 | none => rfl
 | some x =>
  simp only [planQ]
  cases wdOf k with
  | none => rfl
  | some w =>
   simp only []
   cases widW ws w x.2 <;> simp
theorem planQ_none {ws : List Int} {a : List Key} (b : List Key) {p : List Int} (h : planQ ws a p = none) : planQ ws (a ++ b) p = none := by rw [planQ_app, h]
theorem planQ_len {ws : List Int} : ∀ {a : List Key} {p : List Int} {x : List Wd × List Int}, planQ ws a p = some x → x.1.length = a.length
 | [], p, x, h => by simp [planQ] at h; subst h; rfl
 | k :: r, p, x, h => by
  unfold planQ at h
  split at h
  ·cases h
  split at h
  ·cases h
  rename_i q _
  cases e : planQ ws r q with
  | none => rw [e] at h; cases h
  | some y =>
   rw [e] at h
   have := planQ_len e
   simp at h
   subst h
   simp [this]
theorem planQ_words {ws : List Int} : ∀ {a : List Key} {p : List Int} {x : List Wd × List Int}, planQ ws a p = some x → ∀ k ∈ a, ∃ w, wdOf k = some w
 | [], p, x, h, k, hk => by cases hk
 | k :: r, p, x, h, j, hj => by
  unfold planQ at h
  split at h
  ·cases h
  rename_i w hw
  split at h
  ·cases h
  rename_i q _
  cases e : planQ ws r q with
  | none => rw [e] at h; cases h
  | some y =>
   rcases List.mem_cons.1 hj with rfl | hj
   ·exact ⟨w, hw⟩
   exact planQ_words e j hj
theorem planQ_planW {ws : List Int} : ∀ {a : List Key} {p : List Int} {x : List Wd × List Int}, planQ ws a p = some x → planW ws x.1 p = some x.2
 | [], p, x, h => by simp [planQ] at h; subst h; rfl
 | k :: r, p, x, h => by
  rw [planQ_cons] at h
  cases hw : wdOf k with
  | none => rw [hw] at h; cases h
  | some w =>
   rw [hw] at h
   simp only [] at h
   cases hq : widW ws w p with
   | none => rw [hq] at h; cases h
   | some q =>
    rw [hq] at h
    simp only [] at h
    cases e : planQ ws r q with
    | none => rw [e] at h; cases h
    | some y =>
     rw [e] at h
     simp only [Option.map_some, Option.some.injEq] at h
     subst h
     show planW ws (w :: y.1) p = some y.2
     unfold planW
     rw [hq]
     exact planQ_planW e
def qry (ws : List Int) (q : Key) : Option (List Wd × Int) :=
 match planQ ws (splitK 32 q) [] with
 | none => none
 | some x => if x.1.length ≤ 12 ∧ x.2.length = 1 then some (x.1, x.2.getD 0 0) else none
theorem split_total (c : UInt8) : ∀ K : Key, K.length + 1 = ((splitK c K).map fun p => p.length + 1).sum
 | [] => by simp [splitK]
 | b :: r => by
  have ih := split_total c r
  unfold splitK
  split
  ·simp at ih ⊢; omega
  obtain ⟨h, t, e⟩ := splitK_cons c r
  rw [e] at ih ⊢
  simp at ih ⊢
  omega
theorem sum_le {N : Nat} : ∀ {L : List Key}, (∀ k ∈ L, k.length ≤ N) → (L.map fun p => p.length + 1).sum ≤ L.length * (N + 1)
 | [], _ => by simp
 | k :: r, h => by
  have h1 := h k List.mem_cons_self
  have h2 := sum_le fun j hj => h j (List.mem_cons_of_mem k hj)
  simp only [List.map_cons, List.sum_cons, List.length_cons]
  rw [Nat.add_mul]
  omega
theorem qry_len {ws : List Int} {q : Key} {x : List Wd × Int} (h : qry ws q = some x) : q.length ≤ 144 := by
 unfold qry at h
 split at h
 ·cases h
 rename_i y hy
 split at h
 ·rename_i hl
  have h1 := planQ_len hy
  have h2 := split_total 32 q
  have h3 := sum_le (N := 10) fun k hk => by
   obtain ⟨w, hw⟩ := planQ_words hy k hk
   exact (wd_len hw).2
  omega
 cases h
end Go.Proofs.YtehdemcfeoiecaaGreatDoor
namespace Go.Firn
open Go.RowKit Go.Firn.Tb Go.Proofs.YtehdemcfeoiecaaGreatDoor
def RdP (w : World) (a : Option Addr) (n c : Nat) (L : SL) : Prop := n = L.length ∧ n ≤ c ∧ c ≤ 9223372036854775807 ∧ (a = none → c = 0) ∧ RdS w a n (sx L) (sy L)
theorem RdP.gr {w w' : World} {a : Option Addr} {n c : Nat} {L : SL} (h : RdP w a n c L) (g : Gr w w') : RdP w' a n c L := ⟨h.1, h.2.1, h.2.2.1, h.2.2.2.1, h.2.2.2.2.gr g⟩
def RdW (w : World) (a : Option Addr) (n c : Nat) (T : Tbl SL) : Prop := n = T.length ∧ n ≤ c ∧ c ≤ 9223372036854775807 ∧ (a = none → c = 0) ∧ (n = 0 ∨ ∃ b o, a = some ⟨b, o, none⟩ ∧ ∀ i r, T[i]? = some r → ∃ a1 n1 c1 a2 n2 c2, w.cell? ⟨b, o + i * 2, none⟩ = some (.slice a1 n1 c1) ∧ w.cell? ⟨b, o + i * 2 + 1, none⟩ = some (.slice a2 n2 c2) ∧ Rd3 w a1 n1 c1 r.1 ∧ RdP w a2 n2 c2 r.2)
theorem RdW.gr {w w' : World} {a : Option Addr} {n c : Nat} {T : Tbl SL} (h : RdW w a n c T) (g : Gr w w') : RdW w' a n c T := by
 obtain ⟨h1, h2, h3, h4, h5⟩ := h
 refine ⟨h1, h2, h3, h4, ?_⟩
 rcases h5 with h5 | ⟨b, o, ha, hc⟩
 ·exact .inl h5
 refine .inr ⟨b, o, ha, fun i r hr => ?_⟩
 obtain ⟨a1, n1, c1, a2, n2, c2, k1, k2, k3, k4⟩ := hc i r hr
 exact ⟨a1, n1, c1, a2, n2, c2, g.cell k1, g.cell k2, k3.gr g, k4.gr g⟩
theorem RdW.at {w : World} {a : Option Addr} {n c : Nat} {T : Tbl SL} (h : RdW w a n c T) {k : Nat} (hk : k < n) : ∃ b o r a1 n1 c1 a2 n2 c2, a = some ⟨b, o, none⟩ ∧ T[k]? = some r ∧ w.cell? ⟨b, o + k * 2, none⟩ = some (.slice a1 n1 c1) ∧ w.cell? ⟨b, o + k * 2 + 1, none⟩ = some (.slice a2 n2 c2) ∧ Rd3 w a1 n1 c1 r.1 ∧ RdP w a2 n2 c2 r.2 := by
 obtain ⟨h1, h2, h3, h4, h5⟩ := h
 rcases h5 with h5 | ⟨b, o, ha, hc⟩
 ·omega
 have hr : T[k]? = some (T[k]'(by omega)) := List.getElem?_eq_getElem (by omega)
 obtain ⟨a1, n1, c1, a2, n2, c2, k1, k2, k3, k4⟩ := hc k _ hr
 exact ⟨b, o, _, a1, n1, c1, a2, n2, c2, ha, hr, k1, k2, k3, k4⟩
def RdWs (w : World) (a : Option Addr) (n c : Nat) (Ts : List (Int × Tbl SL)) : Prop := n = Ts.length ∧ n ≤ c ∧ c ≤ 9223372036854775807 ∧ (a = none → c = 0) ∧ (n = 0 ∨ ∃ b o, a = some ⟨b, o, none⟩ ∧ ∀ i r, Ts[i]? = some r → ∃ a1 n1 c1, w.cell? ⟨b, o + i * 2, none⟩ = some (.int .i64 r.1) ∧ w.cell? ⟨b, o + i * 2 + 1, none⟩ = some (.slice a1 n1 c1) ∧ RdW w a1 n1 c1 r.2)
theorem RdWs.gr {w w' : World} {a : Option Addr} {n c : Nat} {Ts : List (Int × Tbl SL)} (h : RdWs w a n c Ts) (g : Gr w w') : RdWs w' a n c Ts := by
 obtain ⟨h1, h2, h3, h4, h5⟩ := h
 refine ⟨h1, h2, h3, h4, ?_⟩
 rcases h5 with h5 | ⟨b, o, ha, hc⟩
 ·exact .inl h5
 refine .inr ⟨b, o, ha, fun i r hr => ?_⟩
 obtain ⟨a1, n1, c1, k1, k2, k3⟩ := hc i r hr
 exact ⟨a1, n1, c1, g.cell k1, g.cell k2, k3.gr g⟩
theorem RdWs.at {w : World} {a : Option Addr} {n c : Nat} {Ts : List (Int × Tbl SL)} (h : RdWs w a n c Ts) {k : Nat} (hk : k < n) : ∃ b o r a1 n1 c1, a = some ⟨b, o, none⟩ ∧ Ts[k]? = some r ∧ w.cell? ⟨b, o + k * 2, none⟩ = some (.int .i64 r.1) ∧ w.cell? ⟨b, o + k * 2 + 1, none⟩ = some (.slice a1 n1 c1) ∧ RdW w a1 n1 c1 r.2 := by
 obtain ⟨h1, h2, h3, h4, h5⟩ := h
 rcases h5 with h5 | ⟨b, o, ha, hc⟩
 ·omega
 have hr : Ts[k]? = some (Ts[k]'(by omega)) := List.getElem?_eq_getElem (by omega)
 obtain ⟨a1, n1, c1, k1, k2, k3⟩ := hc k _ hr
 exact ⟨b, o, _, a1, n1, c1, ha, hr, k1, k2, k3⟩
theorem mapT_take {D E : Type} {ι : D → E} {T : Tbl D} {i : Nat} {r : List Int × D} (h : T[i]? = some r) : mapT ι (T.take (i + 1)) = mapT ι (T.take i) ++ [(r.1, ι r.2)] := by
 rw [List.take_add_one, h]
 simp [mapT]
end Go.Firn
namespace Go.Firn.Tb
def ahd (K : Nat → List Int) (i j : Nat) : Prop := K i < K j ∨ K i = K j ∧ i < j
theorem ahd.trans {K : Nat → List Int} {i j k : Nat} (h : ahd K i j) (g : ahd K j k) : ahd K i k := by
 rcases h with h | ⟨e, h⟩
 ·rcases g with g | ⟨e', g⟩
  ·exact .inl (List.lt_trans h g)
  exact .inl (e' ▸ h)
 rcases g with g | ⟨e', g⟩
 ·exact .inl (e ▸ g)
 exact .inr ⟨e.trans e', by omega⟩
theorem ahd.of_not {K : Nat → List Int} {i j : Nat} (h : ¬ K j < K i) (g : i < j) : ahd K i j := by
 rcases Classical.em (K i = K j) with e | e
 ·exact .inr ⟨e, g⟩
 exact .inl (tri h (fun e' => e e'.symm))
def cmpI (x y : List Int) : Int := if x < y then -1 else if y < x then 1 else 0
theorem cmpI_neg {x y : List Int} : cmpI x y < 0 ↔ x < y := by
 unfold cmpI
 split
 ·simp [*]
 split <;> simp [*]
theorem cmpI_zero {x y : List Int} : cmpI x y = 0 ↔ x = y := by
 unfold cmpI
 split
 ·rename_i h; simp [lt_ne h]
 split
 ·rename_i h; simp [(lt_ne h).symm]
 rename_i h g
 simp only [true_iff]
 rcases Classical.em (x = y) with e | e
 ·exact e
 exact absurd (tri h e) g
def exc (R : Nat → Nat) (i j : Nat) : Nat → Nat := fun p => if p = j then R i else if p = i then R j else R p
def swr (R : Nat → Nat) (a m k : Nat) : Nat → Nat := fun p => if a ≤ p ∧ p < a + k then R (m + (p - a)) else if m ≤ p ∧ p < m + k then R (a + (p - m)) else R p
theorem swr_zero (R : Nat → Nat) (a m : Nat) : swr R a m 0 = R := by
 funext p
 unfold swr
 rw [if_neg (by omega), if_neg (by omega)]
theorem swr_succ (R : Nat → Nat) {a m k : Nat} (h : a + k < m) : exc (swr R a m k) (a + k) (m + k) = swr R a m (k + 1) := by
 funext p
 unfold exc
 by_cases h1 : p = m + k
 ·subst h1
  rw [if_pos rfl]
  unfold swr
  rw [if_neg (by omega), if_neg (by omega), if_neg (by omega), if_pos (by omega)]
  congr 1; omega
 by_cases h2 : p = a + k
 ·subst h2
  rw [if_neg h1, if_pos rfl]
  unfold swr
  rw [if_neg (by omega), if_neg (by omega), if_pos (by omega)]
  congr 1; omega
 rw [if_neg h1, if_neg h2]
 unfold swr
 by_cases h3 : a ≤ p ∧ p < a + k
 ·rw [if_pos h3, if_pos (by omega)]
 rw [if_neg h3, if_neg (c := a ≤ p ∧ p < a + (k + 1)) (by omega)]
 by_cases h4 : m ≤ p ∧ p < m + k
 ·rw [if_pos h4, if_pos (by omega)]
 rw [if_neg h4, if_neg (by omega)]
def rot (R : Nat → Nat) (a m b : Nat) : Nat → Nat := fun p => if a ≤ p ∧ p < a + (b - m) then R (m + (p - a)) else if a + (b - m) ≤ p ∧ p < b then R (a + (p - (a + (b - m)))) else R p
theorem rot_more (R : Nat → Nat) {m i j : Nat} (hi : i ≤ m) (hj : 1 ≤ j) (h : j < i) : rot (swr R (m - i) m j) (m - (i - j)) m (m + j) = rot R (m - i) m (m + j) := by
 funext p
 unfold rot
 have e : m + j - m = j := by omega
 rw [e]
 by_cases h0 : p < m - i ∨ m + j ≤ p
 ·rw [if_neg (by omega), if_neg (by omega), if_neg (by omega), if_neg (by omega)]
  unfold swr
  rw [if_neg (by omega), if_neg (by omega)]
 by_cases h1 : p < m - i + j
 ·rw [if_neg (by omega), if_neg (by omega), if_pos (by omega)]
  unfold swr
  rw [if_pos (by omega)]
 by_cases h2 : p < m - i + j + j
 ·rw [if_pos (by omega), if_neg (by omega), if_pos (by omega)]
  unfold swr
  rw [if_neg (by omega), if_pos (by omega)]
  congr 1; omega
 rw [if_neg (by omega), if_pos (by omega), if_neg (by omega), if_pos (by omega)]
 unfold swr
 rw [if_neg (by omega), if_neg (by omega)]
 congr 1; omega
theorem rot_less (R : Nat → Nat) {m i j : Nat} (hi : i ≤ m) (h1i : 1 ≤ i) (h : i < j) : rot (swr R (m - i) (m + j - i) i) (m - i) m (m + (j - i)) = rot R (m - i) m (m + j) := by
 funext p
 unfold rot
 have e : m + j - m = j := by omega
 have e' : m + (j - i) - m = j - i := by omega
 rw [e, e']
 by_cases h0 : p < m - i ∨ m + j ≤ p
 ·rw [if_neg (by omega), if_neg (by omega), if_neg (by omega), if_neg (by omega)]
  unfold swr
  rw [if_neg (by omega), if_neg (by omega)]
 by_cases h1 : p < m - i + (j - i)
 ·rw [if_pos (by omega), if_pos (by omega)]
  unfold swr
  rw [if_neg (by omega), if_neg (by omega)]
 by_cases h2 : p < m + (j - i)
 ·rw [if_neg (by omega), if_pos (by omega), if_pos (by omega)]
  unfold swr
  rw [if_pos (by omega)]
  congr 1; omega
 rw [if_neg (by omega), if_neg (by omega), if_neg (by omega), if_pos (by omega)]
 unfold swr
 rw [if_neg (by omega), if_pos (by omega)]
 congr 1; omega
theorem rot_same (R : Nat → Nat) {m i : Nat} (hi : i ≤ m) : swr R (m - i) m i = rot R (m - i) m (m + i) := by
 funext p
 unfold rot swr
 have e : m + i - m = i := by omega
 rw [e]
 by_cases h1 : m - i ≤ p ∧ p < m - i + i
 ·rw [if_pos h1, if_pos h1]
 rw [if_neg h1, if_neg h1]
 by_cases h2 : m ≤ p ∧ p < m + i
 ·rw [if_pos h2, if_pos (by omega)]
  congr 1; omega
 rw [if_neg h2, if_neg (by omega)]
structure Prm (a b : Nat) (R R' : Nat → Nat) : Prop where
 out : ∀ p, p < a ∨ b ≤ p → R' p = R p
 from_ : ∀ p, a ≤ p → p < b → ∃ q, a ≤ q ∧ q < b ∧ R' p = R q
 fwd : ∀ q, a ≤ q → q < b → ∃ p, a ≤ p ∧ p < b ∧ R' p = R q
theorem Prm.refl (a b : Nat) (R : Nat → Nat) : Prm a b R R := ⟨fun _ _ => rfl, fun p h1 h2 => ⟨p, h1, h2, rfl⟩, fun p h1 h2 => ⟨p, h1, h2, rfl⟩⟩
theorem Prm.trans {a b : Nat} {R S T : Nat → Nat} (h : Prm a b R S) (g : Prm a b S T) : Prm a b R T where
 out p hp := (g.out p hp).trans (h.out p hp)
 from_ p h1 h2 := by
  obtain ⟨q, k1, k2, e⟩ := g.from_ p h1 h2
  obtain ⟨r, l1, l2, e'⟩ := h.from_ q k1 k2
  exact ⟨r, l1, l2, e.trans e'⟩
 fwd p h1 h2 := by
  obtain ⟨q, k1, k2, e⟩ := h.fwd p h1 h2
  obtain ⟨r, l1, l2, e'⟩ := g.fwd q k1 k2
  exact ⟨r, l1, l2, e'.trans e⟩
theorem Prm.wide {a b a' b' : Nat} {R S : Nat → Nat} (h : Prm a b R S) (ha : a' ≤ a) (hb : b ≤ b') : Prm a' b' R S where
 out p hp := h.out p (by omega)
 from_ p h1 h2 := by
  by_cases k : a ≤ p ∧ p < b
  ·obtain ⟨q, k1, k2, e⟩ := h.from_ p k.1 k.2
   exact ⟨q, by omega, by omega, e⟩
  exact ⟨p, h1, h2, h.out p (by omega)⟩
 fwd p h1 h2 := by
  by_cases k : a ≤ p ∧ p < b
  ·obtain ⟨q, k1, k2, e⟩ := h.fwd p k.1 k.2
   exact ⟨q, by omega, by omega, e⟩
  exact ⟨p, h1, h2, h.out p (by omega)⟩
theorem Prm.exc {a b i j : Nat} (R : Nat → Nat) (hi : a ≤ i ∧ i < b) (hj : a ≤ j ∧ j < b) : Prm a b R (exc R i j) where
 out p hp := by
  unfold Tb.exc
  rw [if_neg (by omega), if_neg (by omega)]
 from_ p h1 h2 := by
  unfold Tb.exc
  split
  ·exact ⟨i, hi.1, hi.2, rfl⟩
  split
  ·exact ⟨j, hj.1, hj.2, rfl⟩
  exact ⟨p, h1, h2, rfl⟩
 fwd q h1 h2 := by
  by_cases k1 : q = i
  ·subst k1
   refine ⟨j, hj.1, hj.2, ?_⟩
   unfold Tb.exc; rw [if_pos rfl]
  by_cases k2 : q = j
  ·subst k2
   by_cases k3 : i = q
   ·exact absurd k3.symm k1
   refine ⟨i, hi.1, hi.2, ?_⟩
   unfold Tb.exc; rw [if_neg k3, if_pos rfl]
  refine ⟨q, h1, h2, ?_⟩
  unfold Tb.exc; rw [if_neg k2, if_neg k1]
theorem Prm.rot {a m b : Nat} (R : Nat → Nat) (h1 : a ≤ m) (h2 : m ≤ b) : Prm a b R (rot R a m b) where
 out p hp := by
  unfold Tb.rot
  rw [if_neg (by omega), if_neg (by omega)]
 from_ p k1 k2 := by
  unfold Tb.rot
  split
  ·exact ⟨m + (p - a), by omega, by omega, rfl⟩
  rw [if_pos (by omega)]
  exact ⟨a + (p - (a + (b - m))), by omega, by omega, rfl⟩
 fwd q k1 k2 := by
  by_cases k : q < m
  ·refine ⟨a + (b - m) + (q - a), by omega, by omega, ?_⟩
   unfold Tb.rot
   rw [if_neg (by omega), if_pos (by omega)]
   congr 1; omega
  refine ⟨a + (q - m), by omega, by omega, ?_⟩
  unfold Tb.rot
  rw [if_pos (by omega)]
  congr 1; omega
def Srt' (K : Nat → List Int) (R : Nat → Nat) (a b : Nat) : Prop := ∀ p q, a ≤ p → p < q → q < b → ahd K (R p) (R q)
def Low (R : Nat → Nat) (a m b : Nat) : Prop := ∀ p q, a ≤ p → p < m → m ≤ q → q < b → R p < R q
structure InsS (K : Nat → List Int) (R : Nat → Nat) (a i j : Nat) : Prop where
 lo : a ≤ j ∧ j ≤ i
 here : R j = i
 rest : ∀ p q, a ≤ p → p < q → q ≤ i → p ≠ j → q ≠ j → ahd K (R p) (R q)
 less : ∀ q, j < q → q ≤ i → ahd K (R j) (R q)
 ids : ∀ p, a ≤ p → p ≤ i → p ≠ j → R p < i
theorem InsS.next {K : Nat → List Int} {R : Nat → Nat} {a i j : Nat} (h : InsS K R a i (j + 1)) (ha : a ≤ j) (hl : K (R (j + 1)) < K (R j)) : InsS K (exc R (j + 1) j) a i j := by
 have e1 : exc R (j + 1) j j = R (j + 1) := by unfold exc; rw [if_pos rfl]
 have e2 : exc R (j + 1) j (j + 1) = R j := by unfold exc; rw [if_neg (by omega), if_pos rfl]
 have e3 : ∀ p, p ≠ j → p ≠ j + 1 → exc R (j + 1) j p = R p := fun p h1 h2 => by unfold exc; rw [if_neg h1, if_neg h2]
 have h0 := h.lo
 refine ⟨⟨ha, by omega⟩, by rw [e1]; exact h.here, fun p q h1 h2 h3 k1 k2 => ?_, fun q h1 h2 => ?_, fun p h1 h2 k => ?_⟩
 ·by_cases kp : p = j + 1
  ·subst kp
   rw [e2, e3 q k2 (by omega)]
   exact h.rest j q ha (by omega) h3 (by omega) (by omega)
  rw [e3 p k1 kp]
  by_cases kq : q = j + 1
  ·subst kq
   rw [e2]
   exact h.rest p j h1 (by omega) (by omega) kp (by omega)
  rw [e3 q k2 kq]
  exact h.rest p q h1 h2 h3 kp kq
 ·rw [e1]
  by_cases kq : q = j + 1
  ·subst kq
   rw [e2]
   exact .inl hl
  rw [e3 q (by omega) kq]
  exact h.less q (by omega) h2
 by_cases kp : p = j + 1
 ·subst kp
  rw [e2]
  exact h.ids j ha (by omega) (by omega)
 rw [e3 p k kp]
 exact h.ids p h1 h2 kp
theorem InsS.stop {K : Nat → List Int} {R : Nat → Nat} {a i j : Nat} (h : InsS K R a i j) (hs : j = a ∨ ∃ j', j = j' + 1 ∧ a ≤ j' ∧ ¬ K (R j) < K (R j')) : Srt' K R a (i + 1) := by
 intro p q h1 h2 h3
 by_cases kp : p = j
 ·subst kp; exact h.less q h2 (by omega)
 by_cases kq : q = j
 ·subst kq
  rcases hs with rfl | ⟨j', rfl, ha, hn⟩
  ·omega
  have h0 := h.lo
  have a1 : ahd K (R j') (R (j' + 1)) := ahd.of_not hn (by rw [h.here]; exact h.ids j' ha (by omega) (by omega))
  by_cases kj : p = j'
  ·subst kj; exact a1
  exact (h.rest p j' h1 (by omega) (by omega) kp (by omega)).trans a1
 exact h.rest p q h1 h2 (by omega) kp kq
structure Cut (K : Nat → List Int) (R : Nat → Nat) (a m b mid st : Nat) : Prop where
 s1 : a ≤ st ∧ st ≤ m
 s2 : st ≤ mid
 e1 : mid + m - st ≤ b
 lt : a < st → mid + m - st < b → ahd K (R (st - 1)) (R (mid + m - st))
 gt : st < m → m < mid + m - st → ahd K (R (mid + m - st - 1)) (R st)
theorem rot_lo {R : Nat → Nat} {st m en p : Nat} (h1 : st ≤ p) (h2 : p < st + (en - m)) : rot R st m en p = R (m + (p - st)) := by
 unfold rot; rw [if_pos ⟨h1, h2⟩]
theorem rot_hi {R : Nat → Nat} {st m en p : Nat} (h1 : st + (en - m) ≤ p) (h2 : p < en) : rot R st m en p = R (st + (p - (st + (en - m)))) := by
 unfold rot; rw [if_neg (by omega), if_pos ⟨h1, h2⟩]
theorem rot_out {R : Nat → Nat} {st m en p : Nat} (hs : st ≤ m) (h : p < st ∨ en ≤ p) : rot R st m en p = R p := by
 unfold rot; rw [if_neg (by omega), if_neg (by omega)]
theorem cut_parts {K : Nat → List Int} {R : Nat → Nat} {a m b mid st : Nat} (hm : a < m ∧ m < b) (hmid : a < mid ∧ mid < b) (hc : Cut K R a m b mid st) (s1 : Srt' K R a m) (s2 : Srt' K R m b) (hl : Low R a m b) :
  let S := rot R st m (mid + m - st)
  (Srt' K S a st ∧ Srt' K S st mid ∧ Low S a st mid) ∧ (Srt' K S mid (mid + m - st) ∧ Srt' K S (mid + m - st) b ∧ Low S mid (mid + m - st) b) ∧ (∀ p q, a ≤ p → p < mid → mid ≤ q → q < b → ahd K (S p) (S q)) := by
 intro S
 obtain ⟨⟨c1, c2⟩, c3, c4, c5, c6⟩ := hc
 have hen : mid + m - st - m = mid - st := by omega
 have A1 : ∀ p, a ≤ p → p < st → S p = R p := fun p h1 h2 => rot_out c2 (.inl h2)
 have B1 : ∀ p, st ≤ p → p < mid → S p = R (m + (p - st)) := fun p h1 h2 => rot_lo h1 (by omega)
 have A2 : ∀ p, mid ≤ p → p < mid + m - st → S p = R (st + (p - mid)) := fun p h1 h2 => by
  have := rot_hi (R := R) (st := st) (m := m) (en := mid + m - st) (p := p) (by omega) h2
  rw [show st + (p - (st + (mid + m - st - m))) = st + (p - mid) by omega] at this
  exact this
 have B2 : ∀ p, mid + m - st ≤ p → p < b → S p = R p := fun p h1 h2 => rot_out c2 (.inr h1)
 refine ⟨⟨fun p q h1 h2 h3 => ?_, fun p q h1 h2 h3 => ?_, fun p q h1 h2 h3 h4 => ?_⟩, ⟨fun p q h1 h2 h3 => ?_, fun p q h1 h2 h3 => ?_, fun p q h1 h2 h3 h4 => ?_⟩, fun p q h1 h2 h3 h4 => ?_⟩
 ·rw [A1 p h1 (by omega), A1 q (by omega) h3]
  exact s1 p q h1 h2 (by omega)
 ·rw [B1 p h1 (by omega), B1 q (by omega) h3]
  exact s2 _ _ (by omega) (by omega) (by omega)
 ·rw [A1 p h1 h2, B1 q h3 h4]
  exact hl _ _ h1 (by omega) (by omega) (by omega)
 ·rw [A2 p h1 (by omega), A2 q (by omega) h3]
  exact s1 _ _ (by omega) (by omega) (by omega)
 ·rw [B2 p h1 (by omega), B2 q (by omega) h3]
  exact s2 _ _ (by omega) h2 h3
 ·rw [A2 p h1 h2, B2 q h3 h4]
  exact hl _ _ (by omega) (by omega) (by omega) h4
 have chainA : ∀ p q, a ≤ p → p ≤ q → q < m → p = q ∨ ahd K (R p) (R q) := fun p q k1 k2 k3 => by
  rcases Nat.lt_or_ge p q with k | k
  ·exact .inr (s1 p q k1 k k3)
  exact .inl (by omega)
 have chainB : ∀ p q, m ≤ p → p ≤ q → q < b → p = q ∨ ahd K (R p) (R q) := fun p q k1 k2 k3 => by
  rcases Nat.lt_or_ge p q with k | k
  ·exact .inr (s2 p q k1 k k3)
  exact .inl (by omega)
 have join : ∀ {x y z : Nat}, (x = y ∨ ahd K (R x) (R y)) → ahd K (R y) (R z) → ahd K (R x) (R z) := fun h g => by
  rcases h with rfl | h
  ·exact g
  exact h.trans g
 have join' : ∀ {x y z : Nat}, ahd K (R x) (R y) → (y = z ∨ ahd K (R y) (R z)) → ahd K (R x) (R z) := fun h g => by
  rcases g with rfl | g
  ·exact h
  exact h.trans g
 by_cases kp : p < st
 ·rw [A1 p h1 kp]
  by_cases kq : q < mid + m - st
  ·rw [A2 q h3 kq]
   exact s1 _ _ h1 (by omega) (by omega)
  rw [B2 q (by omega) h4]
  have := c5 (by omega) (by omega)
  exact join' (join (chainA p (st - 1) h1 (by omega) (by omega)) this) (chainB (mid + m - st) q (by omega) (by omega) h4)
 rw [B1 p (by omega) h2]
 by_cases kq : q < mid + m - st
 ·rw [A2 q h3 kq]
  have := c6 (by omega) (by omega)
  exact join' (join (chainB (m + (p - st)) (mid + m - st - 1) (by omega) (by omega) (by omega)) this) (chainA st (st + (q - mid)) (by omega) (by omega) (by omega))
 rw [B2 q (by omega) h4]
 exact s2 _ _ (by omega) (by omega) h4
theorem srt_join {K : Nat → List Int} {T : Nat → Nat} {a mid b : Nat} (h1 : Srt' K T a mid) (h2 : Srt' K T mid b) (h : ∀ p q, a ≤ p → p < mid → mid ≤ q → q < b → ahd K (T p) (T q)) : Srt' K T a b := fun p q k1 k2 k3 => by
 by_cases kq : q < mid
 ·exact h1 p q k1 k2 kq
 by_cases kp : p < mid
 ·exact h p q k1 kp (by omega) k3
 exact h2 p q (by omega) k2 k3
theorem cross_prm {K : Nat → List Int} {S T U : Nat → Nat} {a mid b : Nat} (h : ∀ p q, a ≤ p → p < mid → mid ≤ q → q < b → ahd K (S p) (S q)) (h1 : Prm a mid S T) (h2 : Prm mid b T U) : ∀ p q, a ≤ p → p < mid → mid ≤ q → q < b → ahd K (U p) (U q) := fun p q k1 k2 k3 k4 => by
 rw [h2.out p (by omega)]
 obtain ⟨p', l1, l2, e1⟩ := h1.from_ p k1 k2
 obtain ⟨q', m1, m2, e2⟩ := h2.from_ q k3 k4
 rw [e1, e2, h1.out q' (by omega)]
 exact h p' q' l1 l2 m1 m2
def shU (R : Nat → Nat) (a q : Nat) : Nat → Nat := fun p => if a ≤ p ∧ p < q then R (p + 1) else if p = q then R a else R p
theorem shU_zero (R : Nat → Nat) (a : Nat) : shU R a a = R := by
 funext p
 unfold shU
 rw [if_neg (by omega)]
 split
 ·rename_i h; rw [h]
 rfl
theorem shU_next (R : Nat → Nat) {a q : Nat} (h : a ≤ q) : exc (shU R a q) q (q + 1) = shU R a (q + 1) := by
 funext p
 unfold exc shU
 by_cases h1 : p = q + 1
 ·subst h1
  rw [if_pos rfl, if_neg (by omega), if_pos rfl, if_neg (by omega), if_pos rfl]
 rw [if_neg h1]
 by_cases h2 : p = q
 ·subst h2
  rw [if_pos rfl, if_neg (by omega), if_neg (by omega), if_pos (by omega)]
 rw [if_neg h2]
 by_cases h3 : a ≤ p ∧ p < q
 ·rw [if_pos h3, if_pos (by omega)]
 rw [if_neg h3, if_neg h2, if_neg (by omega), if_neg h1]
theorem shU_prm (R : Nat → Nat) {a e : Nat} : ∀ {q : Nat}, a ≤ q → q < e → Prm a e R (shU R a q) := fun {q} h1 h2 => by
 obtain ⟨d, rfl⟩ : ∃ d, q = a + d := ⟨q - a, by omega⟩
 induction d with
 | zero => rw [Nat.add_zero, shU_zero]; exact Prm.refl _ _ _
 | succ d ih =>
  rw [← Nat.add_assoc, ← shU_next R (by omega)]
  exact (ih (by omega) (by omega)).trans (Prm.exc _ (by omega) (by omega))
theorem shU_srt {K : Nat → List Int} {R : Nat → Nat} {a m e i : Nat} (hm : m = a + 1) (h1 : m ≤ i) (h2 : i ≤ e) (hs : Srt' K R m e) (hl : Low R a m e) (lo : ∀ p, m ≤ p → p < i → K (R p) < K (R a)) (hi : ∀ p, i ≤ p → p < e → ¬ K (R p) < K (R a)) : Srt' K (shU R a (i - 1)) a e := fun p q k1 k2 k3 => by
 unfold shU
 by_cases p1 : p < i - 1
 ·rw [if_pos (by omega)]
  by_cases q1 : q < i - 1
  ·rw [if_pos (by omega)]
   exact hs _ _ (by omega) (by omega) (by omega)
  rw [if_neg (by omega)]
  by_cases q2 : q = i - 1
  ·rw [if_pos q2]
   exact .inl (lo _ (by omega) (by omega))
  rw [if_neg q2]
  exact hs _ _ (by omega) (by omega) (by omega)
 rw [if_neg (by omega)]
 by_cases p2 : p = i - 1
 ·rw [if_pos p2, if_neg (by omega), if_neg (by omega)]
  exact ahd.of_not (hi q (by omega) k3) (hl a q (Nat.le_refl _) (by omega) (by omega) k3)
 rw [if_neg p2, if_neg (by omega), if_neg (by omega)]
 exact hs _ _ (by omega) k2 k3
def shD (R : Nat → Nat) (m k : Nat) : Nat → Nat := fun p => if k < p ∧ p ≤ m then R (p - 1) else if p = k then R m else R p
theorem shD_zero (R : Nat → Nat) (m : Nat) : shD R m m = R := by
 funext p
 unfold shD
 rw [if_neg (by omega)]
 split
 ·rename_i h; rw [h]
 rfl
theorem shD_next (R : Nat → Nat) {m k : Nat} (h : k < m) : exc (shD R m (k + 1)) (k + 1) k = shD R m k := by
 funext p
 unfold exc shD
 by_cases h1 : p = k
 ·subst h1
  rw [if_pos rfl, if_neg (by omega), if_pos rfl, if_neg (by omega), if_pos rfl]
 rw [if_neg h1]
 by_cases h2 : p = k + 1
 ·subst h2
  rw [if_pos rfl, if_neg (by omega), if_neg (by omega), if_pos (by omega)]
  rfl
 rw [if_neg h2]
 by_cases h3 : k + 1 < p ∧ p ≤ m
 ·rw [if_pos h3, if_pos (by omega)]
 rw [if_neg h3, if_neg h2, if_neg (by omega), if_neg h1]
theorem shD_prm (R : Nat → Nat) {a e m : Nat} : ∀ (d : Nat), d ≤ m → a ≤ m - d → m < e → Prm a e R (shD R m (m - d))
 | 0, _, _, _ => by rw [Nat.sub_zero, shD_zero]; exact Prm.refl _ _ _
 | d + 1, h1, h2, h3 => by
  have := shD_next R (m := m) (k := m - (d + 1)) (by omega)
  rw [← this, show m - (d + 1) + 1 = m - d by omega]
  exact (shD_prm R d (by omega) (by omega) h3).trans (Prm.exc _ (by omega) (by omega))
theorem shD_srt {K : Nat → List Int} {R : Nat → Nat} {a m e i : Nat} (hm : e = m + 1) (h1 : a ≤ i) (h2 : i ≤ m) (hs : Srt' K R a m) (hl : Low R a m e) (lo : ∀ p, a ≤ p → p < i → ¬ K (R m) < K (R p)) (hi : ∀ p, i ≤ p → p < m → K (R m) < K (R p)) : Srt' K (shD R m i) a e := fun p q k1 k2 k3 => by
 unfold shD
 by_cases q1 : i < q
 ·rw [if_pos (c := i < q ∧ q ≤ m) (by omega)]
  by_cases p1 : i < p
  ·rw [if_pos (by omega)]
   exact hs _ _ (by omega) (by omega) (by omega)
  rw [if_neg (by omega)]
  by_cases p2 : p = i
  ·rw [if_pos p2]
   exact .inl (hi _ (by omega) (by omega))
  rw [if_neg p2]
  exact hs _ _ k1 (by omega) (by omega)
 rw [if_neg (c := i < q ∧ q ≤ m) (by omega), if_neg (c := i < p ∧ p ≤ m) (by omega), if_neg (c := p = i) (by omega)]
 by_cases q2 : q = i
 ·rw [if_pos q2]
  exact ahd.of_not (lo p k1 (by omega)) (hl p m k1 (by omega) (Nat.le_refl _) (by omega))
 rw [if_neg q2]
 exact hs _ _ k1 k2 (by omega)
theorem rot_id (R : Nat → Nat) {st m en : Nat} (h : st = m ∨ en = m) : rot R st m en = R := by
 funext p
 unfold rot
 rcases h with h | h
 ·subst h
  by_cases k : st ≤ p ∧ p < st + (en - st)
  ·rw [if_pos k]; congr 1; omega
  rw [if_neg k, if_neg (by omega)]
 subst h
 rw [if_neg (by omega)]
 by_cases k : st + (en - en) ≤ p ∧ p < en
 ·rw [if_pos k]; congr 1; omega
 rw [if_neg k]
theorem cut_found {K : Nat → List Int} {R : Nat → Nat} {a m e mid st s0 r0 : Nat} (hm : a < m ∧ m < e) (hmid : a < mid ∧ mid < e) (hl : Low R a m e) (h0 : (mid < m ∧ s0 = mid + m - e ∧ r0 = mid ∧ a ≤ s0) ∨ (m ≤ mid ∧ s0 = a ∧ r0 = m ∧ mid + m - a ≤ e)) (hst : s0 ≤ st ∧ st ≤ r0)
  (lo : s0 < st → ¬ K (R (mid + m - st)) < K (R (st - 1))) (hi : st < r0 → K (R (mid + m - 1 - st)) < K (R st)) : Cut K R a m e mid st := by
 refine ⟨by omega, by omega, by omega, fun k1 k2 => ?_, fun k1 k2 => ?_⟩
 ·exact ahd.of_not (lo (by omega)) (hl _ _ (by omega) (by omega) (by omega) k2)
 have := hi (by omega)
 rw [show mid + m - st - 1 = mid + m - 1 - st by omega]
 exact .inl this
structure Blk (K : Nat → List Int) (s n : Nat) (R : Nat → Nat) : Prop where
 srt : ∀ p q, p < q → q < n → p / s = q / s → ahd K (R p) (R q)
 own : ∀ p, p < n → R p / s = p / s
 prm : Prm 0 n (fun p => p) R
theorem Blk.one (K : Nat → List Int) (n : Nat) : Blk K 1 n (fun p => p) := ⟨fun p q h _ e => by simp only [Nat.div_one] at e; omega, fun _ _ => rfl, Prm.refl _ _ _⟩
theorem Blk.all {K : Nat → List Int} {s n : Nat} {R : Nat → Nat} (h : Blk K s n R) (hs : n ≤ s) : Srt' K R 0 n := fun p q _ h2 h3 => h.srt p q h2 h3 (by rw [Nat.div_eq_of_lt (by omega), Nat.div_eq_of_lt (by omega)])
structure BS (K : Nat → List Int) (s c n a : Nat) (R : Nat → Nat) : Prop where
 srt1 : ∀ p q, p < q → q < n → q < a → p / (s * c) = q / (s * c) → ahd K (R p) (R q)
 srt2 : ∀ p q, p < q → q < n → a ≤ p → p / s = q / s → ahd K (R p) (R q)
 own1 : ∀ p, p < n → p < a → R p / (s * c) = p / (s * c)
 own2 : ∀ p, p < n → a ≤ p → R p / s = p / s
 prm : Prm 0 n (fun p => p) R
theorem BS.start {K : Nat → List Int} {s c n : Nat} {R : Nat → Nat} (h : Blk K s n R) : BS K s c n 0 R :=
 ⟨fun _ _ _ _ h => absurd h (Nat.not_lt_zero _), fun p q h1 h2 _ e => h.srt p q h1 h2 e, fun _ _ h => absurd h (Nat.not_lt_zero _), fun p hp _ => h.own p hp, h.prm⟩
theorem BS.done {K : Nat → List Int} {s c n a : Nat} {R : Nat → Nat} (h : BS K s c n a R) (ha : n ≤ a) : Blk K (s * c) n R :=
 ⟨fun p q h1 h2 e => h.srt1 p q h1 h2 (by omega) e, fun p hp => h.own1 p hp (by omega), h.prm⟩
theorem BS.step {K : Nat → List Int} {s c n a e : Nat} {R S : Nat → Nat} (h : BS K s c n a R) (hs : 0 < s * c) (ht : a % (s * c) = 0) (he : e = a + s * c ∨ e = n ∧ n ≤ a + s * c) (hen : e ≤ n) (hae : a ≤ e) (h1 : Srt' K S a e) (h2 : Prm a e R S) : BS K s c n (a + s * c) S := by
 obtain ⟨t, rfl⟩ : ∃ t, a = t * (s * c) := ⟨a / (s * c), by have := Nat.div_add_mod a (s * c); rw [ht, Nat.add_zero, Nat.mul_comm] at this; exact this.symm⟩
 have lo : ∀ p, p < t * (s * c) → p / (s * c) < t := fun p hp => (Nat.div_lt_iff_lt_mul hs).2 hp
 have hi : ∀ p, t * (s * c) ≤ p → t ≤ p / (s * c) := fun p hp => (Nat.le_div_iff_mul_le hs).2 hp
 have up : ∀ p, p < t * (s * c) + s * c → p / (s * c) < t + 1 := fun p hp => (Nat.div_lt_iff_lt_mul hs).2 (by rw [Nat.add_mul]; omega)
 have big : ∀ p, t * (s * c) + s * c ≤ p → e = t * (s * c) + s * c → t + 1 ≤ p / (s * c) := fun p hp _ => (Nat.le_div_iff_mul_le hs).2 (by rw [Nat.add_mul]; omega)
 have out : ∀ p, p < n → t * (s * c) + s * c ≤ p → S p = R p := fun p _ k => h2.out p (by omega)
 refine ⟨fun p q k1 k2 k3 k4 => ?_, fun p q k1 k2 k3 k4 => ?_, fun p k1 k2 => ?_, fun p k1 k2 => ?_, h.prm.trans (h2.wide (Nat.zero_le _) hen)⟩
 ·by_cases kp : p < t * (s * c)
  ·have a1 := lo p kp
   by_cases kq : q < t * (s * c)
   ·rw [h2.out p (.inl kp), h2.out q (.inl kq)]
    exact h.srt1 p q k1 k2 kq k4
   have := hi q (by omega); omega
  exact h1 p q (by omega) k1 (by omega)
 ·rw [out p (by omega) k3, out q (by omega) (by omega)]
  exact h.srt2 p q k1 k2 (by omega) k4
 ·by_cases kp : p < t * (s * c)
  ·rw [h2.out p (.inl kp)]
   exact h.own1 p k1 kp
  obtain ⟨q, m1, m2, e1⟩ := h2.from_ p (by omega) (by omega)
  rw [e1]
  have e2 := h.own2 q (by omega) m1
  have e3 : R q / (s * c) = q / (s * c) := by rw [← Nat.div_div_eq_div_mul, ← Nat.div_div_eq_div_mul, e2]
  have := hi q m1
  have := up q (by omega)
  have := hi p (by omega)
  have := up p (by omega)
  omega
 rw [out p k1 k2]
 exact h.own2 p k1 (by omega)
theorem BS.runs {K : Nat → List Int} {s n a e : Nat} {R : Nat → Nat} (h : BS K s 2 n a R) (hs : 0 < s) (ht : a % (s * 2) = 0) (hm : a + s < e) (he : e ≤ a + s * 2) (hen : e ≤ n) : Srt' K R a (a + s) ∧ Srt' K R (a + s) e ∧ Low R a (a + s) e := by
 obtain ⟨t, rfl⟩ : ∃ t, a = t * 2 * s := by
  refine ⟨a / (s * 2), ?_⟩
  have h0 := Nat.div_add_mod a (s * 2)
  rw [ht, Nat.add_zero] at h0
  generalize a / (s * 2) = z at *
  rw [← h0, Nat.mul_assoc s 2 z, Nat.mul_comm s]
  rw [Nat.mul_comm 2 z]
 have lo : ∀ p, t * 2 * s ≤ p → p < t * 2 * s + s → p / s = t * 2 := fun p h1 h2 => by
  have := (Nat.div_lt_iff_lt_mul hs (x := p) (y := t * 2 + 1)).2 (by rw [Nat.add_mul]; omega)
  have := (Nat.le_div_iff_mul_le hs (x := t * 2) (y := p)).2 h1
  omega
 have hi : ∀ p, t * 2 * s + s ≤ p → p < t * 2 * s + s * 2 → p / s = t * 2 + 1 := fun p h1 h2 => by
  have := (Nat.div_lt_iff_lt_mul hs (x := p) (y := t * 2 + 2)).2 (by rw [Nat.add_mul]; omega)
  have := (Nat.le_div_iff_mul_le hs (x := t * 2 + 1) (y := p)).2 (by rw [Nat.add_mul]; omega)
  omega
 refine ⟨fun p q h1 h2 h3 => h.srt2 p q h2 (by omega) h1 (by rw [lo p h1 (by omega), lo q (by omega) h3]), fun p q h1 h2 h3 => h.srt2 p q h2 (by omega) (by omega) (by rw [hi p h1 (by omega), hi q (by omega) (by omega)]), fun p q h1 h2 h3 h4 => ?_⟩
 have e1 := h.own2 p (by omega) h1
 have e2 := h.own2 q (by omega) (by omega)
 rw [lo p h1 h2] at e1
 rw [hi q h3 (by omega)] at e2
 rcases Nat.lt_or_ge (R p) (R q) with k | k
 ·exact k
 have := Nat.div_le_div_right (c := s) k
 omega
theorem stable_list {K : Nat → List Int} {n : Nat} {R : Nat → Nat} (h : Srt' K R 0 n) (hp : Prm 0 n (fun p => p) R) :
  ((List.range n).map R).Perm (List.range n) ∧ ((List.range n).map R).Pairwise fun i j => K i < K j ∨ K i = K j ∧ i < j := by
 have hpw : ((List.range n).map R).Pairwise fun i j => K i < K j ∨ K i = K j ∧ i < j := by
  rw [List.pairwise_map]
  refine List.Pairwise.imp_of_mem (fun {p q} _ hq hpq => ?_) (List.pairwise_lt_range (n := n))
  exact h p q (Nat.zero_le _) hpq (by simpa using hq)
 refine ⟨?_, hpw⟩
 have nd : ((List.range n).map R).Nodup := hpw.imp fun {i j} hij e => by
  subst e
  rcases hij with hij | hij
  ·exact List.lt_irrefl _ hij
  omega
 rw [List.perm_ext_iff_of_nodup nd List.nodup_range]
 intro x
 rw [List.mem_map, List.mem_range]
 constructor
 ·rintro ⟨p, hp', rfl⟩
  obtain ⟨q, _, hq, e⟩ := hp.from_ p (Nat.zero_le _) (by simpa using hp')
  rw [e]; exact hq
 intro hx
 obtain ⟨p, _, hp', e⟩ := hp.fwd x (Nat.zero_le _) hx
 exact ⟨p, by simpa using hp', e⟩
end Go.Firn.Tb
/-
 DERIVED: THE SHELF's CONTRACTS AT THIS DUMP, IN PLAIN WORDS (tools/lay-plain.mjs out of 'YtehdemcfeoiecaaGreatDoorShelf.lean', which tools/lay-shelf.mjs wrote): THE SAME DECLARATIONS UNDER THE SAME NAMES: 'import', 'namespace', 'open', 'def', 'theorem' AND NOTHING ELSE: no command of the shelf's: FOR A HAND-IN. Each laying: the table of numbers ('.._ren') and one theorem, a field a fact of the dump's own or the kernel's comparison; each contract: ONE APPLICATION.
-/
namespace Go.Proofs
open Go.Shelf
def Tryz.trim_ren : Go.Shelf.Ren := ⟨fun | 160 => 128 | 232 => 161 | 231 => 160 | 227 => 162 | 234 => 164 | 233 => 163 | 236 => 166 | 235 => 165 | 228 => 197 | 271 => 199 | 151 => 198 | 197 => 152 | 120 => 234 | 152 => 233 | 260 => 185 | 137 => 253 | 119 => 254 | 224 => 195 | 225 => 194 | 217 => 193 | 266 => 231 | n => n, fun | 9 => 9 | 4 => 4 | 3 => 3 | 5 => 5 | 117 => 202 | 116 => 201 | 0 => 0 | 124 => 205 | 21 => 21 | 105 => 196 | 46 => 219 | 119 => 253 | 139 => 256 | 138 => 255 | n => n, fun | 3 => 1 | 4 => 2 | n => n⟩
theorem Tryz.trim : Go.Proofs.Lays.n160 Tryz.prog Tryz.trim_ren := {
 mixed := by kernel_rfl
 f119 := Tryz.func254.trans (congrArg some (by kernel_rfl))
 f120 := Tryz.func234.trans (congrArg some (by kernel_rfl))
 f137 := Tryz.func253.trans (congrArg some (by kernel_rfl))
 f151 := Tryz.func198.trans (congrArg some (by kernel_rfl))
 f152 := Tryz.func233.trans (congrArg some (by kernel_rfl))
 f160 := Tryz.func128.trans (congrArg some (by kernel_rfl))
 f197 := Tryz.func152.trans (congrArg some (by kernel_rfl))
 f217 := Tryz.func193.trans (congrArg some (by kernel_rfl))
 f224 := Tryz.func195.trans (congrArg some (by kernel_rfl))
 f225 := Tryz.func194.trans (congrArg some (by kernel_rfl))
 f227 := Tryz.func162.trans (congrArg some (by kernel_rfl))
 f228 := Tryz.func197.trans (congrArg some (by kernel_rfl))
 f231 := Tryz.func160.trans (congrArg some (by kernel_rfl))
 f232 := Tryz.func161.trans (congrArg some (by kernel_rfl))
 f233 := Tryz.func163.trans (congrArg some (by kernel_rfl))
 f234 := Tryz.func164.trans (congrArg some (by kernel_rfl))
 f235 := Tryz.func165.trans (congrArg some (by kernel_rfl))
 f236 := Tryz.func166.trans (congrArg some (by kernel_rfl))
 f260 := Tryz.func185.trans (congrArg some (by kernel_rfl))
 f266 := Tryz.func231.trans (congrArg some (by kernel_rfl))
 f271 := Tryz.func199.trans (congrArg some (by kernel_rfl))
 t0 := Tryz.underlying0
 a0 := Tryz.isAgg0
 z0 := Tryz.sizeOf0
 v0 := Tryz.zeroValue0
 t3 := Tryz.underlying3
 a3 := Tryz.isAgg3
 z3 := Tryz.sizeOf3
 v3 := Tryz.zeroValue3
 t4 := Tryz.underlying4
 a4 := Tryz.isAgg4
 z4 := Tryz.sizeOf4
 v4 := Tryz.zeroValue4
 t5 := Tryz.underlying5
 a5 := Tryz.isAgg5
 z5 := Tryz.sizeOf5
 v5 := Tryz.zeroValue5
 t9 := Tryz.underlying9
 a9 := Tryz.isAgg9
 z9 := Tryz.sizeOf9
 v9 := Tryz.zeroValue9
 t21 := Tryz.underlying21
 a21 := Tryz.isAgg21
 z21 := Tryz.sizeOf21
 v21 := Tryz.zeroValue21
 t46 := Tryz.underlying219
 a46 := Tryz.isAgg219
 z46 := Tryz.sizeOf219
 v46 := Tryz.zeroValue219
 t105 := Tryz.underlying196
 a105 := Tryz.isAgg196
 z105 := Tryz.sizeOf196
 v105 := Tryz.zeroValue196
 t116 := Tryz.underlying201
 a116 := Tryz.isAgg201
 z116 := Tryz.sizeOf201
 t117 := Tryz.underlying202
 a117 := Tryz.isAgg202
 z117 := Tryz.sizeOf202
 v117 := Tryz.zeroValue202
 t119 := Tryz.underlying253
 a119 := Tryz.isAgg253
 z119 := Tryz.sizeOf253
 t124 := Tryz.underlying205
 a124 := Tryz.isAgg205
 z124 := Tryz.sizeOf205
 v124 := Tryz.zeroValue205
 t138 := Tryz.underlying255
 a138 := Tryz.isAgg255
 z138 := Tryz.sizeOf255
 v138 := Tryz.zeroValue255
 t139 := Tryz.underlying256
 a139 := Tryz.isAgg256
 z139 := Tryz.sizeOf256
 v139 := Tryz.zeroValue256
 g3 := by kernel_rfl
 g4 := by kernel_rfl }
def Tryz.min114_ren : Go.Shelf.Ren := ⟨fun | 114 => 77 | n => n, fun | 28 => 23 | 3 => 3 | 4 => 4 | 9 => 9 | 20 => 20 | 0 => 0 | n => n, fun | n => n⟩
theorem Tryz.min114 : Go.Proofs.Lays.n114 Tryz.prog Tryz.min114_ren := {
 mixed := by kernel_rfl
 f114 := Tryz.func77.trans (congrArg some (by kernel_rfl))
 t0 := Tryz.underlying0
 a0 := Tryz.isAgg0
 z0 := Tryz.sizeOf0
 v0 := Tryz.zeroValue0
 t3 := Tryz.underlying3
 a3 := Tryz.isAgg3
 z3 := Tryz.sizeOf3
 v3 := Tryz.zeroValue3
 t4 := Tryz.underlying4
 a4 := Tryz.isAgg4
 z4 := Tryz.sizeOf4
 v4 := Tryz.zeroValue4
 t9 := Tryz.underlying9
 a9 := Tryz.isAgg9
 z9 := Tryz.sizeOf9
 v9 := Tryz.zeroValue9
 t20 := Tryz.underlying20
 a20 := Tryz.isAgg20
 z20 := Tryz.sizeOf20
 v20 := Tryz.zeroValue20
 t28 := Tryz.underlying23
 a28 := Tryz.isAgg23
 z28 := Tryz.sizeOf23
 v28 := Tryz.zeroValue23 }
def Tryz.cont8_ren : Go.Shelf.Ren := ⟨fun | 8 => 75 | 6 => 105 | n => n, fun | 22 => 23 | 23 => 3 | 25 => 61 | 4 => 4 | 3 => 3 | 0 => 0 | n => n, fun | n => n⟩
theorem Tryz.cont8 : Go.Proofs.SlLaysH.n8 Tryz.prog Tryz.cont8_ren := {
 mixed := by kernel_rfl
 f6 := ⟨Tryz.f105.name, by decide, Tryz.func105.trans (congrArg some (by kernel_rfl))⟩
 f8 := ⟨Tryz.f75.name, by decide, Tryz.func75.trans (congrArg some (by kernel_rfl))⟩
 t0 := Tryz.underlying0
 a0 := Tryz.isAgg0
 z0 := Tryz.sizeOf0
 v0 := Tryz.zeroValue0
 t3 := Tryz.underlying3
 a3 := Tryz.isAgg3
 z3 := Tryz.sizeOf3
 v3 := Tryz.zeroValue3
 t4 := Tryz.underlying4
 a4 := Tryz.isAgg4
 z4 := Tryz.sizeOf4
 v4 := Tryz.zeroValue4
 t22 := Tryz.underlying23
 a22 := Tryz.isAgg23
 z22 := Tryz.sizeOf23
 v22 := Tryz.zeroValue23
 a23 := Tryz.isAgg3
 z23 := Tryz.sizeOf3
 t25 := Tryz.underlying61
 a25 := Tryz.isAgg61
 z25 := Tryz.sizeOf61
 v25 := Tryz.zeroValue61 }
end Go.Proofs
namespace Go.Proofs.YtehdemcfeoiecaaGreatDoor
open Go.RowKit Go.Firn Go.Shelf
def RetQ (b : Bool) (w : World) (e : Ending) (w' : World) : Prop := e = .returned (.bool b) ∧ ∃ m, w' = w.drewN m
theorem RetQ.b {b : Bool} {w w' : World} {e : Ending} (h : RetQ b w e w') : RetB b w e w' := by
 obtain ⟨h1, m, rfl⟩ := h
 exact ⟨h1, (Gr.refl w).drewN m⟩
theorem drewN_more {w w' : World} (h : ∃ m, w' = w.drewN m) (k : Nat) : ∃ m, w'.drewN k = w.drewN m := by
 obtain ⟨m, rfl⟩ := h
 exact ⟨m + k, by simp [World.drewN, Nat.add_assoc]⟩
theorem between_any (a n b : Int) (w : World) :
  Calls Tryz.prog 56 #[.int .i64 a, .int .i64 n, .int .i64 b] w fun e w' => e = .returned (.bool (btw a n b)) ∧ w' = w := by
 by_cases h1 : a ≤ n
 ·have e : btw a n b = decide (n ≤ b) := by simp [btw, h1]
  go_enter Tryz.func56, Tryz.ntmps56
  go_wp2
  go_ret
  simp [e]
 have e : btw a n b = false := by simp [btw, h1]
 have e' := Lh e; clear e
 go_enter Tryz.func56, Tryz.ntmps56
 go_wp2
 go_ret
 simp [e'.out]
theorem isNaN8_any (x : Int) (w : World) : Calls Tryz.prog 200 #[.int .u8 x] w fun e w' => e = .returned (.bool false) ∧ w' = w := by
 go_enter Tryz.func200, Tryz.ntmps200
 go_wp2
 go_ret
 exact ⟨rfl, rfl⟩
theorem Less8_any (x y : Int) (w : World) : Calls Tryz.prog 167 #[.int .u8 x, .int .u8 y] w fun e w' => e = .returned (.bool (decide (x < y))) ∧ w' = w := by
 go_enter Tryz.func167, Tryz.ntmps167
 go_wp2_with (go_at_call 200; refine (isNaN8_any _ _).mono ?_; rintro e w1 ⟨rfl, rfl⟩)
 go_ret
 simp
theorem isTokens_any (s : ByteArray) (hs : s.size ≤ 9223372036854775807) (w : World) : Calls Tryz.prog 94 #[.string s] w (RetQ (isTk s) w) := by
 go_enter Tryz.func94, Tryz.ntmps94
 go_wp2
 go_loopw [6] (fun si wr => ∃ k : Nat, k ≤ s.size ∧ si = .int .i64 k ∧ Hid (tkK s k = true) ∧ Hid (∃ d, wr = w.drewN d)) (fun si _ => s.size - (intOf si).toNat)
 case atStart => exact ⟨0, Nat.zero_le _, rfl, tkK_zero s, 0, rfl⟩
 case round =>
  obtain ⟨k, hk, rfl, hK, hd⟩ := hrel
  by_cases hlt : k < s.size
  ·have i1 : (k : Int) < (s.size : Int) := by omega
   have l1 := bt_get hlt
   have B := Lh (bt_lt s k)
   by_cases h1 : bt s k < 97
   ·have E := Lh (show isTk s = false by unfold isTk; rw [tkK_stop hlt (by unfold tkAt; rw [decide_eq_false (show ¬ 97 ≤ bt s k by omega)]; rfl)]; rfl)
    generalize bt s k = x at *
    have c1 : decide ((x : Int) < 97) = true := by simp; omega
    clear h1
    go_wp2_with fail
    go_quiet (fail)
    go_wp2_with fail
    go_ret
    rw [E.out]
    exact ⟨rfl, drewN_more hd.out _⟩
   by_cases h2 : 105 ≤ bt s k
   ·have E := Lh (show isTk s = false by unfold isTk; rw [tkK_stop hlt (by unfold tkAt; rw [decide_eq_false (show ¬ bt s k ≤ 104 by omega)]; simp)]; rfl)
    generalize bt s k = x at *
    have c1 : decide ((x : Int) < 97) = false := by simp; omega
    have c2 : decide ((105 : Int) ≤ (x : Int)) = true := by simp; omega
    clear h1 h2
    go_wp2_with fail
    go_quiet (fail)
    go_wp2_with fail
    go_ret
    rw [E.out]
    exact ⟨rfl, drewN_more hd.out _⟩
   by_cases h3 : k = 0
   ·have K1 := Lh (show tkK s (k + 1) = true by rw [tkK_succ, hK.out]; unfold tkAt; rw [decide_eq_true (show 97 ≤ bt s k by omega), decide_eq_true (show bt s k ≤ 104 by omega), decide_eq_true h3]; rfl)
    subst h3
    have k0 : decide ((0 : Int) < ((0 : Nat) : Int)) = false := by decide
    generalize bt s 0 = x at *
    have c1 : decide ((x : Int) < 97) = false := by simp; omega
    have c2 : decide ((105 : Int) ≤ (x : Int)) = false := by simp; omega
    clear h1 h2
    go_wp2_with fail
    go_quiet (fail)
    go_wp2_with fail
    go_roundw
    case rel => exact ⟨0 + 1, hlt, by go_num, K1, drewN_more hd.out _⟩
    case measure => simp [intOf]; omega
   obtain ⟨j, hj⟩ : ∃ j, k = j + 1 := ⟨k - 1, by omega⟩
   have hjl : j < s.size := by omega
   have l2 := bt_get hjl
   have q1 : (k : Int) - 1 = (j : Int) := by omega
   have q2 : IntKind.i64.wrap ((k : Int) - 1) = (j : Int) := by rw [q1]; exact IntWalk.i64_in _ (by omega)
   have k0n : 0 < k := by omega
   by_cases h4 : bt s k < bt s j
   ·have E := Lh (show isTk s = false by
     unfold isTk
     rw [tkK_stop hlt (by unfold tkAt; rw [decide_eq_false h3, show k - 1 = j by omega, decide_eq_false (show ¬ bt s j ≤ bt s k by omega)]; simp)]
     rfl)
    clear hj
    generalize bt s k = x at *
    generalize bt s j = y at *
    have c1 : decide ((x : Int) < 97) = false := by simp; omega
    have c2 : decide ((105 : Int) ≤ (x : Int)) = false := by simp; omega
    clear h1 h2
    go_wp2_with fail
    go_quiet (fail)
    go_wp2_with fail
    go_ret
    rw [E.out]
    exact ⟨rfl, drewN_more hd.out _⟩
   have K1 := Lh (show tkK s (k + 1) = true by rw [tkK_succ, hK.out]; unfold tkAt; rw [decide_eq_true (show 97 ≤ bt s k by omega), decide_eq_true (show bt s k ≤ 104 by omega), show k - 1 = j by omega, decide_eq_true (show bt s j ≤ bt s k by omega)]; simp)
   clear hj
   generalize bt s k = x at *
   generalize bt s j = y at *
   have c1 : decide ((x : Int) < 97) = false := by simp; omega
   have c2 : decide ((105 : Int) ≤ (x : Int)) = false := by simp; omega
   clear h1 h2
   go_wp2_with fail
   go_quiet (fail)
   go_wp2_with fail
   go_roundw
   case rel => exact ⟨k + 1, hlt, by go_num, K1, drewN_more hd.out _⟩
   case measure => simp [intOf]; omega
  obtain rfl : k = s.size := by omega
  have i1 : ¬ (s.size : Int) < (s.size : Int) := by omega
  have E := Lh (show isTk s = decide ((s.size : Int) ≤ 12) by unfold isTk; rw [hK.out, Bool.true_and]; congr 1; apply propext; omega)
  go_wp2_with fail
  go_ret
  rw [E.out]
  exact ⟨rfl, hd.out⟩
def srtB (s : ByteArray) : Bool := (List.range (s.size - 1)).all fun i => decide (bt s i ≤ bt s (i + 1))
theorem IsSorted_any (s : ByteArray) (b cp : Nat) (hs : s.size ≤ 9223372036854775807) (w : World) (hc : ∀ j, j < s.size → w.cell? ⟨b, j, none⟩ = some (.int .u8 (bt s j : Nat))) :
  Calls Tryz.prog 129 #[.slice (some ⟨b, 0, none⟩) s.size cp] w (RetQ (srtB s) w) := by
 have HC := Lh hc
 have w1 : IntKind.i64.wrap ((s.size : Int) - 1) = (s.size : Int) - 1 := IntWalk.i64_in _ (by omega)
 clear hc
 go_enter Tryz.func129, Tryz.ntmps129
 go_wp2
 go_loopw [3] (fun si wr => ∃ k : Nat, (k ≤ s.size - 1 ∧ (si = .int .i64 k ∨ (s.size = 0 ∧ si = .int .i64 (-1)))) ∧ Hid (∀ i, k ≤ i → i < s.size - 1 → bt s i ≤ bt s (i + 1)) ∧ Hid (∃ d, wr = w.drewN d)) (fun si _ => (intOf si).toNat)
 case atStart =>
  refine ⟨s.size - 1, ⟨Nat.le_refl _, ?_⟩, Lh (fun i h1 h2 => by omega), Lh ⟨0, rfl⟩⟩
  by_cases h : s.size = 0
  ·right; exact ⟨h, by rw [h]; rfl⟩
  left; exact congrArg (Value.int .i64) (by omega)
 case round =>
  obtain ⟨k, ⟨hk, hv⟩, hK, hd⟩ := hrel
  rcases hv with rfl | ⟨h0, rfl⟩
  ·by_cases h1 : k = 0
   ·subst h1
    have E := Lh (show srtB s = true by unfold srtB; rw [List.all_eq_true]; intro i hi; simpa using hK.out i (Nat.zero_le _) (by simpa using hi))
    go_wp2_with fail
    go_ret
    rw [E.out]
    exact ⟨rfl, hd.out⟩
   obtain ⟨j, hj⟩ : ∃ j, k = j + 1 := ⟨k - 1, by omega⟩
   have ck := HC.out k (by omega)
   have cj := HC.out j (by omega)
   have q1 : (k : Int) - 1 = (j : Int) := by omega
   have q2 : IntKind.i64.wrap ((k : Int) - 1) = (j : Int) := by rw [q1]; exact IntWalk.i64_in _ (by omega)
   have k0 : (0 : Int) < (k : Int) := by omega
   have k1 : (k : Int) < (s.size : Int) := by omega
   have k2 : (j : Int) < (s.size : Int) := by omega
   have cj' : wr.cell? ⟨b, j, none⟩ = some (.int .u8 (bt s j : Nat)) := by obtain ⟨d, rfl⟩ := hd.out; exact cj
   have ck' : wr.cell? ⟨b, k, none⟩ = some (.int .u8 (bt s k : Nat)) := by obtain ⟨d, rfl⟩ := hd.out; exact ck
   have C := Lh (fun w1 => Less8_any ((bt s k : Nat) : Int) ((bt s j : Nat) : Int) w1)
   clear ck cj
   by_cases h4 : bt s k < bt s j
   ·have E := Lh (show srtB s = false by
     unfold srtB
     rw [List.all_eq_false]
     exact ⟨j, by simp; omega, by rw [← hj]; simp; omega⟩)
    have c3 : decide (((bt s k : Nat) : Int) < ((bt s j : Nat) : Int)) = true := by simpa using h4
    rw [c3] at C
    clear c3 h4 hj
    generalize bt s k = x at *
    generalize bt s j = y at *
    go_wp2_with fail
    go_quiet ((go_at_call 167; with_reducible exact Calls.quiet_of_same (C.out _)))
    go_wp2_with fail
    go_ret
    rw [E.out]
    exact ⟨rfl, drewN_more hd.out _⟩
   have K1 := Lh (show ∀ i, j ≤ i → i < s.size - 1 → bt s i ≤ bt s (i + 1) from fun i h1 h2 => by
    by_cases e : i = j
    ·subst e; rw [← hj]; omega
    exact hK.out i (by omega) h2)
   have c3 : decide (((bt s k : Nat) : Int) < ((bt s j : Nat) : Int)) = false := by simp; omega
   have jk : j ≤ s.size - 1 := by omega
   have jl : j < k := by omega
   rw [c3] at C
   clear c3 h4 hj
   generalize bt s k = x at *
   generalize bt s j = y at *
   go_wp2_with fail
   go_quiet ((go_at_call 167; with_reducible exact Calls.quiet_of_same (C.out _)))
   go_wp2_with fail
   go_roundw
   case rel => exact ⟨j, ⟨jk, .inl rfl⟩, K1, drewN_more hd.out _⟩
   case measure => simp [intOf]; omega
  have E := Lh (show srtB s = true by unfold srtB; rw [h0]; rfl)
  go_wp2_with fail
  go_ret
  rw [E.out]
  exact ⟨rfl, hd.out⟩
def tokB : ByteArray := ⟨#[97, 98, 99, 100, 101, 102, 103, 104]⟩
theorem tok_has (b : UInt8) : tokB.data.toList.contains b = (decide (97 ≤ b.toNat) && decide (b.toNat ≤ 104)) := by
 rw [Bool.eq_iff_iff]
 simp only [tokB, List.contains_iff_mem, List.mem_cons, List.not_mem_nil, or_false, Bool.and_eq_true, decide_eq_true_eq]
 constructor
 ·rintro (rfl | rfl | rfl | rfl | rfl | rfl | rfl | rfl) <;> decide
 rintro ⟨h1, h2⟩
 have : b.toNat = 97 ∨ b.toNat = 98 ∨ b.toNat = 99 ∨ b.toNat = 100 ∨ b.toNat = 101 ∨ b.toNat = 102 ∨ b.toNat = 103 ∨ b.toNat = 104 := by omega
 have e : ∀ c : UInt8, b.toNat = c.toNat → b = c := fun c h => UInt8.toNat_inj.1 h
 rcases this with h | h | h | h | h | h | h | h
 ·exact .inl (e 97 h)
 ·exact .inr (.inl (e 98 h))
 ·exact .inr (.inr (.inl (e 99 h)))
 ·exact .inr (.inr (.inr (.inl (e 100 h))))
 ·exact .inr (.inr (.inr (.inr (.inl (e 101 h)))))
 ·exact .inr (.inr (.inr (.inr (.inr (.inl (e 102 h))))))
 ·exact .inr (.inr (.inr (.inr (.inr (.inr (.inl (e 103 h)))))))
 exact .inr (.inr (.inr (.inr (.inr (.inr (.inr (e 104 h)))))))
theorem trim_all (l cs : List UInt8) : Lib.trimS l cs = [] ↔ ∀ b ∈ l, cs.contains b = true := by
 unfold Lib.trimS Lib.trimLeftS Lib.trimRightS
 constructor
 ·intro h b hb
  by_cases hc : cs.contains b = true
  ·exact hc
  exfalso
  have key : ∀ l : List UInt8, b ∈ l → b ∈ l.dropWhile (fun x => cs.contains x) := by
   intro l
   induction l with
   | nil => intro h; cases h
   | cons x l ih =>
    intro h
    rw [List.dropWhile_cons]
    split
    ·rename_i hx
     rcases List.mem_cons.1 h with e | h
     ·subst e; exact absurd hx hc
     exact ih h
    exact h
  have h1 := key _ (List.mem_reverse.2 (key _ (List.mem_reverse.2 hb)))
  rw [h] at h1
  cases h1
 intro h
 have key : ∀ l : List UInt8, (∀ b ∈ l, cs.contains b = true) → l.dropWhile (fun x => cs.contains x) = [] := by
  intro l
  induction l with
  | nil => intro _; rfl
  | cons x l ih =>
   intro h
   rw [List.dropWhile_cons, if_pos (h x (List.mem_cons_self))]
   exact ih fun b hb => h b (List.mem_cons_of_mem _ hb)
 rw [key l.reverse (fun b hb => h b (List.mem_reverse.1 hb))]
 rfl
end Go.Proofs.YtehdemcfeoiecaaGreatDoor
namespace Go.Proofs.YtehdemcfeoiecaaGreatDoor
open Go.RowKit Go.Firn Go.Firn.Tb
theorem lt_at : ∀ {i : Nat} {L M : List Int}, (∀ k, k < i → iv L k = iv M k) → i < L.length → i < M.length → iv L i < iv M i → L < M
 | 0, x :: r, y :: s, _, _, _, h => List.cons_lt_cons_iff.2 (.inl h)
 | i + 1, x :: r, y :: s, h, h1, h2, h3 => List.cons_lt_cons_iff.2 (.inr ⟨h 0 (by omega), lt_at (fun k hk => h (k + 1) (by omega)) (by simpa using h1) (by simpa using h2) h3⟩)
theorem lt_pre : ∀ {L M : List Int}, (∀ k, k < M.length → iv L k = iv M k) → M.length < L.length → M < L
 | x :: r, [], _, _ => by simp
 | x :: r, y :: s, h, h1 => List.cons_lt_cons_iff.2 (.inr ⟨(h 0 (by simp)).symm, lt_pre (fun k hk => h (k + 1) (by simpa using hk)) (by simpa using h1)⟩)
theorem cmp_lt {L M : List Int} (h : L < M) : cmpI L M = -1 := by unfold cmpI; rw [if_pos h]
theorem cmp_gt {L M : List Int} (h : M < L) : cmpI L M = 1 := by unfold cmpI; rw [if_neg (List.lt_asymm h), if_pos h]
theorem cmp_eq {L : List Int} : cmpI L L = 0 := cmpI_zero.2 rfl
def RetZ (z : Int) (w : World) (e : Ending) (w' : World) : Prop := e = .returned (.int .i64 z) ∧ Gr w w'
def cmpZ (x y : Int) : Int := if x < y then -1 else if y < x then 1 else 0
theorem isNaN_any (x : Int) (w : World) : Calls Tryz.prog 158 #[.int .i64 x] w fun e w' => e = .returned (.bool false) ∧ w = w' := by
 go_enter Tryz.func158, Tryz.ntmps158
 go_wp2_with fail
 go_ret
 exact ⟨by simp, rfl⟩
theorem cmpc_any (x y : Int) (w : World) : Calls Tryz.prog 125 #[.int .i64 x, .int .i64 y] w fun e w' => e = .returned (.int .i64 (cmpZ x y)) ∧ w = w' := by
 have C1 := Lh (isNaN_any x)
 have C2 := Lh (isNaN_any y)
 unfold cmpZ
 by_cases h : x < y
 ·rw [if_pos h]
  go_enter Tryz.func125, Tryz.ntmps125
  go_wp2_with (first
   | (go_at_call 158; (with_reducible refine (C1.out _).mono ?_); rintro e w1 ⟨rfl, rfl⟩)
   | (go_at_call 158; (with_reducible refine (C2.out _).mono ?_); rintro e w1 ⟨rfl, rfl⟩))
  go_ret
  exact ⟨rfl, rfl⟩
 rw [if_neg h]
 by_cases k : y < x
 ·rw [if_pos k]
  go_enter Tryz.func125, Tryz.ntmps125
  go_wp2_with (first
   | (go_at_call 158; (with_reducible refine (C1.out _).mono ?_); rintro e w1 ⟨rfl, rfl⟩)
   | (go_at_call 158; (with_reducible refine (C2.out _).mono ?_); rintro e w1 ⟨rfl, rfl⟩))
  go_ret
  exact ⟨rfl, rfl⟩
 rw [if_neg k]
 go_enter Tryz.func125, Tryz.ntmps125
 go_wp2_with (first
  | (go_at_call 158; (with_reducible refine (C1.out _).mono ?_); rintro e w1 ⟨rfl, rfl⟩)
  | (go_at_call 158; (with_reducible refine (C2.out _).mono ?_); rintro e w1 ⟨rfl, rfl⟩))
 go_ret
 exact ⟨rfl, rfl⟩
theorem Compare_any (a a' : Option Addr) (n n' c c' : Nat) (L M : List Int) (w : World) (h1 : Rd3 w a n c L) (h2 : Rd3 w a' n' c' M) : Calls Tryz.prog 91 #[.slice a n c, .slice a' n' c'] w (RetZ (cmpI L M) w) := by
 have H1 := Lh h1
 have H2 := Lh h2
 have C := Lh cmpc_any
 clear h1 h2
 go_enter Tryz.func91, Tryz.ntmps91
 go_wp2_with fail
 go_loopw [11] (fun s wr => ∃ i : Nat, s = .int .i64 i ∧ wr = w ∧ Hid (i ≤ n ∧ i ≤ n') ∧ Hid (∀ k, k < i → iv L k = iv M k)) (fun s _ => n - (intOf s).toNat)
 case atStart => exact ⟨0, rfl, rfl, Lh (by omega), Lh (fun k hk => by omega)⟩
 case round =>
  obtain ⟨i, rfl, hw, Hi, HE⟩ := hrel
  subst hw
  have hn := H1.out.1
  have hn' := H2.out.1
  have hi := Hi.out
  have hm := H1.out.2.1
  have hm2 := H1.out.2.2.1
  by_cases hlt : i < n
  ·have i1 : (i : Int) < (n : Int) := by omega
   obtain ⟨b, o, rfl, hc⟩ := H1.out.2.2.2.2.at hlt
   have z1 := hc i hlt
   by_cases hlt' : i < n'
   ·have i2 : (i : Int) < (n' : Int) := by omega
    have i3 : ¬ (n' : Int) ≤ (i : Int) := by omega
    obtain ⟨b', o', rfl, hc'⟩ := H2.out.2.2.2.2.at hlt'
    have z2 := hc' i hlt'
    have HC := Lh (C.out (iv L i) (iv M i))
    have HX := Lh (show (iv L i < iv M i → cmpI L M = -1) ∧ (iv M i < iv L i → cmpI L M = 1) ∧ (¬ iv L i < iv M i → ¬ iv M i < iv L i → iv L i = iv M i) from ⟨fun h => cmp_lt (lt_at HE.out (by omega) (by omega) h), fun h => cmp_gt (lt_at (fun k hk => (HE.out k hk).symm) (by omega) (by omega) h), fun h k => by omega⟩)
    generalize hx : iv L i = x at *
    generalize hy : iv M i = y at *
    have HXY := Lh (And.intro hx hy)
    have HL := Lh (And.intro hlt hlt')
    have HM := Lh (And.intro hm hm2)
    clear hc hc' hx hy hn hn' hi hlt hlt' hm hm2
    unfold cmpZ at HC
    by_cases h : x < y
    ·rw [if_pos h] at HC
     have hz := HX.out.1 h
     rw [hz]
     clear h hz
     go_wp2_with (go_at_call 125; (with_reducible refine (HC.out _).mono ?_); rintro e w1 ⟨rfl, rfl⟩)
     go_ret
     exact ⟨rfl, Gr.refl _⟩
    by_cases k : y < x
    ·rw [if_neg h, if_pos k] at HC
     have hz := HX.out.2.1 k
     rw [hz]
     clear h k hz
     go_wp2_with (go_at_call 125; (with_reducible refine (HC.out _).mono ?_); rintro e w1 ⟨rfl, rfl⟩)
     go_ret
     exact ⟨rfl, Gr.refl _⟩
    rw [if_neg h, if_neg k] at HC
    have hz := Lh (HX.out.2.2 h k)
    clear h k
    go_wp2_with (go_at_call 125; (with_reducible refine (HC.out _).mono ?_); rintro e w1 ⟨rfl, rfl⟩)
    have hl := HL.out
    have hm := HM.out
    have e3 : wrap64 ((i : Int) + 1) = ((i + 1 : Nat) : Int) := by rw [IntWalk.wrap64_in _ (by omega)]; omega
    go_roundw
    case rel => exact ⟨i + 1, by first | (rw [e3]) | rfl | simp, by trivial, Lh (by clear e3; omega), Lh (fun k hk => by
     rcases Nat.lt_succ_iff_lt_or_eq.1 hk with q | rfl
     ·exact HE.out k q
     rw [HXY.out.1, HXY.out.2]; exact hz.out)⟩
    case measure => first | (rw [e3]; clear e3; simp only [intOf]; omega) | (clear e3; simp only [intOf]; omega)
   have i3 : (n' : Int) ≤ (i : Int) := by omega
   have hz : cmpI L M = 1 := cmp_gt (lt_pre (fun k hk => HE.out k (by omega)) (by omega))
   rw [hz]
   clear hc hz hn hn' hi hlt' hm hm2
   go_wp2_with fail
   go_ret
   exact ⟨rfl, Gr.refl _⟩
  have i1 : ¬ (i : Int) < (n : Int) := by omega
  by_cases hq : n < n'
  ·have q1 : (n : Int) < (n' : Int) := by omega
   have hz : cmpI L M = -1 := cmp_lt (lt_pre (fun k hk => (HE.out k (by omega)).symm) (by omega))
   rw [hz]
   clear hn hn' hi hlt hm hm2
   go_wp2_with fail
   go_ret
   exact ⟨rfl, Gr.refl _⟩
  have q1 : ¬ (n : Int) < (n' : Int) := by omega
  have hz : cmpI L M = 0 := cmpI_zero.2 (iv_ext (by omega) (fun k hk => HE.out k (by omega)))
  rw [hz]
  clear hn hn' hi hlt hm hm2
  go_wp2_with fail
  go_ret
  exact ⟨rfl, Gr.refl _⟩
theorem Equal_any (a a' : Option Addr) (n n' c c' : Nat) (L M : List Int) (w : World) (h1 : Rd3 w a n c L) (h2 : Rd3 w a' n' c' M) : Calls Tryz.prog 134 #[.slice a n c, .slice a' n' c'] w (RetB (decide (L = M)) w) := by
 have H1 := Lh h1
 have H2 := Lh h2
 have hn := h1.1
 have hn' := h2.1
 clear h1 h2
 by_cases he : n = n'
 ·have e0 : (n : Int) = (n' : Int) := by omega
  have HN := Lh (And.intro hn (And.intro hn' he))
  clear hn hn' he
  go_enter Tryz.func134, Tryz.ntmps134
  go_wp2_with fail
  go_loopw [13] (fun s wr => ∃ i : Nat, s = .int .i64 i ∧ Gr w wr ∧ Hid (i ≤ n) ∧ Hid (∀ k, k < i → iv L k = iv M k)) (fun s _ => n - (intOf s).toNat)
  case atStart => exact ⟨0, rfl, Gr.refl w, Lh (by omega), Lh (fun k hk => by omega)⟩
  case round =>
   obtain ⟨i, rfl, hg, Hi, HE⟩ := hrel
   have HG := Lh hg
   clear hg
   have hN := HN.out
   have hi := Hi.out
   have hm := H1.out.2.1
   have hm2 := H1.out.2.2.1
   by_cases hlt : i < n
   ·have i1 : (i : Int) < (n : Int) := by omega
    have i2 : (i : Int) < (n' : Int) := by omega
    obtain ⟨b, o, rfl, hc⟩ := (H1.out.2.2.2.2.gr HG.out).at hlt
    have z1 := hc i hlt
    obtain ⟨b', o', rfl, hc'⟩ := (H2.out.2.2.2.2.gr HG.out).at (show i < n' by omega)
    have z2 := hc' i (by omega)
    have HX := Lh (show iv L i ≠ iv M i → decide (L = M) = false from fun h => decide_eq_false (fun e => h (by rw [e])))
    have HS := Lh (show iv L i = iv M i → ∀ k, k < i + 1 → iv L k = iv M k from fun h k hk => by
     rcases Nat.lt_succ_iff_lt_or_eq.1 hk with q | rfl
     ·exact HE.out k q
     exact h)
    generalize iv L i = x at *
    generalize iv M i = y at *
    have HL := Lh hlt
    clear hc hc' hN hi hlt e0
    by_cases h : x = y
    ·subst h
     have HS2 := Lh (HS.out rfl)
     clear HX HS
     go_wp2_with fail
     go_quiet (fail)
     go_wp2_with fail
     have hl := HL.out
     have e3 : wrap64 ((i : Int) + 1) = ((i + 1 : Nat) : Int) := by rw [IntWalk.wrap64_in _ (by omega)]; omega
     go_roundw
     case rel => exact ⟨i + 1, by first | (rw [e3]) | rfl | simp, HG.out.drewN _, Lh (by clear e3; omega), HS2⟩
     case measure => first | (rw [e3]; clear e3; simp only [intOf]; omega) | (clear e3; simp only [intOf]; omega)
    have hd : decide (x = y) = false := decide_eq_false h
    rw [HX.out h]
    clear HX HS
    go_wp2_with fail
    go_quiet (fail)
    go_wp2_with fail
    go_ret
    exact ⟨rfl, HG.out.drewN _⟩
   have i1 : ¬ (i : Int) < (n : Int) := by omega
   have i2 : ¬ (i : Int) < (n' : Int) := by omega
   have hz : decide (L = M) = true := decide_eq_true (iv_ext (by omega) (fun k hk => HE.out k (by omega)))
   rw [hz]
   clear hN hi hlt hm hm2 e0
   go_wp2_with fail
   go_ret
   exact ⟨rfl, HG.out⟩
 have e0 : ¬ (n : Int) = (n' : Int) := by omega
 have hz : decide (L = M) = false := decide_eq_false (fun e => he (by rw [hn, hn', e]))
 rw [hz]
 clear hn hn' hz
 go_enter Tryz.func134, Tryz.ntmps134
 go_wp2_with fail
 go_ret
 exact ⟨rfl, Gr.refl w⟩
end Go.Proofs.YtehdemcfeoiecaaGreatDoor
