/- Sums as lists of keys with numbers: in order, added, multiplied. -/
import Derived.WalkKit
namespace Go.Proofs.YtehdemcfeoiecaaDoor

abbrev Key := List UInt8
abbrev SL := List (Key × Int)

theorem key_tri (a b : Key) : a < b ∨ a = b ∨ b < a := by
  by_cases h1 : a < b
  · exact .inl h1
  · by_cases h2 : b < a
    · exact .inr (.inr h2)
    · exact .inr (.inl (List.le_antisymm (List.not_lt.1 h2) (List.not_lt.1 h1)))
theorem key_irr (a : Key) : ¬ a < a := List.lt_irrefl a
theorem key_tr {a b c : Key} (h : a < b) (k : b < c) : a < c := List.lt_trans h k
theorem key_asymm {a b : Key} (h : a < b) : ¬ b < a := fun k => key_irr a (key_tr h k)
theorem key_ne {a b : Key} (h : a < b) : a ≠ b := fun e => by subst e; exact key_irr a h

/-- What a list of keys with numbers gives, summed over a weight of keys. -/
def tot (φ : Key → Int) : SL → Int
  | [] => 0
  | x :: r => x.2 * φ x.1 + tot φ r
def Srt (L : SL) : Prop := L.Pairwise fun a b => a.1 < b.1
def Pos (L : SL) : Prop := ∀ x ∈ L, 1 ≤ x.2
/-- A number is added at a key. -/
def putL (k : Key) (n : Int) : SL → SL
  | [] => [(k, n)]
  | x :: r => if x.1 < k then x :: putL k n r else if x.1 = k then (k, x.2 + n) :: r else (k, n) :: x :: r
/-- A number is laid at a key. -/
def setL (k : Key) (n : Int) : SL → SL
  | [] => [(k, n)]
  | x :: r => if x.1 < k then x :: setL k n r else if x.1 = k then (k, n) :: r else (k, n) :: x :: r
def atL (k : Key) : SL → Int
  | [] => 0
  | x :: r => if x.1 = k then x.2 else atL k r
def hasL (k : Key) (L : SL) : Bool := L.any fun x => x.1 == k

theorem tot_append (φ : Key → Int) : ∀ A B : SL, tot φ (A ++ B) = tot φ A + tot φ B
  | [], B => by simp [tot]
  | x :: r, B => by simp only [List.cons_append, tot, tot_append φ r B]; omega
theorem tot_add (φ ψ : Key → Int) : ∀ A : SL, tot (fun k => φ k + ψ k) A = tot φ A + tot ψ A
  | [] => rfl
  | x :: r => by simp only [tot, tot_add φ ψ r, Int.mul_add]; omega
theorem tot_mul (c : Int) (φ : Key → Int) : ∀ A : SL, tot (fun k => c * φ k) A = c * tot φ A
  | [] => by simp [tot]
  | x :: r => by simp only [tot, tot_mul c φ r, Int.mul_add]; rw [Int.mul_left_comm]
theorem tot_congr {φ ψ : Key → Int} : ∀ {A : SL}, (∀ x ∈ A, φ x.1 = ψ x.1) → tot φ A = tot ψ A
  | [], _ => rfl
  | x :: r, h => by simp only [tot, tot_congr (fun y hy => h y (List.mem_cons_of_mem _ hy)), h x List.mem_cons_self]
theorem tot_zero : ∀ A : SL, tot (fun _ => 0) A = 0
  | [] => rfl
  | x :: r => by simp [tot, tot_zero r]

theorem tot_put (φ : Key → Int) (k : Key) (n : Int) : ∀ L : SL, tot φ (putL k n L) = tot φ L + n * φ k
  | [] => by simp [putL, tot]
  | x :: r => by
    unfold putL
    by_cases h1 : x.1 < k
    · rw [if_pos h1]; simp only [tot, tot_put φ k n r]; omega
    · rw [if_neg h1]
      by_cases h2 : x.1 = k
      · rw [if_pos h2]; simp only [tot, Int.add_mul, h2]; omega
      · rw [if_neg h2]; simp only [tot]; omega
theorem mem_put {k : Key} {n : Int} : ∀ {L : SL} {y : Key × Int}, y ∈ putL k n L → y.1 = k ∨ y ∈ L
  | [], y, h => by simp [putL] at h; exact .inl (by rw [h])
  | x :: r, y, h => by
    unfold putL at h
    split at h
    · rcases List.mem_cons.1 h with e | h
      · exact .inr (by rw [e]; exact List.mem_cons_self)
      · rcases mem_put h with h | h
        · exact .inl h
        · exact .inr (List.mem_cons_of_mem _ h)
    · split at h
      · rcases List.mem_cons.1 h with e | h
        · exact .inl (by rw [e])
        · exact .inr (List.mem_cons_of_mem _ h)
      · rcases List.mem_cons.1 h with e | h
        · exact .inl (by rw [e])
        · exact .inr h
theorem Srt.put {k : Key} {n : Int} : ∀ {L : SL}, Srt L → Srt (putL k n L)
  | [], _ => by simp [putL, Srt]
  | x :: r, h => by
    obtain ⟨h1, h2⟩ := List.pairwise_cons.1 h
    unfold putL
    split
    · rename_i hk
      refine List.pairwise_cons.2 ⟨fun y hy => ?_, Srt.put h2⟩
      rcases mem_put hy with e | hy
      · rw [e]; exact hk
      · exact h1 y hy
    · split
      · rename_i hk
        refine List.pairwise_cons.2 ⟨fun y hy => ?_, h2⟩
        have := h1 y hy
        rw [hk] at this
        exact this
      · rename_i hk hn
        refine List.pairwise_cons.2 ⟨fun y hy => ?_, h⟩
        have hkx : k < x.1 := by rcases key_tri k x.1 with h | h | h; exact h; exact absurd h.symm hn; exact absurd h hk
        rcases List.mem_cons.1 hy with e | hy
        · rw [e]; exact hkx
        · exact key_tr hkx (h1 y hy)
theorem Pos.put {k : Key} {n : Int} (hn : 1 ≤ n) : ∀ {L : SL}, Pos L → Pos (putL k n L)
  | [], _ => by intro y hy; simp [putL] at hy; rw [hy]; exact hn
  | x :: r, h => by
    have hx := h x List.mem_cons_self
    have hr : Pos r := fun y hy => h y (List.mem_cons_of_mem _ hy)
    unfold putL
    split
    · intro y hy
      rcases List.mem_cons.1 hy with e | hy
      · rw [e]; exact hx
      · exact Pos.put hn hr y hy
    · split
      · intro y hy
        rcases List.mem_cons.1 hy with e | hy
        · rw [e]; show 1 ≤ x.2 + n; omega
        · exact hr y hy
      · intro y hy
        rcases List.mem_cons.1 hy with e | hy
        · rw [e]; exact hn
        · exact h y hy
theorem put_has {k : Key} {n : Int} : ∀ {L : SL}, ∃ y ∈ putL k n L, y.1 = k
  | [] => ⟨(k, n), by simp [putL], rfl⟩
  | x :: r => by
    unfold putL
    split
    · obtain ⟨y, h1, h2⟩ := put_has (k := k) (n := n) (L := r)
      exact ⟨y, List.mem_cons_of_mem _ h1, h2⟩
    · split
      · exact ⟨_, List.mem_cons_self, rfl⟩
      · exact ⟨_, List.mem_cons_self, rfl⟩
/-- What stood is there, and not less. -/
theorem put_keeps {k : Key} {n : Int} (hn : 1 ≤ n) : ∀ {L : SL} {y : Key × Int}, y ∈ L → ∃ z ∈ putL k n L, z.1 = y.1 ∧ y.2 ≤ z.2
  | x :: r, y, h => by
    unfold putL
    split
    · rcases List.mem_cons.1 h with e | h
      · exact ⟨x, List.mem_cons_self, by rw [e], by rw [e]; exact Int.le_refl _⟩
      · obtain ⟨z, h1, h2⟩ := put_keeps hn h
        exact ⟨z, List.mem_cons_of_mem _ h1, h2⟩
    · split
      · rename_i hk
        rcases List.mem_cons.1 h with e | h
        · exact ⟨_, List.mem_cons_self, by rw [e]; exact hk.symm, by rw [e]; show x.2 ≤ x.2 + n; omega⟩
        · exact ⟨y, List.mem_cons_of_mem _ h, rfl, Int.le_refl _⟩
      · exact ⟨y, List.mem_cons_of_mem _ h, rfl, Int.le_refl _⟩
theorem put_length {k : Key} {n : Int} : ∀ {L : SL}, L.length ≤ (putL k n L).length ∧ (putL k n L).length ≤ L.length + 1
  | [] => by simp [putL]
  | x :: r => by
    have := put_length (k := k) (n := n) (L := r)
    unfold putL
    split
    · simp; omega
    · split <;> simp

/-- Whether it is more than a sum may have. -/
def overL (L : SL) : Bool := L.any (fun x => decide (100000 < x.2) || decide (12 < x.1.length)) || decide (40 < L.length)
theorem over_put {k : Key} {n : Int} (hn : 1 ≤ n) {L : SL} (h : overL L = true) : overL (putL k n L) = true := by
  unfold overL at *
  rw [Bool.or_eq_true] at *
  rcases h with h | h
  · left
    obtain ⟨y, hy, h⟩ := List.any_eq_true.1 h
    obtain ⟨z, hz, e, hle⟩ := put_keeps (k := k) hn hy
    refine List.any_eq_true.2 ⟨z, hz, ?_⟩
    simp only [Bool.or_eq_true, decide_eq_true_eq] at *
    rw [e]
    rcases h with h | h
    · left; omega
    · exact .inr h
  · right
    have := (put_length (k := k) (n := n) (L := L)).1
    simp only [decide_eq_true_eq] at *
    omega

/-- Two lists in order, of numbers that are positive, are the same if they give the same. -/
def ind (k : Key) : Key → Int := fun x => if x = k then 1 else 0
theorem tot_ind_lt {k : Key} : ∀ {L : SL}, (∀ x ∈ L, k < x.1) → tot (ind k) L = 0
  | [], _ => rfl
  | x :: r, h => by
    have hx := h x List.mem_cons_self
    simp only [tot, ind, if_neg (key_ne hx).symm, Int.mul_zero, Int.zero_add]
    exact tot_ind_lt fun y hy => h y (List.mem_cons_of_mem _ hy)
theorem uniq : ∀ {A B : SL}, Srt A → Srt B → Pos A → Pos B → (∀ φ, tot φ A = tot φ B) → A = B
  | [], [], _, _, _, _, _ => rfl
  | [], y :: s, _, hB, _, pB, h => by
    exfalso
    have := h (ind y.1)
    have hy := pB y List.mem_cons_self
    have e := tot_ind_lt (k := y.1) (L := s) (List.pairwise_cons.1 hB).1
    simp only [tot, e] at this
    simp [ind] at this
    omega
  | x :: r, [], hA, _, pA, _, h => by
    exfalso
    have := h (ind x.1)
    have hy := pA x List.mem_cons_self
    have e := tot_ind_lt (k := x.1) (L := r) (List.pairwise_cons.1 hA).1
    simp only [tot, e] at this
    simp [ind] at this
    omega
  | x :: r, y :: s, hA, hB, pA, pB, h => by
    obtain ⟨a1, a2⟩ := List.pairwise_cons.1 hA
    obtain ⟨b1, b2⟩ := List.pairwise_cons.1 hB
    have px := pA x List.mem_cons_self
    have py := pB y List.mem_cons_self
    have ex := tot_ind_lt a1
    have ey := tot_ind_lt b1
    rcases key_tri x.1 y.1 with hxy | hxy | hxy
    · exfalso
      have := h (ind x.1)
      have e := tot_ind_lt (k := x.1) (L := y :: s) (fun z hz => by
        rcases List.mem_cons.1 hz with rfl | hz
        · exact hxy
        · exact key_tr hxy (b1 z hz))
      rw [e] at this
      simp only [tot, ex] at this
      simp [ind] at this
      omega
    · have h1 := h (ind x.1)
      have n1 : x.2 = y.2 := by
        simp only [tot, ex] at h1
        rw [hxy, ey] at h1
        simpa [ind] using h1
      have e : x = y := Prod.ext hxy n1
      subst e
      have := uniq a2 b2 (fun z hz => pA z (List.mem_cons_of_mem _ hz)) (fun z hz => pB z (List.mem_cons_of_mem _ hz)) (fun φ => by have := h φ; simp only [tot] at this; omega)
      rw [this]
    · exfalso
      have := h (ind y.1)
      have e := tot_ind_lt (k := y.1) (L := x :: r) (fun z hz => by
        rcases List.mem_cons.1 hz with rfl | hz
        · exact hxy
        · exact key_tr hxy (a1 z hz))
      rw [e] at this
      simp only [tot, ey] at this
      simp [ind] at this
      omega

/-- Two products' tokens, in order. -/
def mx (p q : Key) : Key := (p ++ q).mergeSort (fun a b => decide (a ≤ b))
def srtK (p : Key) : Prop := p.Pairwise (fun a b => a ≤ b)
theorem u8tot (a b : UInt8) : (decide (a ≤ b) || decide (b ≤ a)) = true := by
  simp only [Bool.or_eq_true, decide_eq_true_eq, UInt8.le_iff_toNat_le]; omega
theorem u8tr (a b c : UInt8) (h : decide (a ≤ b) = true) (k : decide (b ≤ c) = true) : decide (a ≤ c) = true := by
  simp only [decide_eq_true_eq, UInt8.le_iff_toNat_le] at *; omega
theorem mx_perm (p q : Key) : (mx p q).Perm (p ++ q) := List.mergeSort_perm _ _
theorem mx_srt (p q : Key) : srtK (mx p q) := by
  have := List.pairwise_mergeSort (le := fun a b : UInt8 => decide (a ≤ b)) u8tr u8tot (p ++ q)
  exact this.imp fun h => by simpa using h
theorem srt_uniq {p q : Key} (h : p.Perm q) (hp : srtK p) (hq : srtK q) : p = q :=
  List.Perm.eq_of_pairwise (fun _ _ _ _ h1 h2 => UInt8.le_antisymm h1 h2) hp hq h
theorem mx_comm (p q : Key) : mx p q = mx q p := srt_uniq ((mx_perm p q).trans (List.perm_append_comm.trans (mx_perm q p).symm)) (mx_srt _ _) (mx_srt _ _)
theorem mx_assoc (p q r : Key) : mx (mx p q) r = mx p (mx q r) := by
  refine srt_uniq (((mx_perm _ _).trans ((mx_perm p q).append_right r)).trans ?_) (mx_srt _ _) (mx_srt _ _)
  rw [List.append_assoc]
  exact ((mx_perm _ _).trans ((mx_perm q r).append_left p)).symm
theorem mx_nil {p : Key} (h : srtK p) : mx p [] = p := srt_uniq (by simpa using mx_perm p []) (mx_srt _ _) h
theorem mx_length (p q : Key) : (mx p q).length = p.length + q.length := by rw [(mx_perm p q).length_eq, List.length_append]
theorem mx_mem {p q : Key} {b : UInt8} : b ∈ mx p q ↔ b ∈ p ∨ b ∈ q := by rw [(mx_perm p q).mem_iff, List.mem_append]

/-- Sums of sums. -/
def plusL (s t : SL) : SL := t.foldl (fun o x => putL x.1 x.2 o) s
def innL (a : Key × Int) (t out : SL) : SL := t.foldl (fun o b => putL (mx a.1 b.1) (a.2 * b.2) o) out
def timesF (s t out : SL) : SL := s.foldl (fun o a => innL a t o) out
def timesL (s t : SL) : SL := timesF s t []
/-- As the reference does it: it stops where it is too much. -/
def timesR : SL → SL → SL → SL
  | [], _, out => out
  | a :: s, t, out => if overL (innL a t out) = true then innL a t out else timesR s t (innL a t out)

theorem tot_plus (φ : Key → Int) : ∀ (t s : SL), tot φ (plusL s t) = tot φ s + tot φ t
  | [], s => by simp [plusL, tot]
  | x :: r, s => by
    show tot φ (plusL (putL x.1 x.2 s) r) = _
    rw [tot_plus φ r, tot_put]
    simp only [tot]
    omega
theorem tot_inn (φ : Key → Int) (a : Key × Int) : ∀ (t out : SL), tot φ (innL a t out) = tot φ out + a.2 * tot (fun q => φ (mx a.1 q)) t
  | [], out => by simp [innL, tot]
  | b :: r, out => by
    show tot φ (innL a r (putL (mx a.1 b.1) (a.2 * b.2) out)) = _
    rw [tot_inn φ a r, tot_put]
    simp only [tot, Int.mul_add]
    rw [Int.mul_assoc]
    omega
theorem tot_timesF (φ : Key → Int) (t : SL) : ∀ (s out : SL), tot φ (timesF s t out) = tot φ out + tot (fun p => tot (fun q => φ (mx p q)) t) s
  | [], out => by simp [timesF, tot]
  | a :: r, out => by
    show tot φ (timesF r t (innL a t out)) = _
    rw [tot_timesF φ t r, tot_inn]
    simp only [tot]
    omega
theorem tot_times (φ : Key → Int) (s t : SL) : tot φ (timesL s t) = tot (fun p => tot (fun q => φ (mx p q)) t) s := by
  unfold timesL
  rw [tot_timesF]
  simp [tot]

theorem Srt.plus {t : SL} : ∀ {s : SL}, Srt s → Srt (plusL s t) := by
  induction t with
  | nil => intro s h; exact h
  | cons x r ih => intro s h; exact ih h.put
theorem Pos.plus {t : SL} (ht : Pos t) : ∀ {s : SL}, Pos s → Pos (plusL s t) := by
  induction t with
  | nil => intro s h; exact h
  | cons x r ih => intro s h; exact ih (fun y hy => ht y (List.mem_cons_of_mem _ hy)) (h.put (ht x List.mem_cons_self))
theorem pos_mul {m n : Int} (h : 1 ≤ m) (k : 1 ≤ n) : 1 ≤ m * n := by
  have := Int.mul_le_mul h k (by decide) (by omega)
  simpa using this
theorem Srt.inn {a : Key × Int} {t : SL} : ∀ {o : SL}, Srt o → Srt (innL a t o) := by
  induction t with
  | nil => intro o h; exact h
  | cons x r ih => intro o h; exact ih h.put
theorem Pos.inn {a : Key × Int} {t : SL} (ha : 1 ≤ a.2) (ht : Pos t) : ∀ {o : SL}, Pos o → Pos (innL a t o) := by
  induction t with
  | nil => intro o h; exact h
  | cons x r ih => intro o h; exact ih (fun y hy => ht y (List.mem_cons_of_mem _ hy)) (h.put (pos_mul ha (ht x List.mem_cons_self)))
theorem Srt.timesF {s t : SL} : ∀ {o : SL}, Srt o → Srt (timesF s t o) := by
  induction s with
  | nil => intro o h; exact h
  | cons x r ih => intro o h; exact ih h.inn
theorem Pos.timesF {s t : SL} (hs : Pos s) (ht : Pos t) : ∀ {o : SL}, Pos o → Pos (timesF s t o) := by
  induction s with
  | nil => intro o h; exact h
  | cons x r ih => intro o h; exact ih (fun y hy => hs y (List.mem_cons_of_mem _ hy)) (Pos.inn (hs x List.mem_cons_self) ht h)
theorem Srt.times {s t : SL} : Srt (timesL s t) := Srt.timesF (by simp [Srt])
theorem Pos.times {s t : SL} (hs : Pos s) (ht : Pos t) : Pos (timesL s t) := Pos.timesF hs ht (by simp [Pos])
theorem over_inn {a : Key × Int} {t : SL} (ha : 1 ≤ a.2) (ht : Pos t) : ∀ {o : SL}, overL o = true → overL (innL a t o) = true := by
  induction t with
  | nil => intro o h; exact h
  | cons x r ih => intro o h; exact ih (fun y hy => ht y (List.mem_cons_of_mem _ hy)) (over_put (pos_mul ha (ht x List.mem_cons_self)) h)
theorem over_timesF {s t : SL} (hs : Pos s) (ht : Pos t) : ∀ {o : SL}, overL o = true → overL (timesF s t o) = true := by
  induction s with
  | nil => intro o h; exact h
  | cons x r ih => intro o h; exact ih (fun y hy => hs y (List.mem_cons_of_mem _ hy)) (over_inn (hs x List.mem_cons_self) ht h)
/-- To stop early makes no odds. -/
theorem timesR_is {s t : SL} (hs : Pos s) (ht : Pos t) : ∀ {o : SL}, overL (timesR s t o) = overL (timesF s t o) ∧ (overL (timesF s t o) = false → timesR s t o = timesF s t o) := by
  induction s with
  | nil => intro o; exact ⟨rfl, fun _ => rfl⟩
  | cons a r ih =>
    intro o
    have hr : Pos r := fun y hy => hs y (List.mem_cons_of_mem _ hy)
    have e : timesF (a :: r) t o = timesF r t (innL a t o) := rfl
    unfold timesR
    rw [e]
    split
    · rename_i h
      have k := over_timesF hr ht h
      exact ⟨by rw [h, k], fun h' => by rw [k] at h'; cases h'⟩
    · exact ih hr

/-- Sums are added and multiplied in any order. -/
theorem plus_comm {s t : SL} (ss : Srt s) (st : Srt t) (ps : Pos s) (pt : Pos t) : plusL s t = plusL t s :=
  uniq ss.plus st.plus (Pos.plus pt ps) (Pos.plus ps pt) fun φ => by rw [tot_plus, tot_plus]; omega
theorem tot_swap (ψ : Key → Key → Int) : ∀ s t : SL, tot (fun p => tot (fun q => ψ p q) t) s = tot (fun q => tot (fun p => ψ p q) s) t
  | [], t => by simp [tot, tot_zero]
  | x :: r, t => by
    simp only [tot, tot_swap ψ r t]
    rw [tot_add (fun q => x.2 * ψ x.1 q) (fun q => tot (fun p => ψ p q) r) t, tot_mul]
theorem times_comm {s t : SL} (ps : Pos s) (pt : Pos t) : timesL s t = timesL t s :=
  uniq Srt.times Srt.times (Pos.times ps pt) (Pos.times pt ps) fun φ => by
    rw [tot_times, tot_times, tot_swap]
    exact tot_congr fun x _ => tot_congr fun y _ => by rw [mx_comm]
theorem plus_assoc {s t u : SL} (ss : Srt s) (ps : Pos s) (pt : Pos t) (pu : Pos u) : plusL (plusL s t) u = plusL s (plusL t u) :=
  uniq ss.plus.plus ss.plus (Pos.plus pu (Pos.plus pt ps)) (Pos.plus (Pos.plus pu pt) ps) fun φ => by rw [tot_plus, tot_plus, tot_plus, tot_plus]; omega
theorem times_assoc {s t u : SL} (ps : Pos s) (pt : Pos t) (pu : Pos u) : timesL (timesL s t) u = timesL s (timesL t u) :=
  uniq Srt.times Srt.times (Pos.times (Pos.times ps pt) pu) (Pos.times ps (Pos.times pt pu)) fun φ => by
    rw [tot_times, tot_times, tot_times]
    refine tot_congr fun x _ => ?_
    rw [tot_times]
    exact tot_congr fun y _ => tot_congr fun z _ => by rw [mx_assoc]
theorem times_plus {s t u : SL} (ps : Pos s) (pt : Pos t) (pu : Pos u) : timesL s (plusL t u) = plusL (timesL s t) (timesL s u) :=
  uniq Srt.times Srt.times.plus (Pos.times ps (Pos.plus pu pt)) (Pos.plus (Pos.times ps pu) (Pos.times ps pt)) fun φ => by
    rw [tot_times, tot_plus, tot_times, tot_times, ← tot_add]
    exact tot_congr fun x _ => by rw [tot_plus]
theorem times_nil (s : SL) : timesL s [] = [] := by
  unfold timesL timesF
  have : ∀ o : SL, List.foldl (fun o a => innL a [] o) o s = o := by
    induction s with
    | nil => intro o; rfl
    | cons a r ih => intro o; exact ih o
  exact this []
theorem times_one {s : SL} (ss : Srt s) (ps : Pos s) (hk : ∀ x ∈ s, srtK x.1) : timesL s [([], 1)] = s :=
  uniq Srt.times ss (Pos.times ps (by simp [Pos])) ps fun φ => by
    rw [tot_times]
    exact tot_congr fun x hx => by simp [tot, mx_nil (hk x hx)]

end Go.Proofs.YtehdemcfeoiecaaDoor
