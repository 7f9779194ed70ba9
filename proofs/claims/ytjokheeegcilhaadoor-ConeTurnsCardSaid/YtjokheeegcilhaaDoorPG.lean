/- Turned and moved hits: as long chains and layers, and as many chains. -/
import Derived.Test.YtjokheeegcilhaaDoorPF
import Derived.Test.YtjokheeegcilhaaDoorWB
namespace Go.Proofs.YtjokheeegcilhaaDoor
open Go.Firn

theorem bf_moved (P T : Nat → Int) (p t : Int) (a b : Nat) : bf (fun i => P i + p) (fun i => T i + t) a b = bf P T a b := by
  rw [Bool.eq_iff_iff, bf_iff, bf_iff]
  constructor <;> intro h <;> omega
theorem bf_turned (P T : Nat → Int) (a b : Nat) : bf P (fun i => -T i) a b = bf P T b a := by
  rw [Bool.eq_iff_iff, bf_iff, bf_iff]
  constructor <;> intro h <;> omega

/-- A chain is no longer than the longest one. -/
theorem chn_ht {n : Nat} {P T : Nat → Int} {l : Nat → Int} {m : Nat} (h : chnK n P T l m = true) : ∀ (d j : Nat), j + d + 1 = m → d + 1 ≤ ht n P T (l j).toNat
  | 0, j, _ => ht_pos _
  | d + 1, j, e => by
    have ih := chn_ht h d (j + 1) (by omega)
    obtain ⟨i, hi, ei⟩ := chnK_hit h (show j + 1 < m by omega)
    have b := chnK_bf h (show j + 1 < m by omega)
    have := ht_lt (n := n) (P := P) (T := T) (i := (l j).toNat) (k := (l (j + 1)).toNat) (by rw [ei]; simpa using hi) b
    omega
theorem chn_top {n : Nat} {P T : Nat → Int} {l : Nat → Int} {m : Nat} (h : chnB n P T m l = true) : m ≤ topH n P T := by
  unfold chnB at h
  simp only [Bool.and_eq_true, decide_eq_true_eq] at h
  obtain ⟨⟨h1, h2⟩, _⟩ := h
  have a := chn_ht h1 (m - 1) 0 (by omega)
  obtain ⟨i, hi, ei⟩ := chnK_hit h1 (show 0 < m by omega)
  rw [ei] at a
  have b := mx_le (ht n P T) hi
  unfold topH
  have : ((i : Int)).toNat = i := by simp
  rw [this] at a
  omega
/-- A chain turned round. -/
theorem chn_turned {n : Nat} {P T P' T' : Nat → Int} (hb : ∀ a b, bf P' T' a b = bf P T b a) {l : Nat → Int} {m : Nat} (h : chnB n P T m l = true) : chnB n P' T' m (fun j => l (m - 1 - j)) = true := by
  unfold chnB at h ⊢
  simp only [Bool.and_eq_true, decide_eq_true_eq] at h ⊢
  obtain ⟨⟨h1, h2⟩, h3⟩ := h
  refine ⟨⟨?_, h2⟩, h3⟩
  unfold chnK
  rw [List.all_eq_true]
  intro k hk
  have hk := List.mem_range.1 hk
  unfold chnAt
  rw [Bool.and_eq_true]
  obtain ⟨i, hi, ei⟩ := chnK_hit h1 (show m - 1 - k < m by omega)
  refine ⟨by show inH n (l (m - 1 - k)) = true; rw [ei]; exact inH_of hi, ?_⟩
  by_cases e : k = 0
  · simp [e]
  · rw [Bool.or_eq_true]
    right
    rw [hb]
    have := chnK_bf h1 (show (m - 1 - k) + 1 < m by omega)
    rw [show m - 1 - k + 1 = m - 1 - (k - 1) by omega] at this
    exact this
theorem top_turned {n : Nat} {P T P' T' : Nat → Int} (h1 : 1 ≤ n) (hn : n ≤ 14) (hb : ∀ a b, bf P' T' a b = bf P T b a) : topH n P' T' = topH n P T := by
  refine Nat.le_antisymm ?_ ?_
  · have := chn_top (chn_turned (P := P') (T := T') (P' := P) (T' := T) (fun a b => (hb b a).symm) (chnL_chain (P := P') (T := T') h1 hn))
    rwa [(chnL_good h1).1] at this
  · have := chn_top (chn_turned hb (chnL_chain (P := P) (T := T) h1 hn))
    rwa [(chnL_good h1).1] at this
theorem lay_alike {n : Nat} {P T P' T' : Nat → Int} (hc : ∀ a b, cmpd P' T' a b = cmpd P T a b) : (layL n P' T').length = (layL n P T).length := by
  have key : ∀ {P T P' T' : Nat → Int}, (∀ a b, cmpd P' T' a b = cmpd P T a b) → (layL n P' T').length ≤ (layL n P T).length := fun {P T P' T'} hc => by
    obtain ⟨p, hp, e⟩ := (layL_best (n := n) (P := P') (T := T')).1
    rw [e]
    refine (layL_best (n := n) (P := P) (T := T)).2 p fun i hi h1 j hj h2 => ?_
    rw [← hc]; exact hp i hi h1 j hj h2
  exact Nat.le_antisymm (key hc) (key fun a b => (hc a b).symm)
theorem wF_congr {r r' : Nat → Nat → Bool} (h : ∀ a b, r a b = r' a b) (n : Nat) : ∀ d a, wF r n d a = wF r' n d a := by
  have : r = r' := funext fun a => funext fun b => h a b
  subst this
  intro d a; rfl

/-- What two lists of hits have alike. -/
structure Alk (n : Nat) (P T P' T' : Nat → Int) : Prop where
  top : topH n P' T' = topH n P T
  lay : (layL n P' T').length = (layL n P T).length
  cnt : chC n P' T' = chC n P T
theorem Alk.turned {n : Nat} {P T : Nat → Int} (V : VH n P T) : Alk n P T P (fun i => -T i) :=
  ⟨top_turned V.pos V.few (bf_turned P T), lay_alike fun a b => by unfold cmpd; rw [bf_turned, bf_turned, Bool.or_comm], by
    have e : ∀ i, bgF n P (fun i => -T i) i = enF n P T i := fun i => wF_congr (bf_turned P T) n 14 i
    rw [← chC_ends (P := P) (T := T) V.few]
    exact sg_congr fun i _ => e i⟩
theorem Alk.moved {n : Nat} {P T : Nat → Int} (V : VH n P T) (p t : Int) : Alk n P T (fun i => P i + p) (fun i => T i + t) := by
  have eb : bf (fun i => P i + p) (fun i => T i + t) = bf P T := funext fun a => funext fun b => bf_moved P T p t a b
  refine ⟨?_, lay_alike fun a b => by unfold cmpd; rw [eb], ?_⟩
  · have a := top_turned (n := n) (P := P) (T := T) (P' := P) (T' := fun i => -T i) V.pos V.few (bf_turned P T)
    have b := top_turned (n := n) (P := fun i => P i + p) (T := fun i => T i + t) (P' := P) (T' := fun i => -T i) V.pos V.few (fun x y => by rw [bf_turned, bf_moved])
    rw [← b, a]
  · exact sg_congr fun i _ => wF_congr (bf_moved P T p t) n 14 i

/-- Moved hits that are valid: by how much; and back. -/
theorem moved_by {n : Nat} {P T : Nat → Int} (V : VH n P T) {p t : Int} (h : okMK P T p t n = true) : -2000 ≤ p ∧ p ≤ 2000 ∧ -2000 ≤ t ∧ t ≤ 2000 := by
  have a := okMK_at h (k := 0) V.pos
  have b := V.ok 0 V.pos
  omega
theorem moved_back {n : Nat} {P T : Nat → Int} (V : VH n P T) (p t : Int) : okMK (fun i => P i + p) (fun i => T i + t) (-p) (-t) n = true := by
  unfold okMK
  rw [List.all_eq_true]
  intro i hi
  have := V.ok i (List.mem_range.1 hi)
  rw [Bool.and_eq_true, inR_iff, inR_iff]
  show (-1000 ≤ P i + p + -p ∧ P i + p + -p ≤ 1000) ∧ -1000 ≤ T i + t + -t ∧ T i + t + -t ≤ 1000
  omega

end Go.Proofs.YtjokheeegcilhaaDoor
