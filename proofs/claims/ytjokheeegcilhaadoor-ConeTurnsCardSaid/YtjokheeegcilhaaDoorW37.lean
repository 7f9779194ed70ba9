/- Contracts of chapter 2: Layers, Layer, Threads of valid hits, as lists of a kind; what both lengths bound. -/
import Derived.Test.YtjokheeegcilhaaDoorW36
namespace Go.Proofs.YtjokheeegcilhaaDoor
open Go.RowKit Go.Firn

/-- A table of K lists of a kind that have each hit once, and no error. -/
def RetTb (n : Nat) (B : Nat → (Nat → Int) → Bool) (K : Nat) (r : Nat → Nat × (Nat → Int)) (w : World) (e : Ending) (w' : World) : Prop :=
  ∃ a c, areB n B K r = true ∧ (∀ i, i < K → (r i).1 ≤ 60) ∧ K ≤ c ∧ e = .returned (.tuple #[.slice a K c, .int .i64 0]) ∧ RdT w' a K r ∧ Gr w w'

theorem layT_row {n : Nat} {P T : Nat → Int} (hn : n ≤ 14) {m i : Nat} (hi : i < m) : (tr nf (layT n P T m) i).1 ≤ 60 := by
  have e : (layT n P T m).getD i [] = layK1 n P T i := by
    unfold layT
    rw [List.getD, List.getElem?_map, List.getElem?_range hi]
    rfl
  show ((layT n P T m).getD i []).length ≤ 60
  rw [e]
  unfold layK1 firstL
  rw [els_length]
  have := cnt_le (frB n P T (leftK n P T i)) n
  omega

/-- The layers. -/
def layR2 (n : Nat) (P T : Nat → Int) : Nat → Nat × (Nat → Int) := tr nf (layT n P T (topH n P T))
theorem Layers_ok (adr : Option Addr) (n c : Nat) (P T : Nat → Int) (w : World) (V : VH n P T) (hw : WfH n P T) (hr : RdM w adr n P T) (hT : Tab w) :
    Calls Tryd.prog 37 #[.slice adr n c] w (RetTb n (layB n P T) (topH n P T) (layR2 n P T) w) := by
  have hf := V.few
  refine (Layers_any adr n c P T w (by omega) hw hr hT).mono ?_
  rintro e w' ⟨a, c', m, rfl, q1, q2, q3, q4, q5, q6⟩
  have hL : LastL n P T m := by unfold lastG at q3; rwa [vH_iff.2 V, if_pos rfl] at q3
  obtain rfl := lay_top V.pos hf hL
  rw [errH_ok V]
  exact ⟨a, c', lay_are hf hL, fun i hi => layT_row hf hi, q1, rfl, q5, q6⟩

/-- The threads. -/
def RetTh2 (n : Nat) (P T : Nat → Int) (w : World) (e : Ending) (w' : World) : Prop := ∃ r, RetTb n (chnB n P T) (layL n P T).length r w e w'
theorem Threads_ok2 (adr : Option Addr) (n c : Nat) (P T : Nat → Int) (w : World) (V : VH n P T) (hw : WfH n P T) (hr : RdM w adr n P T) (hT : Tab w) :
    Calls Tryd.prog 44 #[.slice adr n c] w (RetTh2 n P T w) := by
  refine (Threads_ok adr n c P T w V hw hr hT).mono ?_
  rintro e w' ⟨a, c', tb, q1, q2, q3, q4, q5, q6, rfl, q7, q8⟩
  rw [q1] at q2 q3 q5 q7 ⊢
  exact ⟨_, a, c', q2, q3, q5, rfl, q7, q8⟩

/-- A list, and no error. -/
def RetLs (K : Nat) (f : Nat → Int) (w : World) (e : Ending) (w' : World) : Prop := ∃ a c, e = .returned (.tuple #[.slice a K c, .int .i64 0]) ∧ K ≤ c ∧ RdI w' a K f ∧ Gr w w'
theorem Chain_ok2 (adr : Option Addr) (n c : Nat) (P T : Nat → Int) (w : World) (V : VH n P T) (hw : WfH n P T) (hr : RdM w adr n P T) (hT : Tab w) :
    Calls Tryd.prog 45 #[.slice adr n c] w (RetLs (topH n P T) (nf (chnL n P T)) w) := by
  refine (Chain_ok adr n c P T w V hw hr hT).mono ?_
  rintro e w' ⟨a, c', rfl, q1, q2, q3, q4⟩
  have h := (chnL_good (P := P) (T := T) V.pos).1
  rw [h] at q1 q3 ⊢
  exact ⟨a, c', rfl, q1, q3, q4⟩
theorem Layer_ok2 (adr : Option Addr) (n c : Nat) (P T : Nat → Int) (w : World) (V : VH n P T) (hw : WfH n P T) (hr : RdM w adr n P T) (hT : Tab w) :
    Calls Tryd.prog 17 #[.slice adr n c] w (RetLs (layL n P T).length (nf (layL n P T)) w) := by
  have h := Layer_any adr n c P T w (by have := V.few; omega) hw hr hT
  rw [layG_ok V, errH_ok V] at h
  refine h.mono ?_
  rintro e w' ⟨a, c', rfl, q1, q2, q3, q4⟩
  exact ⟨a, c', rfl, q1, q3, q4⟩
theorem First_ok2 (adr : Option Addr) (n c : Nat) (P T : Nat → Int) (w : World) (V : VH n P T) (hw : WfH n P T) (hr : RdM w adr n P T) (hT : Tab w) :
    Calls Tryd.prog 28 #[.slice adr n c] w (RetLs (firstL n P T fun _ => true).length (nf (firstL n P T fun _ => true)) w) := by
  refine (First_ok adr n c P T w V hw hr hT).mono ?_
  rintro e w' ⟨a, c', rfl, q1, q2, q3, q4⟩
  exact ⟨a, c', rfl, q1, q3, q4⟩

/-- What both lengths bound. -/
structure Both (n : Nat) (P T : Nat → Int) (K Z : Nat) (fc fl : Nat → Int) : Prop where
  k1 : 1 ≤ K
  kn : K ≤ n + 1
  z1 : 1 ≤ Z
  zn : Z ≤ n
  area : n ≤ K * Z
  chn : ∀ m l, chnB n P T m l = true → m ≤ K
  lay : ∀ m l, layB n P T m l = true → m ≤ Z
  lays : ∀ N r, areB n (layB n P T) N r = true → K ≤ N
  thrs : ∀ N r, areB n (chnB n P T) N r = true → Z ≤ N
  isC : chnB n P T K fc = true
  isL : layB n P T Z fl = true
theorem both {n : Nat} {P T : Nat → Int} (V : VH n P T) {R1 R : Nat → Nat × (Nat → Int)} (hA : areB n (layB n P T) (topH n P T) R1 = true) (hR : areB n (chnB n P T) (layL n P T).length R = true) : Both n P T (topH n P T) (layL n P T).length (nf (chnL n P T)) (nf (layL n P T)) := by
  have hn := V.few
  have h1 := V.pos
  have c1 := chnL_chain (P := P) (T := T) h1 hn
  rw [(chnL_good h1).1] at c1
  have c2 := layL_layer (P := P) (T := T) h1 hn
  refine ⟨(topH_ex h1).1, topH_le, layL_pos h1, by unfold layL; rw [els_length]; exact cnt_le _ _, areB_area hA fun i hi => ?_, fun m l h => chain_layers hA h, fun m l h => layer_threads hR h, fun N r h => chain_layers h c1, fun N r h => layer_threads h c2, c1, c2⟩
  cases hb : layB n P T (R1 i).1 (R1 i).2 with
  | false => rw [areB_kind hi hb] at hA; cases hA
  | true => exact layer_threads hR hb

end Go.Proofs.YtjokheeegcilhaaDoor
