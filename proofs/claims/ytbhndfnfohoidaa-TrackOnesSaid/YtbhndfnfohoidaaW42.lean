/- Contracts of chapter 5: the sort of the slopes. -/
import Derived.Test.YtbhndfnfohoidaaPS
import Derived.Test.YtbhndfnfohoidaaShelp
import Derived.Test.YtbhndfnfohoidaaWA
namespace Go.Proofs.Ytbhndfnfohoidaa
open Go.RowKit Go.Firn Go.Shelf Go.Sort

/-- A slope's size. -/
def Sl (x : Int × Int) : Prop := Rd x ∧ x.2 ≤ 200 ∧ -1000000 ≤ x.1 ∧ x.1 ≤ 1000000
structure QB where
  v : Int × Int
  ok : Sl v
instance : Inhabited QB := ⟨⟨(0, 1), ⟨by decide, by decide⟩, by decide, by decide, by decide⟩⟩
def encQ (x : QB) : List Value := [.int .i64 x.v.1, .int .i64 x.v.2]
def cfQ (x y : QB) : Int := cmpI (x.v.1 * y.v.2) (y.v.1 * x.v.2)
theorem ltQ (x y : QB) : ltOf cfQ x y = decide (x.v.1 * y.v.2 < y.v.1 * x.v.2) := by
  unfold ltOf cfQ cmpI
  by_cases h1 : x.v.1 * y.v.2 < y.v.1 * x.v.2
  · simp [h1]
  · by_cases h2 : y.v.1 * x.v.2 < x.v.1 * y.v.2 <;> simp [h1, h2]
theorem ltQ_false {x y : QB} : ltOf cfQ x y = false ↔ leR y.v x.v := by
  rw [ltQ, decide_eq_false_iff_not]
  unfold leR
  omega
theorem swoQ : SWO (ltOf cfQ) where
  irrefl x := by rw [ltQ_false]; exact Int.le_refl _
  trans x y z h1 h2 := by
    rw [ltQ, decide_eq_true_eq] at *
    have hx := x.ok.1.1
    have hy := y.ok.1.1
    have hz := z.ok.1.1
    rcases Int.lt_or_le (x.v.1 * z.v.2) (z.v.1 * x.v.2) with h | h
    · exact h
    · have := leR_trans (a := z.v) (b := x.v) (c := y.v) hz hx hy h (by unfold leR; omega)
      unfold leR at this
      omega
  ntrans x y z h1 h2 := by
    rw [ltQ_false] at *
    exact leR_trans z.ok.1.1 y.ok.1.1 x.ok.1.1 h2 h1

theorem compare_lays (x y : QB) (W : World) : Calls Try.prog 85 #[.agg #[.int .i64 x.v.1, .int .i64 x.v.2], .agg #[.int .i64 y.v.1, .int .i64 y.v.2]] W fun e w' => e = .returned (.int .i64 (cfQ x y)) ∧ ∃ q os', w' = grow (W.drewN q) os' := by
  obtain ⟨⟨hx0, _⟩, hx1, hx2, hx3⟩ := x.ok
  obtain ⟨⟨hy0, _⟩, hy1, hy2, hy3⟩ := y.ok
  have m1 := mul_bd (a := x.v.1) (b := y.v.2) (A := 1000000) (B := 200) (by omega) (by omega) (by omega) (by omega)
  have m2 := mul_bd (a := y.v.1) (b := x.v.2) (A := 1000000) (B := 200) (by omega) (by omega) (by omega) (by omega)
  show Calls _ _ _ _ fun e w' => e = .returned (.int .i64 (cmpI (x.v.1 * y.v.2) (y.v.1 * x.v.2))) ∧ _
  generalize x.v.1 = N at *
  generalize x.v.2 = D at *
  generalize y.v.1 = N' at *
  generalize y.v.2 = D' at *
  have q1 : wrap64 (N * D') = N * D' := IntWalk.wrap64_in _ (by omega)
  have q2 : wrap64 (N' * D) = N' * D := IntWalk.wrap64_in _ (by omega)
  clear m1 m2 hx0 hx1 hx2 hx3 hy0 hy1 hy2 hy3
  go_enter Try.func85, Try.ntmps85
  go_wp2_with (go_at_call 96; refine (Compare_any _ _ _).mono ?_; rintro e w1 ⟨rfl, rfl⟩)
  go_ret
  exact ⟨rfl, 0, _, by rw [alloc_eq_grow, alloc_eq_grow, grow_grow]; rfl⟩

theorem sort_any (blk off cap : Nat) (d : Array QB) (w : World) (hH : HoldsK encQ 2 w blk off d) (hblk : blk < w.heap.size) (hsz : d.size < 4611686018427387904) :
    Calls Try.prog 84 #[.slice (some ⟨blk, off, none⟩) d.size cap, .func (.func 85) #[] #[]] w fun e w' => e = .returned (.tuple #[]) ∧ ∃ d' n os, PermIn 0 d.size d d' ∧ SortedIn (ltOf cfQ) 0 d.size d' ∧ w' = sortWorldK encQ 2 w blk off n d' os :=
  AnyQ.slices_SortFunc Try.sortR 2 Try.isAgg27 Try.sizeOf27 encQ (fun _ => rfl) (fun x v hv => by simp [encQ] at hv; rcases hv with rfl | rfl <;> rfl) cfQ swoQ 85 #[] blk off cap d w (enters_of Try.func85 (by kernel_rfl) rfl) (fun _ _ _ _ x y => compare_lays x y _) hH hblk hsz

theorem grown_sortK {w : World} {g n : Nat} {os : Array Obj} (d : Array QB) : w.grownBy (sortWorldK encQ 2 w g 0 n d os) (some g) := by
  unfold sortWorldK putRowK
  refine ⟨rfl, rfl, rfl, by simp, fun k hk hne => ?_⟩
  rw [heap_grow_old _ _ (by simpa using hk)]
  have : g ≠ k := fun e => hne (by rw [e])
  simp [putRow, mapBlock, Sort.ahead, Array.getElem?_modify, this]

/-- The sorted row, by its cells. -/
theorem sort_list {base g cap : Nat} {L : List (Int × Int)} (hL : ∀ x ∈ L, Sl x) {w : World} (hown : w.ownsRow base 27 2 (.slice (some ⟨g, 0, none⟩) L.length cap) L.length (pm L)) (hn : L.length < 100000) :
    Calls Try.prog 84 #[.slice (some ⟨g, 0, none⟩) L.length cap, .func (.func 85) #[] #[]] w fun e w' => e = .returned (.tuple #[]) ∧ w.grownBy w' (some g) ∧ ∀ i, i < L.length → w'.cell? ⟨g, 0 + i * 2, none⟩ = some (.int .i64 ((iso L).getD i (0, 0)).1) ∧ w'.cell? ⟨g, 0 + i * 2 + 1, none⟩ = some (.int .i64 ((iso L).getD i (0, 0)).2) := by
  obtain ⟨d, hd⟩ : ∃ d : Array QB, d.toList.map QB.v = L := ⟨(L.pmap (fun x h => (⟨x, h⟩ : QB)) hL).toArray, by rw [List.toList_toArray, List.map_pmap]; simp⟩
  have hs : d.size = L.length := by rw [← hd, List.length_map, Array.length_toList]
  have hget : ∀ i, i < d.size → L.getD i (0, 0) = d[i]!.v := fun i hi => by
    rw [← hd, List.getD_eq_getElem?_getD, List.getElem?_map, Array.getElem?_toList, Array.getElem?_eq_getElem hi, getElem!_pos d i hi]
    rfl
  have hblk : g < w.heap.size := by
    rcases hown.2 with ⟨h, _⟩ | ⟨g', c', cur, h, _, hb, _⟩
    · cases h
    · cases h
      exact (Array.getElem?_eq_some_iff.1 hb).1
  have hH : HoldsK encQ 2 w g 0 d := by
    intro j hj
    rw [size_flatK] at hj
    have h2 : j / 2 < L.length := by omega
    obtain ⟨p0, p1⟩ := pm_at L (j / 2) h2
    have c0 := hown.cells (g := g) rfl _ _ p0
    have c1 := hown.cells (g := g) rfl _ _ p1
    rw [add_flat rfl, hget _ (by omega)] at c0 c1
    have e : (flatK encQ 2 d)[j]! = (encQ d[j / 2]!)[j % 2]! := get_flatK _ _ _ _ hj
    have hfr : w.frozen? ⟨g, 0 + j, none⟩ = false := by
      rcases hown.2 with ⟨h, _⟩ | ⟨g', c', cur, h, _, hb, _⟩
      · cases h
      · cases h
        simp [World.frozen?, hb]
    refine ⟨?_, hfr⟩
    rcases Nat.mod_two_eq_zero_or_one j with h | h
    · rw [e, h]
      have : 0 + j = 0 + j / 2 * 2 := by omega
      rw [this]
      exact c0
    · rw [e, h]
      have : 0 + j = 0 + (j / 2 * 2 + 1) := by omega
      rw [this]
      exact c1
  have h := sort_any g 0 cap d w hH hblk (by omega)
  rw [hs] at h
  refine h.mono ?_
  rintro e w' ⟨rfl, d', m, os, ⟨hs', _, hp⟩, hso, rfl⟩
  refine ⟨rfl, grown_sortK d', fun i hi => ?_⟩
  have hsz : d'.size = L.length := by rw [hs', hs]
  have hH' := holdsK_sortWorldK encQ 2 w g 0 m d d' os hblk hH hs'
  have R : iso L = d'.toList.map QB.v := by
    refine (IsSrt.unique (L := L) (fun x hx => (hL x hx).1) (iso_srt fun x hx => (hL x hx).1.1) ⟨?_, ?_⟩)
    · rw [← hd]
      refine List.Perm.map _ ?_
      have e1 : (d'.extract 0 L.length) = d' := by rw [← hsz]; exact Array.extract_size
      have e2 : (d.extract 0 L.length) = d := by rw [← hs]; exact Array.extract_size
      rw [e1, e2] at hp
      exact hp
    · rw [List.pairwise_iff_getElem]
      intro a b ha hb hab
      rw [List.length_map, Array.length_toList] at ha hb
      have := hso a b (Nat.zero_le _) hab (by omega)
      rw [ltQ_false, getElem!_pos d' a ha, getElem!_pos d' b hb] at this
      simpa using this
  have hi' : i < d'.size := by omega
  have hg : (iso L).getD i (0, 0) = d'[i]!.v := by
    rw [R, List.getD_eq_getElem?_getD, List.getElem?_map, Array.getElem?_toList, Array.getElem?_eq_getElem hi', getElem!_pos d' i hi']
    rfl
  have c0 := (hH'.cell hi' (show 0 < 2 by decide)).1
  have c1 := (hH'.cell hi' (show 1 < 2 by decide)).1
  rw [hg]
  exact ⟨c0, c1⟩

end Go.Proofs.Ytbhndfnfohoidaa
