/- Contracts of chapter 2: hits in the order of time. -/
import Derived.Test.YtjokheeegcilhaaDoorPF
import Derived.Test.YtjokheeegcilhaaDoorSheln
import Derived.Test.YtjokheeegcilhaaDoorWE
namespace Go.Proofs.YtjokheeegcilhaaDoor
open Go.RowKit Go.Firn Go.Shelf Go.Sort

theorem isNaN_any (x : Int) (w : World) : Calls Tryd.prog 112 #[.int .i64 x] w fun e w' => e = .returned (.bool false) ∧ w' = w := by
  go_enter Tryd.func112, Tryd.ntmps112
  go_wp2
  go_ret
  exact ⟨rfl, rfl⟩

/-- The sign of a comparison. -/
def cmpI (x y : Int) : Int := if x < y then -1 else if y < x then 1 else 0
theorem Compare_any (x y : Int) (w : World) : Calls Tryd.prog 98 #[.int .i64 x, .int .i64 y] w fun e w' => e = .returned (.int .i64 (cmpI x y)) ∧ w' = w := by
  rcases Int.lt_trichotomy x y with h | h | h
  · have e : cmpI x y = -1 := by simp [cmpI, h]
    rw [e]
    have d1 : decide (x < y) = true := by simp; omega
    go_enter Tryd.func98, Tryd.ntmps98
    go_wp2_with (go_at_call 112; refine (isNaN_any _ _).mono ?_; rintro e w1 ⟨rfl, rfl⟩)
    go_ret
    exact ⟨rfl, rfl⟩
  · have e : cmpI x y = 0 := by simp [cmpI, h]
    rw [e]
    have d1 : decide (x < y) = false := by simp; omega
    have d2 : decide (y < x) = false := by simp; omega
    clear h
    go_enter Tryd.func98, Tryd.ntmps98
    go_wp2_with (go_at_call 112; refine (isNaN_any _ _).mono ?_; rintro e w1 ⟨rfl, rfl⟩)
    go_ret
    exact ⟨rfl, rfl⟩
  · have e : cmpI x y = 1 := by simp [cmpI, h]; omega
    rw [e]
    have d1 : decide (x < y) = false := by simp; omega
    have d2 : decide (y < x) = true := by simp; omega
    clear h
    go_enter Tryd.func98, Tryd.ntmps98
    go_wp2_with (go_at_call 112; refine (isNaN_any _ _).mono ?_; rintro e w1 ⟨rfl, rfl⟩)
    go_ret
    exact ⟨rfl, rfl⟩

/-- The comparison of two hits by their times. -/
theorem times_any (bx : Nat) (b0 o n c : Nat) (T : Nat → Int) (W : World) (hb : W.cell? ⟨bx, 0, none⟩ = some (.slice (some ⟨b0, o, none⟩) n c)) (hc : ∀ i, i < n → W.cell? ⟨b0, o + i * 2 + 1, none⟩ = some (.int .i64 (T i))) (i j : Nat) (hi : i < n) (hj : j < n) :
    Calls Tryd.prog 97 #[.int .i64 i, .int .i64 j, .pointer (some ⟨bx, 0, none⟩)] W fun e w' => e = .returned (.int .i64 (cmpI (T i) (T j))) ∧ ∃ q, w' = W.drewN q := by
  have ci := hc i hi
  have cj := hc j hj
  have i1 : (i : Int) < (n : Int) := by omega
  have i2 : (j : Int) < (n : Int) := by omega
  have C := Lib.hid (fun w1 => Compare_any (T i) (T j) w1)
  clear hc
  generalize T i = x at *
  generalize T j = y at *
  go_enter Tryd.func97, Tryd.ntmps97
  go_wp2
  go_quiet ((go_at_call 98; with_reducible exact Calls.quiet_of_same (C.out _)))
  go_wp2
  go_ret
  exact ⟨rfl, nq, rfl⟩

/-- An index as a value. -/
def encN {k : Nat} (x : Fin (k + 1)) : Value := .int .i64 (x.val : Nat)
def cfN {k : Nat} (T : Nat → Int) (x y : Fin (k + 1)) : Int := cmpI (T x.val) (T y.val)
theorem ltN {k : Nat} (T : Nat → Int) (x y : Fin (k + 1)) : ltOf (cfN T) x y = decide (T x.val < T y.val) := by
  unfold ltOf cfN cmpI
  by_cases h1 : T x.val < T y.val
  · simp [h1]
  · by_cases h2 : T y.val < T x.val <;> simp [h1, h2]
theorem swoN {k : Nat} (T : Nat → Int) : SWO (ltOf (cfN (k := k) T)) where
  irrefl x := by rw [ltN]; simp
  trans x y z h1 h2 := by rw [ltN, decide_eq_true_eq] at *; omega
  ntrans x y z h1 h2 := by rw [ltN, decide_eq_false_iff_not] at *; omega
theorem grown_sortN {k : Nat} {w : World} {g n : Nat} {os : Array Obj} (d : Array (Fin (k + 1))) : w.grownBy (sortWorld encN w g 0 n d os) (some g) := by
  unfold sortWorld
  refine ⟨rfl, rfl, rfl, by simp, fun k hk hne => ?_⟩
  rw [heap_grow_old _ _ (by simpa using hk)]
  have : g ≠ k := fun e => hne (by rw [e])
  simp [putRow, mapBlock, Sort.ahead, Array.getElem?_modify, this]

theorem line_any (bx b0 o k c b cap : Nat) (T : Nat → Int) (w : World) (hb : w.cell? ⟨bx, 0, none⟩ = some (.slice (some ⟨b0, o, none⟩) (k + 1) c)) (hc : ∀ i, i < k + 1 → w.cell? ⟨b0, o + i * 2 + 1, none⟩ = some (.int .i64 (T i)))
    (hr : RowG w b (k + 1) (iV fun i => i)) (h1 : bx ≠ b) (h2 : b0 ≠ b) (hk : k < 1000) :
    Calls Tryd.prog 96 #[.slice (some ⟨b, 0, none⟩) (k + 1 : Nat) cap, .func (.func 97) #[] #[.pointer (some ⟨bx, 0, none⟩)]] w fun e w' =>
      e = .returned (.tuple #[]) ∧ ∃ L, Lne (k + 1) T L ∧ RowG w' b (k + 1) (iV fun i => L.getD i 0) ∧ Wr b w w' := by
  obtain ⟨d, hd⟩ : ∃ d : Array (Fin (k + 1)), d.toList.map Fin.val = List.range (k + 1) := ⟨(List.finRange (k + 1)).toArray, by
    rw [List.toList_toArray]
    apply List.ext_getElem
    · simp
    · intro i h1 h2; simp⟩
  have hs : d.size = k + 1 := by rw [← Array.length_toList, ← List.length_map (f := Fin.val), hd, List.length_range]
  have hget : ∀ (d : Array (Fin (k + 1))) i, i < d.size → (d.toList.map Fin.val).getD i 0 = d[i]!.val := fun d i hi => by
    rw [List.getD_eq_getElem?_getD, List.getElem?_map, Array.getElem?_toList, Array.getElem?_eq_getElem hi, getElem!_pos d i hi]
    rfl
  have hH : Holds encN w b 0 d := fun j hj => by
    obtain ⟨r1, r2⟩ := hr j (by omega)
    rw [Nat.zero_add]
    refine ⟨?_, r2⟩
    rw [r1, iV_cell]
    have e := hget d j hj
    rw [hd] at e
    have : (List.range (k + 1)).getD j 0 = j := by rw [List.getD_eq_getElem?_getD, List.getElem?_range (by omega)]; rfl
    rw [this] at e
    unfold encN
    rw [← e]
  have hblk : b < w.heap.size := World.block_lt_of_cell? w _ (hr 0 (by omega)).1
  have hcmp : CmpLays1 Tryd.prog 97 #[.pointer (some ⟨bx, 0, none⟩)] encN (cfN T) b 0 d.size w := fun m os dk _ x y => by
    have G := grown_sortN (w := w) (g := b) (n := m) (os := os) dk
    refine (times_any bx b0 o (k + 1) c T _ (World.grownBy.cell G hb (fun e => h1 (Option.some.inj e))) (fun i hi => World.grownBy.cell G (hc i hi) (fun e => h2 (Option.some.inj e))) x.val y.val x.isLt y.isLt).mono ?_
    rintro e w' ⟨rfl, q, rfl⟩
    exact ⟨rfl, q, #[], by rw [grow_empty]⟩
  have key : Calls Tryd.prog 96 #[.slice (some ⟨b, 0, none⟩) d.size cap, .func (.func 97) #[] #[.pointer (some ⟨bx, 0, none⟩)]] w _ :=
    Any.slices_SortFunc Tryd.sortF encN (fun x => rfl) (cfN T) (swoN T) 97 #[.pointer (some ⟨bx, 0, none⟩)] b 0 cap d w (enters_of Tryd.func97 (by kernel_rfl) rfl) hcmp hH hblk (by omega)
  rw [hs] at key
  refine key.mono fun e w' ⟨e1, d', n, os, pm, so, ew⟩ => ⟨e1, d'.toList.map Fin.val, ?_, ?_, ?_⟩
  · have hs' : d'.size = k + 1 := by rw [pm.1, hs]
    have pp := pm.2.2
    have x1 : d'.extract 0 (k + 1) = d' := by have h : d'.extract 0 d'.size = d' := (by simp); rwa [hs'] at h
    have x2 : d.extract 0 (k + 1) = d := by have h : d.extract 0 d.size = d := (by simp); rwa [hs] at h
    rw [x1, x2] at pp
    refine ⟨by rw [← hd]; exact pp.map _, fun i j hi hj => ?_⟩
    have s := so i j (Nat.zero_le _) hi hj
    rw [ltN, decide_eq_false_iff_not] at s
    rw [hget d' i (by omega), hget d' j (by omega)]
    omega
  · have hs' : d'.size = d.size := pm.1
    have H2 := holds_putRow encN (Sort.ahead w n) b 0 _ d' (holds_ahead encN w n b 0 _ hH) hs'
    have hb2 : b < (putRow encN (Sort.ahead w n) b 0 d').heap.size := World.block_lt_of_cell? _ _ (by have := (H2 0 (by omega)).1; rwa [Nat.zero_add] at this)
    have H3 : Holds encN w' b 0 d' := by rw [ew]; exact holds_grow encN _ os b 0 d' hb2 H2
    intro i hi
    obtain ⟨r1, r2⟩ := H3 i (by omega)
    rw [Nat.zero_add] at r1 r2
    refine ⟨?_, r2⟩
    rw [r1, iV_cell, hget d' i (by omega)]
    rfl
  · rw [ew]; exact grown_sortN d'

theorem line_n (bx b0 o n c b cap : Nat) (T : Nat → Int) (w : World) (hb : w.cell? ⟨bx, 0, none⟩ = some (.slice (some ⟨b0, o, none⟩) n c)) (hc : ∀ i, i < n → w.cell? ⟨b0, o + i * 2 + 1, none⟩ = some (.int .i64 (T i)))
    (hr : RowG w b n (iV fun i => i)) (h1 : bx ≠ b) (h2 : b0 ≠ b) (hp : 1 ≤ n) (hk : n < 1000) :
    Calls Tryd.prog 96 #[.slice (some ⟨b, 0, none⟩) n cap, .func (.func 97) #[] #[.pointer (some ⟨bx, 0, none⟩)]] w fun e w' =>
      e = .returned (.tuple #[]) ∧ ∃ L, Lne n T L ∧ RowG w' b n (iV fun i => L.getD i 0) ∧ Wr b w w' := by
  obtain ⟨k, rfl⟩ : ∃ k, n = k + 1 := ⟨n - 1, by omega⟩
  exact line_any bx b0 o k c b cap T w hb hc hr h1 h2 (by omega)

end Go.Proofs.YtjokheeegcilhaaDoor
