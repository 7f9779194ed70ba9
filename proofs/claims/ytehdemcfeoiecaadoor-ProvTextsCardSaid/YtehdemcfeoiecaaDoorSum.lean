/- Sums: slices of products as a walk reads them; opening an argument; bytes of texts. -/
import Derived.Test.YtehdemcfeoiecaaDoorCorm
import Derived.Laws.IdiomStrings
import Derived.Sort.Walk0
namespace Go.Firn
open Go.RowKit Go.Deep

/-- The slice at a, of n products, reads as (f 0, g 0), (f 1, g 1), .. -/
def RdS (w : World) (a : Option Addr) (n : Nat) (f : Nat → ByteArray) (g : Nat → Int) : Prop :=
  n = 0 ∨ ∃ b o, a = some ⟨b, o, none⟩ ∧ ∀ i, i < n → w.cell? ⟨b, o + i * 2, none⟩ = some (.string (f i)) ∧ w.cell? ⟨b, o + i * 2 + 1, none⟩ = some (.int .i64 (g i))
theorem RdS.gr {w w' : World} {a : Option Addr} {n : Nat} {f : Nat → ByteArray} {g : Nat → Int} (h : RdS w a n f g) (k : Gr w w') : RdS w' a n f g := by
  rcases h with h | ⟨b, o, ha, hc⟩
  · exact .inl h
  · exact .inr ⟨b, o, ha, fun i hi => ⟨k.cell (hc i hi).1, k.cell (hc i hi).2⟩⟩
theorem RdS.congr {w : World} {a : Option Addr} {n : Nat} {f f' : Nat → ByteArray} {g g' : Nat → Int} (h : RdS w a n f g) (e : ∀ i, i < n → f i = f' i ∧ g i = g' i) : RdS w a n f' g' := by
  rcases h with h | ⟨b, o, ha, hc⟩
  · exact .inl h
  · exact .inr ⟨b, o, ha, fun i hi => by rw [(hc i hi).1, (hc i hi).2, (e i hi).1, (e i hi).2]; exact ⟨rfl, rfl⟩⟩
theorem RdS.nil (w : World) (a : Option Addr) (f : Nat → ByteArray) (g : Nat → Int) : RdS w a 0 f g := .inl rfl
theorem RdS.at {w : World} {a : Option Addr} {n : Nat} {f : Nat → ByteArray} {g : Nat → Int} (h : RdS w a n f g) {k : Nat} (hk : k < n) :
    ∃ b o, a = some ⟨b, o, none⟩ ∧ ∀ i, i < n → w.cell? ⟨b, o + i * 2, none⟩ = some (.string (f i)) ∧ w.cell? ⟨b, o + i * 2 + 1, none⟩ = some (.int .i64 (g i)) := by
  rcases h with h | h
  · omega
  · exact h

section
variable {H : Type} {enc : TypeId × Value → H} {P : Program} {w : World} {base : Nat} {spare : Nat → Bool} {held : Bool}
/-- The text of a value. -/
def strOf : Value → ByteArray
  | .string s => s
  | _ => ByteArray.empty
/-- Opening an argument that is a sum. -/
theorem RdS.of_trod {t e S E : TypeId} {f0 f1 : Field} {fuel : Nat} {a : Option Addr} {len cap : Nat} {x : DataW H × List MemPlace} (ht : P.underlying t = some (.slice e)) (he : P.underlying e = some (.struct #[f0, f1]))
    (ce : P.cellsOf e = 2) (h0 : f0.offset = 0 ∧ f0.type = S) (h1 : f1.offset = 1 ∧ f1.type = E) (cS : P.cellsOf S = 1) (cE : P.cellsOf E = 1) (hS : P.underlying S = some .string) (hE : P.underlying E = some (.int .i64))
    (h : DataW.trod enc P w base spare held fuel t [.slice a len cap] = some x) :
    ∃ (f : Nat → ByteArray) (g : Nat → Int), len ≤ 9223372036854775807 ∧ (∀ i, i < len → (f i).size ≤ 9223372036854775807 ∧ (Lit.int .i64 (g i)).wf = true) ∧ RdS w a len f g := by
  obtain ⟨o0, t0⟩ := h0
  obtain ⟨o1, t1⟩ := h1
  rcases open_slice_pairs ht he ce o0 o1 (by rw [t0]; exact cS) (by rw [t1]; exact cE) h with ⟨hcs, _⟩ | ⟨ad, l, c, m, n, V0, V1, D0, D1, P0, P1, hcs, _, hl, hm, hmm, _, hx⟩
  · simp only [List.cons.injEq, and_true, Value.slice.injEq] at hcs
    obtain ⟨rfl, rfl, rfl⟩ := hcs
    exact ⟨fun _ => ByteArray.empty, fun _ => 0, by omega, fun i hi => by omega, .inl rfl⟩
  · simp only [List.cons.injEq, and_true, Value.slice.injEq] at hcs
    obtain ⟨rfl, rfl, rfl⟩ := hcs
    have hlm : len ≤ m := by rw [hmm]; split <;> omega
    have each : ∀ i, i < m → (V0 i = .string (strOf (V0 i)) ∧ (strOf (V0 i)).size ≤ maxLen) ∧ (V1 i = .int .i64 (intOf (V1 i)) ∧ (Lit.int .i64 (intOf (V1 i))).wf = true) := by
      intro i hi
      obtain ⟨_, _, h2, h3⟩ := hx i hi
      rw [t0] at h2
      rw [t1] at h3
      obtain ⟨p, hp, _, wp⟩ := DataW.trod_string hS h2
      obtain ⟨q, hq, _, wq⟩ := DataW.trod_int hE h3
      simp only [List.cons.injEq, and_true] at hp hq
      rw [hp, hq]
      exact ⟨⟨rfl, wp⟩, rfl, wq⟩
    refine ⟨fun i => strOf (V0 i), fun i => intOf (V1 i), ?_, fun i hi => ⟨?_, (each i (by omega)).2.2⟩, ?_⟩
    · unfold maxLen at hm; omega
    · have := (each i (by omega)).1.2
      unfold maxLen at this
      omega
    by_cases hz : len = 0
    · exact .inl hz
    right
    have hs : ad.spot = none := by
      have := World.cell?_spot (hx 0 (by omega)).1
      simpa [Addr.add] using this
    refine ⟨ad.block, ad.off, by rw [← hs], fun i hi => ?_⟩
    obtain ⟨g0, g1, _, _⟩ := hx i (by omega)
    rw [add_flat hs] at g0 g1
    exact ⟨by rw [g0, ← (each i (by omega)).1.1], by rw [← Nat.add_assoc] at g1; rw [g1, ← (each i (by omega)).2.1]⟩
end

/-- A byte of a text. -/
def bt (s : ByteArray) (i : Nat) : Nat := (s.data.toList.getD i 0).toNat
theorem bt_lt (s : ByteArray) (i : Nat) : bt s i < 256 := (s.data.toList.getD i 0).toNat_lt
theorem bt_get {s : ByteArray} {i : Nat} (h : i < s.size) : (s[i]'h).toNat = bt s i := by
  unfold bt
  have hl : i < s.data.toList.length := by simpa using h
  rw [List.getD_eq_getElem?_getD, List.getElem?_eq_getElem hl]
  rfl
/-- The walk's look at a byte. -/
theorem bt_look {P : Program} {t : TypeId} (ht : P.underlying t = some .string) {s : ByteArray} {i : Nat} (h : i < s.size) (w : World) : (Instr.index t (.string s) (.int .i64 (i : Int))).run P w = .ok (.int .u8 (bt s i : Nat)) w := by
  rw [run_index_string _ _ _ _ _ ht, dif_pos (by omega)]
  have : (s[(i : Int).toNat]'(by omega)).toNat = bt s i := bt_get h
  rw [this]

/-- []byte(s). -/
theorem conv_bytes {P : Program} {src dst e : TypeId} (hs : P.underlying src = some .string) (hd : P.underlying dst = some (.slice e)) (he : P.underlying e = some (.int .u8)) (s : ByteArray) (w : World) :
    ∃ b cp W1, (convert src dst (.string s)).run P w = .ok (.slice (some ⟨b, 0, none⟩) s.size cp) W1 ∧ Gr w W1 ∧ w.heap.size ≤ b ∧ b < W1.heap.size ∧ s.size ≤ cp ∧ (∀ j, j < s.size → W1.cell? ⟨b, j, none⟩ = some (.int .u8 (bt s j : Nat)) ∧ W1.frozen? ⟨b, j, none⟩ = false) := by
  refine ⟨w.heap.size, _, _, run_bytes_of_string w src dst e s hs hd he, ((Gr.refl w).drew).alloc _, Nat.le_refl _, by simp, grownCap_ge _ _ _ _, fun j hj => ?_⟩
  have hj' : j < s.data.size := hj
  refine ⟨?_, ?_⟩
  · have := World.cell?_alloc_mark w.drew (bytesRow s (grownCap w s.size 0 e)) e ((bytesRow s (grownCap w s.size 0 e)).size, (bytesRow s (grownCap w s.size 0 e)).size + 1) j
    rw [bytesRow_at s _ j hj'] at this
    rw [show w.drew.heap.size = w.heap.size from rfl] at this
    rw [this, ← bt_get hj]
    rfl
  · have := World.frozen?_alloc_mark w.drew (bytesRow s (grownCap w s.size 0 e)) e (bytesRow s (grownCap w s.size 0 e)).size ((bytesRow s (grownCap w s.size 0 e)).size + 1) j
    rw [show w.drew.heap.size = w.heap.size from rfl] at this
    rw [this]
    have : ¬ (bytesRow s (grownCap w s.size 0 e)).size ≤ j := by unfold bytesRow; simp; omega
    simp [this]

end Go.Firn
