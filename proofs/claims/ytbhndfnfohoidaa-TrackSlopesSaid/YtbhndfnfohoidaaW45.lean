/- A slice of ratios that is laid anew at each append: what the model's append does, and the place of a ratio among others. -/
import Derived.Test.YtbhndfnfohoidaaPS
import Derived.Test.YtbhndfnfohoidaaW19
import Derived.Test.YtbhndfnfohoidaaW44
import Derived.Test.YtbhndfnfohoidaaRhe
import Derived.Deep.AppendSrc
namespace Go.Proofs.Ytbhndfnfohoidaa
open Go.RowKit Go.Firn

/-- A slice that reads as L. -/
def RS (w : World) (v : Value) (L : List (Int × Int)) : Prop := (v = .slice none 0 0 ∧ L = []) ∨ ∃ b cl, v = .slice (some ⟨b, 0, none⟩) L.length cl ∧ L ≠ [] ∧ L.length ≤ cl ∧ cl ≤ maxLen ∧ RdM w (some ⟨b, 0, none⟩) L.length (px L) (py L)
theorem RS.gr {w w' : World} {v : Value} {L : List (Int × Int)} (h : RS w v L) (g : Gr w w') : RS w' v L := by
  rcases h with h | ⟨b, cl, h1, h2, h3, h4, h5⟩
  · exact .inl h
  · exact .inr ⟨b, cl, h1, h2, h3, h4, h5.gr g⟩

theorem cells_pm {w : World} {b o n : Nat} {L : List (Int × Int)} (hl : L.length = n) (h : ∀ i, i < n → w.cell? ⟨b, o + i * 2, none⟩ = some (.int .i64 (px L i)) ∧ w.cell? ⟨b, o + i * 2 + 1, none⟩ = some (.int .i64 (py L i))) : ∀ j u, (pm L)[j]? = some u → w.cell? ((⟨b, o, none⟩ : Addr).add j) = some u := fun j u hu => by
  rw [add_flat rfl]
  have hj : j < L.length * 2 := by
    rw [← pm_length]
    exact (List.getElem?_eq_some_iff.1 hu).1
  obtain ⟨p0, p1⟩ := pm_at L (j / 2) (by omega)
  obtain ⟨c0, c1⟩ := h (j / 2) (by omega)
  rcases Nat.mod_two_eq_zero_or_one j with e | e
  · have ej : j = j / 2 * 2 := by omega
    rw [ej] at hu ⊢
    rw [hu] at p0
    cases p0
    exact c0
  · have ej : j = j / 2 * 2 + 1 := by omega
    rw [ej] at hu ⊢
    rw [hu] at p1
    cases p1
    exact c1
theorem pm_one (L : List (Int × Int)) : ∀ u ∈ pm L, u.oneCell' = true := fun u hu => by
  unfold pm at hu
  obtain ⟨m, _, hm⟩ := List.mem_flatMap.1 hu
  simp at hm
  rcases hm with rfl | rfl <;> rfl

/-- append where nothing fits: a new row. -/
theorem run_cat {w : World} {base a2 : Option Addr} {k n c2 ty : Nat} {l1 l2 : List (Int × Int)} (h1 : RdM w base k (px l1) (py l1)) (e1 : l1.length = k) (h2 : RdM w a2 n (px l2) (py l2)) (e2 : l2.length = n) (hn : 0 < n) (hb : k + n < 250) :
    ∃ cap w', (Builtin.append_ #[38, 38] ty #[.slice base k k, .slice a2 n c2]).run Try.prog w = .ok (.slice (some ⟨w.heap.size, 0, none⟩) (k + n) cap) w' ∧ k + n ≤ cap ∧ cap ≤ maxLen ∧ Gr w w' ∧ RdM w' (some ⟨w.heap.size, 0, none⟩) (k + n) (px (l1 ++ l2)) (py (l1 ++ l2)) := by
  obtain ⟨i, hi, hz, hs, hby⟩ := info_pair Try.info27
  obtain ⟨b2, o2, rfl, c2'⟩ := h2.at hn
  have src : Src Try.prog i.size 38 (.slice (some ⟨b2, o2, none⟩) n c2) n (pm l2) w := Src.ofSlice w Try.underlying38 _ _ _ _ (by rw [pm_length, e2, hs]) (cells_pm e2 c2') (pm_one l2)
  have old : (Builtin.firstCells i.size k (.slice base k k)).run Try.prog w.drew = .ok (pm l1).toArray w.drew := by
    rcases Nat.eq_zero_or_pos k with h0 | h0
    · have : l1 = [] := List.length_eq_zero_iff.1 (by omega)
      subst this
      subst h0
      cases base with
      | none => exact run_firstCells_none _ _ _ _ _
      | some ad => exact run_firstCells_some _ _ _ _ _ _ _ (by simp [pm]) (fun j u hu => by simp [pm] at hu)
    · obtain ⟨b1, o1, rfl, c1'⟩ := h1.at h0
      exact run_firstCells_some _ _ _ _ _ _ _ (by rw [pm_length, e1, hs]) (fun j u hu => by simpa using cells_pm e1 c1' j u hu)
  have hnc : Builtin.nextslicecap (k + n) k * i.bytes ≤ 281474976710656 := by
    rw [hby]
    have : Builtin.nextslicecap (k + n) k ≤ 4 * 100000 + 1000000 := by
      unfold Builtin.nextslicecap
      split
      · omega
      · split
        · omega
        · omega
    omega
  have run := run_append_grow_src (P := Try.prog) w 38 38 ty 27 i _ Try.underlying38 hi hz base k k (pm l1) old (.slice (some ⟨b2, o2, none⟩) n c2) n (pm l2) src (by omega) (by omega) hnc
  refine ⟨_, _, run, grownCap_ge _ _ _ _, grownCap_le_maxLen _ _ _ _ (by unfold maxLen; omega), ((Gr.refl w).drew).alloc _, .inr ⟨w.heap.size, 0, rfl, fun j hj => ?_⟩⟩
  have el : (l1 ++ l2).length = k + n := by rw [List.length_append, e1, e2]
  obtain ⟨p0, p1⟩ := pm_at (l1 ++ l2) j (by omega)
  rw [pm_append] at p0 p1
  have hlen : (pm l1 ++ pm l2).length = (k + n) * 2 := by rw [← pm_append, pm_length, el]
  have fr := fun (t : Nat) (u : Value) (ht : (pm l1 ++ pm l2)[t]? = some u) => ((Gr.refl (w.drew.alloc (.cells ((pm l1 ++ pm l2).toArray ++ Builtin.zeroCells (Value.agg #[.int .i64 0, .int .i64 0]).cells (grownCap w (k + n) k 27 - (k + n))) 27))).fresh' (b := w.heap.size) (j := t) (v := u) (by simp) (by
    have h := (List.getElem?_eq_some_iff.1 ht).1
    rw [Array.getElem?_append_left (by simpa using h)]
    simpa using ht)).1
  refine ⟨?_, ?_⟩
  · rw [Nat.zero_add]; exact fr _ _ p0
  · rw [Nat.zero_add]; exact fr _ _ p1

/-- append of nothing. -/
theorem run_cat0 {w : World} {g c2 : Nat} {a2 : Option Addr} {ty : Nat} : (Builtin.append_ #[38, 38] ty #[.slice (some ⟨g, 0, none⟩) 1 1, .slice a2 0 c2]).run Try.prog w = .ok (.slice (some ⟨g, 0, none⟩) 1 1) w := by
  obtain ⟨i, hi, hz, hs, hby⟩ := info_pair Try.info27
  have src : Src Try.prog i.size 38 (.slice a2 0 c2) 0 [] w := by
    cases a2 with
    | none => exact Src.ofNil w Try.underlying38 _
    | some a => exact Src.ofSlice w Try.underlying38 a _ _ _ (by simp) (fun j u hu => by simp at hu) (fun u hu => by cases hu)
  have := run_append_room_src (P := Try.prog) w 38 38 ty 27 i Try.underlying38 hi g 0 1 1 (.slice a2 0 c2) 0 [] src (by omega) (fun j hj => by cases hj) (fun j hj => by cases hj)
  simpa [World.setCells] using this

/-- append onto a slice of one that is full. -/
theorem app1 {w : World} {g1 n c2 ty : Nat} {a2 : Option Addr} {r : Int × Int} {l2 : List (Int × Int)} (h1 : RdM w (some ⟨g1, 0, none⟩) 1 (px [r]) (py [r])) (h2 : RdM w a2 n (px l2) (py l2)) (e2 : l2.length = n) (hb : n < 200) :
    ∃ b3 cap w', (Builtin.append_ #[38, 38] ty #[.slice (some ⟨g1, 0, none⟩) 1 1, .slice a2 n c2]).run Try.prog w = .ok (.slice (some ⟨b3, 0, none⟩) (1 + n) cap) w' ∧ Gr w w' ∧ RdM w' (some ⟨b3, 0, none⟩) (1 + n) (px (r :: l2)) (py (r :: l2)) := by
  rcases Nat.eq_zero_or_pos n with h | h
  · subst h
    obtain rfl := List.length_eq_zero_iff.1 e2
    exact ⟨g1, 1, w, run_cat0, Gr.refl w, h1⟩
  · obtain ⟨cap, w', hr, _, _, g, rd⟩ := run_cat (ty := ty) (c2 := c2) h1 rfl h2 e2 h (by omega)
    exact ⟨_, cap, w', hr, g, rd⟩
theorem rd_take {w : World} {g t : Nat} {L : List (Int × Int)} (h : RdM w (some ⟨g, 0, none⟩) L.length (px L) (py L)) (ht : t ≤ L.length) : RdM w (some ⟨g, 0, none⟩) t (px (L.take t)) (py (L.take t)) := by
  rcases Nat.eq_zero_or_pos t with h0 | h0
  · exact .inl h0
  · obtain ⟨b, o, e, hc⟩ := h.at (show 0 < L.length by omega)
    refine .inr ⟨b, o, e, fun i hi => ?_⟩
    have hh := hc i (by omega)
    have : (L.take t).getD i (0, 0) = L.getD i (0, 0) := by rw [List.getD_eq_getElem?_getD, List.getD_eq_getElem?_getD, List.getElem?_take_of_lt hi]
    unfold px py at *
    rw [this]
    exact hh
theorem rd_drop {w : World} {g t cl : Nat} {L : List (Int × Int)} (h : RdM w (some ⟨g, 0, none⟩) L.length (px L) (py L)) (ht : t ≤ L.length) (hl : L.length ≤ cl) : RdM w (if cl = t then some ⟨g, 0, none⟩ else some ⟨g, t * 2, none⟩) (L.length - t) (px (L.drop t)) (py (L.drop t)) := by
  rcases Nat.eq_zero_or_pos (L.length - t) with h0 | h0
  · exact .inl h0
  · obtain ⟨b, o, e, hc⟩ := h.at (show 0 < L.length by omega)
    simp at e
    obtain ⟨rfl, rfl⟩ := e
    rw [if_neg (by omega)]
    refine .inr ⟨_, _, rfl, fun i hi => ?_⟩
    have hh := hc (t + i) (by omega)
    have : (L.drop t).getD i (0, 0) = L.getD (t + i) (0, 0) := by rw [List.getD_eq_getElem?_getD, List.getD_eq_getElem?_getD, List.getElem?_drop]
    unfold px py at *
    rw [this, show t * 2 + i * 2 = 0 + (t + i) * 2 by omega]
    exact hh
theorem rd_one {w : World} {g : Nat} {r : Int × Int} (h : Box2 w g r.1 r.2) : RdM w (some ⟨g, 0, none⟩) 1 (px [r]) (py [r]) := .inr ⟨g, 0, rfl, fun i hi => by
  obtain rfl : i = 0 := by omega
  exact ⟨h.1, h.2.1⟩⟩

/-- append inside a fence, by what the model's append does. -/
theorem wpIn_run {F : Fence} {n : Nat} {P : Program} {o : Oper} {a : Act} {K : Act → World → Prop} {Q : Exit → Act → World → Prop} (s x : Operand) (t : TypeId) (ho : o.op = .call { callee := .builtin .append, args := #[s, x], argTypes := #[t, t] })
    {w w' : World} {u v r : Value} (hs : a.eval s = u) (hx : a.eval x = v) (hrun : (Builtin.append_ #[t, t] o.type #[u, v]).run P w = .ok r w') (h : K (a.put o.dst r) w') : o.wpIn F n P a w K Q := by
  unfold Oper.wpIn
  refine ⟨?_, ?_⟩
  · simp [Oper.about, ho, resolve, Target.leads, Sem.run_pure]
  · rw [Oper.semAt_plain F _ _ (by rw [ho]; intro c hc'; cases hc')]
    simp [execOp, ho, resolve, invoke, builtin, hs, hx, hrun, Result.andThen]
    exact h

/-- A slope's size. -/
def Sl2 (x : Int × Int) : Prop := 0 < x.2 ∧ x.2 ≤ 200 ∧ -1000000 ≤ x.1 ∧ x.1 ≤ 1000000
theorem slp_sl2 {n : Nat} {X Y : Nat → Int} (ok : ∀ i, i < n → InP (X i) (Y i)) {q : Nat × Nat} (h : IsPr n X q) : Sl2 (slp X Y q) := ⟨(slp_rd ok h).1.1, (slp_rd ok h).2⟩

theorem ins_at {r : Int × Int} : ∀ {L : List (Int × Int)} {t : Nat}, t ≤ L.length → (∀ j, j < t → (L.getD j (0, 0)).1 * r.2 < r.1 * (L.getD j (0, 0)).2) → (t = L.length ∨ ¬ (L.getD t (0, 0)).1 * r.2 < r.1 * (L.getD t (0, 0)).2) → ins r L = L.take t ++ (r :: L.drop t)
  | [], t, ht, _, _ => by
    obtain rfl : t = 0 := by simpa using ht
    rfl
  | y :: L, 0, _, _, h => by
    unfold ins
    rcases h with h | h
    · simp at h
    · rw [if_neg (by simpa using h)]
      rfl
  | y :: L, t + 1, ht, hb, h => by
    unfold ins
    rw [if_pos (by simpa using hb 0 (by omega))]
    rw [ins_at (L := L) (t := t) (by simpa using ht) (fun j hj => by simpa using hb (j + 1) (by omega)) (by simpa using h)]
    rfl

end Go.Proofs.Ytbhndfnfohoidaa
