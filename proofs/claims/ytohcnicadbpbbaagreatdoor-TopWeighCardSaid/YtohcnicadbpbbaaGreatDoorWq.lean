/- What a walk says of slices of arrays of two ratios: RdQ (read by four index functions), OwnQ (a row of the call's own), append of one inside a fence. -/
import Derived.Test.YtohcnicadbpbbaaGreatDoorMA
import Derived.Test.YtohcnicadbpbbaaGreatDoorMC
import Derived.Laws.OwnMore
import Derived.Deep.AppendSrc
namespace Go.Firn
open Go.RowKit

/-- The cells of the first k arrays of two ratios. -/
def qv (A B C D : Nat → Int) : Nat → List Value
  | 0 => []
  | k + 1 => qv A B C D k ++ [.int .i64 (A k), .int .i64 (B k), .int .i64 (C k), .int .i64 (D k)]
theorem qv_len (A B C D : Nat → Int) : ∀ k, (qv A B C D k).length = k * 4
  | 0 => rfl
  | k + 1 => by
    show (qv A B C D k ++ _).length = _
    rw [List.length_append, qv_len A B C D k]
    simp
    omega
theorem qv_at (A B C D : Nat → Int) : ∀ {k i : Nat}, i < k → (qv A B C D k)[i * 4]? = some (.int .i64 (A i)) ∧ (qv A B C D k)[i * 4 + 1]? = some (.int .i64 (B i)) ∧ (qv A B C D k)[i * 4 + 2]? = some (.int .i64 (C i)) ∧ (qv A B C D k)[i * 4 + 3]? = some (.int .i64 (D i))
  | 0, _, h => by omega
  | k + 1, i, h => by
    have l := qv_len A B C D k
    show (qv A B C D k ++ [_, _, _, _])[_]? = _ ∧ (qv A B C D k ++ [_, _, _, _])[_]? = _ ∧ (qv A B C D k ++ [_, _, _, _])[_]? = _ ∧ (qv A B C D k ++ [_, _, _, _])[_]? = _
    rcases Nat.lt_or_ge i k with h1 | h1
    · obtain ⟨a, b, c, d⟩ := qv_at A B C D h1
      rw [List.getElem?_append_left (by omega), List.getElem?_append_left (by omega), List.getElem?_append_left (by omega), List.getElem?_append_left (by omega)]
      exact ⟨a, b, c, d⟩
    · obtain rfl : i = k := by omega
      rw [List.getElem?_append_right (by omega), List.getElem?_append_right (by omega), List.getElem?_append_right (by omega), List.getElem?_append_right (by omega), l]
      rw [show i * 4 - i * 4 = 0 by omega, show i * 4 + 1 - i * 4 = 1 by omega, show i * 4 + 2 - i * 4 = 2 by omega, show i * 4 + 3 - i * 4 = 3 by omega]
      exact ⟨rfl, rfl, rfl, rfl⟩

/-- The slice at a, of n arrays of two ratios, reads as A, B, C, D. -/
def RdQ (w : World) (a : Option Addr) (n : Nat) (A B C D : Nat → Int) : Prop :=
  n = 0 ∨ ∃ b o, a = some ⟨b, o, none⟩ ∧ ∀ i, i < n → w.cell? ⟨b, o + i * 4, none⟩ = some (.int .i64 (A i)) ∧ w.cell? ⟨b, o + i * 4 + 1, none⟩ = some (.int .i64 (B i)) ∧ w.cell? ⟨b, o + i * 4 + 2, none⟩ = some (.int .i64 (C i)) ∧ w.cell? ⟨b, o + i * 4 + 3, none⟩ = some (.int .i64 (D i))
theorem RdQ.gr {w w' : World} {a : Option Addr} {n : Nat} {A B C D : Nat → Int} (h : RdQ w a n A B C D) (k : Gr w w') : RdQ w' a n A B C D := by
  rcases h with h | ⟨b, o, ha, hc⟩
  · exact .inl h
  · exact .inr ⟨b, o, ha, fun i hi => ⟨k.cell (hc i hi).1, k.cell (hc i hi).2.1, k.cell (hc i hi).2.2.1, k.cell (hc i hi).2.2.2⟩⟩
theorem RdQ.at {w : World} {a : Option Addr} {n : Nat} {A B C D : Nat → Int} (h : RdQ w a n A B C D) {k : Nat} (hk : k < n) :
    ∃ b o, a = some ⟨b, o, none⟩ ∧ ∀ i, i < n → w.cell? ⟨b, o + i * 4, none⟩ = some (.int .i64 (A i)) ∧ w.cell? ⟨b, o + i * 4 + 1, none⟩ = some (.int .i64 (B i)) ∧ w.cell? ⟨b, o + i * 4 + 2, none⟩ = some (.int .i64 (C i)) ∧ w.cell? ⟨b, o + i * 4 + 3, none⟩ = some (.int .i64 (D i)) := by
  rcases h with h | h
  · omega
  · exact h

/-- A row of the call's own that holds A, B, C, D. -/
def OwnQ (w0 : World) (e : TypeId) (w : World) (v : Value) (k : Nat) (A B C D : Nat → Int) : Prop := w.ownsRow w0.heap.size e 4 v k (qv A B C D k) ∧ Gr w0 w
theorem OwnQ.nil' {w0 w : World} (g : Gr w0 w) (e : TypeId) (A B C D : Nat → Int) : OwnQ w0 e w (.slice none 0 0) 0 A B C D := ⟨World.ownsRow_nil w _ _ _, g⟩
theorem OwnQ.gr {w0 w w' : World} {e : TypeId} {v : Value} {k : Nat} {A B C D : Nat → Int} (h : OwnQ w0 e w v k A B C D) (g : Gr w w') : OwnQ w0 e w' v k A B C D :=
  ⟨h.1.kept (row := none) ⟨g.os, g.tape, g.output, Gr.size g, fun k hk _ => Below.block g k hk⟩ (by cases v.ownBlock <;> simp), h.2.trans g⟩
theorem OwnQ.alloc {w0 w : World} {e : TypeId} {v : Value} {k : Nat} {A B C D : Nat → Int} (h : OwnQ w0 e w v k A B C D) (o : Obj) : OwnQ w0 e (w.alloc o) v k A B C D := h.gr ((Gr.refl w).alloc o)
theorem OwnQ.one {w0 w : World} (g : Gr w0 w) (e : TypeId) {b : Nat} (hb : w.heap.size = b) {A B C D : Nat → Int} {p q r s : Int} (h : A 0 = p ∧ B 0 = q ∧ C 0 = r ∧ D 0 = s) : OwnQ w0 e (w.alloc (.cells #[.int .i64 p, .int .i64 q, .int .i64 r, .int .i64 s] e)) (.slice (some ⟨b, 0, none⟩) 1 1) 1 A B C D := by
  subst hb
  obtain ⟨rfl, rfl, rfl, rfl⟩ := h
  exact ⟨World.ownsRow_lit w _ 1 g.size (by unfold maxLen; omega) rfl, g.alloc _⟩
theorem OwnQ.rd {w0 w : World} {e : TypeId} {v : Value} {k : Nat} {A B C D : Nat → Int} (h : OwnQ w0 e w v k A B C D) : ∃ a c, v = .slice a k c ∧ k ≤ c ∧ c ≤ maxLen ∧ RdQ w a k A B C D := by
  have h0 := h.1
  obtain ⟨hl, hv⟩ := h.1
  rcases hv with ⟨rfl, hz⟩ | ⟨g, cap, cur, rfl, hb, hg, hnc, hcm, hcs, htake⟩
  · rw [hz]; exact ⟨none, 0, rfl, Nat.le_refl _, by unfold maxLen; omega, .inl rfl⟩
  · refine ⟨_, _, rfl, hnc, hcm, .inr ⟨g, 0, rfl, fun i hi => ?_⟩⟩
    obtain ⟨p0, p1, p2, p3⟩ := qv_at A B C D hi
    have c0 := h0.cells (g := g) rfl _ _ p0
    have c1 := h0.cells (g := g) rfl _ _ p1
    have c2 := h0.cells (g := g) rfl _ _ p2
    have c3 := h0.cells (g := g) rfl _ _ p3
    rw [add_flat rfl] at c0 c1 c2 c3
    exact ⟨c0, by rw [Nat.add_assoc]; exact c1, by rw [Nat.add_assoc]; exact c2, by rw [Nat.add_assoc]; exact c3⟩

theorem info_quad {P : Program} {e : TypeId} (h : (P.info? e).map (fun i => (i.zero, i.size, i.bytes)) = some (some (.agg #[.int .i64 0, .int .i64 0, .int .i64 0, .int .i64 0]), 4, 32)) :
    ∃ i, P.info? e = some i ∧ i.zero = some (.agg #[.int .i64 0, .int .i64 0, .int .i64 0, .int .i64 0]) ∧ i.size = 4 ∧ i.bytes = 32 := by
  cases hi : P.info? e with
  | none => rw [hi] at h; cases h
  | some i => rw [hi] at h; simp at h; exact ⟨i, rfl, h.1, h.2.1, h.2.2⟩

/-- Where the row lies behind an append of one. -/
theorem app_quad_block {P : Program} {t e ty : TypeId} (ht : P.underlying t = some (.slice e)) {i : TypeInfo} (hi : P.info? e = some i) (hz : i.zero = some (.agg #[.int .i64 0, .int .i64 0, .int .i64 0, .int .i64 0])) (hsz : i.size = 4) (hby : i.bytes = 32)
    {w0 w w' : World} {v r : Value} {k : Nat} {A B C D : Nat → Int} (hown : OwnQ w0 e w v k A B C D) (h0 : 0 < k) (hk : k < 200) {g : Nat} {news : List Value} (src : Src P i.size t (.slice (some ⟨g, 0, none⟩) 1 1) 1 news w)
    (hrun : (Builtin.append_ #[t, t] ty #[v, .slice (some ⟨g, 0, none⟩) 1 1]).run P w = .ok r w') : r.ownBlock = v.ownBlock ∨ r.ownBlock = some w.heap.size := by
  have hl : news.length = 4 := by rw [src.newsLen, hsz]
  rcases hown.1.2 with ⟨_, hz⟩ | ⟨b, cap, cur, rfl, hb, hg, hnc, hcm, hcs, htake⟩
  · omega
  · by_cases hr : k + 1 ≤ cap
    · have run := run_append_room_src (P := P) w t t ty e i ht hi b 0 k cap _ 1 news src hr
        (fun j hj => by
          rw [cell_of_row w b _ cur e (0, 0) hg, hsz]
          have : k * 4 + j < cur.size := by rw [hcs]; omega
          simp [this])
        (fun j hj => frozen_of_row w b _ cur e hg)
      rw [run] at hrun
      cases hrun
      exact .inl rfl
    · have old : (Builtin.firstCells i.size k (.slice (some ⟨b, 0, none⟩) k cap)).run P w.drew = .ok (qv A B C D k).toArray w.drew :=
        run_firstCells_some _ _ _ _ _ _ _ (by rw [qv_len, hsz]) (fun j u hu => by simpa using hown.1.cells (g := b) rfl j u hu)
      have run := run_append_grow_src (P := P) w t t ty e i _ ht hi hz (some ⟨b, 0, none⟩) k cap (qv A B C D k) old _ 1 news src (by omega) (by omega) (by
        rw [hby]
        have : Builtin.nextslicecap (k + 1) cap ≤ 4 * 100000 + 1000000 := by
          unfold Builtin.nextslicecap
          repeat' split
          all_goals omega
        omega)
      rw [run] at hrun
      cases hrun
      exact .inr rfl

/-- append(v, m) inside a fence: the row with one array more. -/
theorem wpIn_app_quad {F : Fence} {n : Nat} {P : Program} {o : Oper} {a : Act} {K : Act → World → Prop} {Q : Exit → Act → World → Prop} (s x : Operand) (t e : TypeId)
    (ho : o.op = .call { callee := .builtin .append, args := #[s, x], argTypes := #[t, t] })
    (ht : P.underlying t = some (.slice e)) (hinfo : (P.info? e).map (fun i => (i.zero, i.size, i.bytes)) = some (some (.agg #[.int .i64 0, .int .i64 0, .int .i64 0, .int .i64 0]), 4, 32))
    {w0 w : World} (v : Value) (k : Nat) (A B C D : Nat → Int) (hs : a.eval s = v) (hown : OwnQ w0 e w v k A B C D)
    (g : Nat) {p q r z : Int} (hx : a.eval x = .slice (some ⟨g, 0, none⟩) 1 1) (hg : w.cell? ⟨g, 0, none⟩ = some (.int .i64 p) ∧ w.cell? ⟨g, 1, none⟩ = some (.int .i64 q) ∧ w.cell? ⟨g, 2, none⟩ = some (.int .i64 r) ∧ w.cell? ⟨g, 3, none⟩ = some (.int .i64 z))
    (hf : A k = p ∧ B k = q ∧ C k = r ∧ D k = z) (hk : k < 200)
    (h : ∀ v' w', OwnQ w0 e w' v' (k + 1) A B C D → w.grownBy w' v.ownBlock → (0 < k → v'.ownBlock = v.ownBlock ∨ v'.ownBlock = some w.heap.size) → K (a.put o.dst v') w') : o.wpIn F n P a w K Q := by
  obtain ⟨i0, hi, hz0, hz1, hz2⟩ := info_quad hinfo
  obtain ⟨rfl, rfl, rfl, rfl⟩ := hf
  obtain ⟨v', w', hrun, r1, r2, _⟩ := run_append_own (P := P) w w0.heap.size t o.type e i0 _ 4 32 ht hi hz0 hz1 hz2 rfl (by decide) v k (qv A B C D k) hown.1 ⟨g, 0, none⟩ 1 1 [.int .i64 (A k), .int .i64 (B k), .int .i64 (C k), .int .i64 (D k)] rfl (fun j u hu => by
    rw [add_flat rfl]
    match j, hu with
    | 0, hu => simp at hu; subst hu; exact hg.1
    | 1, hu => simp at hu; subst hu; exact hg.2.1
    | 2, hu => simp at hu; subst hu; exact hg.2.2.1
    | 3, hu => simp at hu; subst hu; exact hg.2.2.2
    | j + 4, hu => simp at hu) (by simp [Value.oneCell']) (by unfold maxLen; omega) (by omega) hown.2.size
  have src : Src P i0.size t (.slice (some ⟨g, 0, none⟩) 1 1) 1 [.int .i64 (A k), .int .i64 (B k), .int .i64 (C k), .int .i64 (D k)] w := Src.ofSlice w ht _ _ _ _ (by rw [hz1]; rfl) (fun j u hu => by
    rw [add_flat rfl]
    match j, hu with
    | 0, hu => simp at hu; subst hu; exact hg.1
    | 1, hu => simp at hu; subst hu; exact hg.2.1
    | 2, hu => simp at hu; subst hu; exact hg.2.2.1
    | 3, hu => simp at hu; subst hu; exact hg.2.2.2
    | j + 4, hu => simp at hu) (by simp [Value.oneCell'])
  unfold Oper.wpIn
  refine ⟨?_, ?_⟩
  · simp [Oper.about, ho, resolve, Target.leads, Sem.run_pure]
  · rw [Oper.semAt_plain F _ _ (by rw [ho]; intro c hc'; cases hc')]
    simp [execOp, ho, resolve, invoke, builtin, hs, hx, hrun, Result.andThen]
    exact h v' w' ⟨r1, hown.2.grown r2 fun k hk => (hown.1.lt k hk).1⟩ r2 fun h0 => app_quad_block ht hi hz0 hz1 hz2 hown h0 hk src hrun

theorem cell_new4 (w : World) (p q r s : Int) (e : TypeId) {b : Nat} (hb : w.heap.size = b) : (w.alloc (.cells #[.int .i64 p, .int .i64 q, .int .i64 r, .int .i64 s] e)).cell? ⟨b, 0, none⟩ = some (.int .i64 p) ∧ (w.alloc (.cells #[.int .i64 p, .int .i64 q, .int .i64 r, .int .i64 s] e)).cell? ⟨b, 1, none⟩ = some (.int .i64 q) ∧
    (w.alloc (.cells #[.int .i64 p, .int .i64 q, .int .i64 r, .int .i64 s] e)).cell? ⟨b, 2, none⟩ = some (.int .i64 r) ∧ (w.alloc (.cells #[.int .i64 p, .int .i64 q, .int .i64 r, .int .i64 s] e)).cell? ⟨b, 3, none⟩ = some (.int .i64 s) := by
  have g := Gr.refl (w.alloc (.cells #[.int .i64 p, .int .i64 q, .int .i64 r, .int .i64 s] e))
  exact ⟨(g.fresh' hb rfl).1, (g.fresh' hb rfl).1, (g.fresh' hb rfl).1, (g.fresh' hb rfl).1⟩

/-- A slice of arrays of two ratios, and an error. -/
def RetQ (n : Nat) (A B C D : Nat → Int) (err : Int) (w : World) (e : Ending) (w' : World) : Prop :=
  ∃ a c, e = .returned (.tuple #[.slice a n c, .int .i64 err]) ∧ n ≤ c ∧ c ≤ maxLen ∧ RdQ w' a n A B C D ∧ Gr w w'

end Go.Firn
