import Derived.Test.YtehdemcfeoiecaaGreatDoorN4
set_option maxHeartbeats 64000000
set_option maxRecDepth 100000
namespace Go.Proofs.YtehdemcfeoiecaaGreatDoor.RT
open Go.RowKit Go.Firn Go.Firn.Tb
structure Rw where
 y : Int
 fa : Option Addr
 fn : Nat
 fc : Nat
def pkr (raw : List Rw) : List Value := raw.flatMap fun x => [.int .i64 x.y, .slice x.fa x.fn x.fc]
theorem pkr_append (a b : List Rw) : pkr (a ++ b) = pkr a ++ pkr b := by simp [pkr]
theorem pkr_at : ∀ (raw : List Rw) (i : Nat) (x : Rw), raw[i]? = some x → (pkr raw)[i * 2]? = some (.int .i64 x.y) ∧ (pkr raw)[i * 2 + 1]? = some (.slice x.fa x.fn x.fc)
 | [], i, x, h => by simp at h
 | m :: ms, i, x, h => by
  have e : pkr (m :: ms) = .int .i64 m.y :: .slice m.fa m.fn m.fc :: pkr ms := rfl
  cases i with
  | zero => simp at h; subst h; rw [e]; exact ⟨rfl, rfl⟩
  | succ i =>
   have := pkr_at ms i x (by simpa using h)
   rw [e, show (i + 1) * 2 = i * 2 + 1 + 1 by omega]
   simpa using this
def RdR (w : World) (a : Option Addr) (n c : Nat) (raw : List Rw) : Prop := n = raw.length ∧ n ≤ c ∧ c ≤ 9223372036854775807 ∧ (a = none → c = 0) ∧ (n = 0 ∨ ∃ b o, a = some ⟨b, o, none⟩ ∧ ∀ i x, raw[i]? = some x → w.cell? ⟨b, o + i * 2, none⟩ = some (.int .i64 x.y) ∧ w.cell? ⟨b, o + i * 2 + 1, none⟩ = some (.slice x.fa x.fn x.fc))
theorem RdR.gr {w w' : World} {a : Option Addr} {n c : Nat} {raw : List Rw} (h : RdR w a n c raw) (g : Gr w w') : RdR w' a n c raw := by
 obtain ⟨h1, h2, h3, h4, h5⟩ := h
 refine ⟨h1, h2, h3, h4, ?_⟩
 rcases h5 with h5 | ⟨b, o, e, hc⟩
 ·exact .inl h5
 ·exact .inr ⟨b, o, e, fun i x hi => ⟨g.cell (hc i x hi).1, g.cell (hc i x hi).2⟩⟩
theorem RdR.at {w : World} {a : Option Addr} {n c : Nat} {raw : List Rw} (h : RdR w a n c raw) {k : Nat} (hk : k < n) : ∃ b o x, a = some ⟨b, o, none⟩ ∧ raw[k]? = some x ∧ w.cell? ⟨b, o + k * 2, none⟩ = some (.int .i64 x.y) ∧ w.cell? ⟨b, o + k * 2 + 1, none⟩ = some (.slice x.fa x.fn x.fc) := by
 obtain ⟨h1, h2, h3, h4, h5⟩ := h
 rcases h5 with h5 | ⟨b, o, e, hc⟩
 ·omega
 ·have hx : raw[k]? = some (raw[k]'(by omega)) := List.getElem?_eq_getElem (by omega)
  exact ⟨b, o, _, e, hx, hc k _ hx⟩
def OwnR (w0 w : World) (v : Value) (raw : List Rw) : Prop := w.ownsRow w0.heap.size 36 2 v raw.length (pkr raw) ∧ Gr w0 w
theorem OwnR.nil' {w0 w : World} (g : Gr w0 w) : OwnR w0 w (.slice none 0 0) [] := ⟨World.ownsRow_nil w _ _ _, g⟩
theorem OwnR.nil (w : World) : OwnR w w (.slice none 0 0) [] := OwnR.nil' (Gr.refl w)
theorem OwnR.gr {w0 w w' : World} {v : Value} {raw : List Rw} (h : OwnR w0 w v raw) (g : Gr w w') : OwnR w0 w' v raw :=
 ⟨h.1.kept (row := none) ⟨g.os, g.tape, g.output, Gr.size g, fun k hk _ => Below.block g k hk⟩ (by cases v.ownBlock <;> simp), h.2.trans g⟩
theorem OwnR.alloc {w0 w : World} {v : Value} {raw : List Rw} (h : OwnR w0 w v raw) (o : Obj) : OwnR w0 (w.alloc o) v raw := h.gr ((Gr.refl w).alloc o)
theorem OwnR.drew {w0 w : World} {v : Value} {raw : List Rw} (h : OwnR w0 w v raw) : OwnR w0 w.drew v raw := h.gr ((Gr.refl w).drew)
theorem OwnR.rd {w0 w : World} {v : Value} {raw : List Rw} (h : OwnR w0 w v raw) : ∃ a c, v = .slice a raw.length c ∧ RdR w a raw.length c raw := by
 have h0 := h.1
 obtain ⟨hl, hv⟩ := h.1
 rcases hv with ⟨rfl, hz⟩ | ⟨g, cap, cur, rfl, hb, hg, hnc, hcm, hcs, htake⟩
 ·exact ⟨none, 0, by rw [hz], rfl, by omega, by omega, fun _ => rfl, .inl hz⟩
 ·refine ⟨_, _, rfl, rfl, hnc, by unfold maxLen at hcm; omega, (fun k => by cases k), .inr ⟨g, 0, rfl, fun i x hi => ?_⟩⟩
  obtain ⟨p0, p1⟩ := pkr_at raw i x hi
  have c0 := h0.cells (g := g) rfl _ _ p0
  have c1 := h0.cells (g := g) rfl _ _ p1
  rw [add_flat rfl] at c0 c1
  exact ⟨c0, by rw [Nat.add_assoc]; exact c1⟩
theorem OwnR.blk {w0 w : World} {v : Value} {raw : List Rw} (h : OwnR w0 w v raw) : (v = .slice none 0 0 ∧ raw = []) ∨ ∃ g c cur, v = .slice (some ⟨g, 0, none⟩) raw.length c ∧ raw.length ≤ c ∧ c ≤ 9223372036854775807 ∧ w0.heap.size ≤ g ∧ g < w.heap.size ∧ w.heap[g]? = some (.cells cur 36 (0, 0)) ∧ ∀ i x, raw[i]? = some x → w.cell? ⟨g, i * 2, none⟩ = some (.int .i64 x.y) ∧ w.cell? ⟨g, i * 2 + 1, none⟩ = some (.slice x.fa x.fn x.fc) ∧ w.frozen? ⟨g, i * 2 + 1, none⟩ = false := by
 have h0 := h.1
 obtain ⟨hl, hv⟩ := h.1
 rcases hv with ⟨rfl, hz⟩ | ⟨g, cap, cur, rfl, hb, hg, hnc, hcm, hcs, htake⟩
 ·exact .inl ⟨rfl, List.length_eq_zero_iff.1 hz⟩
 ·refine .inr ⟨g, cap, cur, rfl, hnc, by unfold maxLen at hcm; omega, hb, (h0.lt g rfl).2, hg, fun i x hi => ?_⟩
  obtain ⟨p0, p1⟩ := pkr_at raw i x hi
  have c0 := h0.cells (g := g) rfl _ _ p0
  have c1 := h0.cells (g := g) rfl _ _ p1
  rw [add_flat rfl] at c0 c1
  simp only [Nat.zero_add] at c0 c1
  exact ⟨c0, c1, h0.frozenAt _⟩
theorem infoR : (Tryz.prog.info? 36).map (fun i => (i.zero, i.size, i.bytes)) = some (some (.agg #[.int .i64 0, .slice none 0 0]), 2, 32) := by kernel_rfl
theorem info_row : ∃ i, Tryz.prog.info? 36 = some i ∧ i.zero = some (.agg #[.int .i64 0, .slice none 0 0]) ∧ i.size = 2 ∧ i.bytes = 32 := by
 have h := infoR
 cases hi : Tryz.prog.info? 36 with
 | none => rw [hi] at h; cases h
 | some i => rw [hi] at h; simp at h; exact ⟨i, rfl, h.1, h.2.1, h.2.2⟩
theorem wpList_app_row {ops : Array Oper} {rest : List Oper} {o : Oper} {a : Act} {Q : Exit → Act → World → Prop} (hgd : o.guard = none) (s x : Operand) (t : TypeId)
 (ho : o.op = .call { callee := .builtin .append, args := #[s, x], argTypes := #[t, t] }) (ht : Tryz.prog.underlying t = some (.slice 36))
 {w0 w : World} (v : Value) (raw : List Rw) (hs : a.eval s = v) (hown : OwnR w0 w v raw)
 (g : Nat) (r : Rw) (hx : a.eval x = .slice (some ⟨g, 0, none⟩) 1 1) (hg : w.cell? ⟨g, 0, none⟩ = some (.int .i64 r.y) ∧ w.cell? ⟨g, 1, none⟩ = some (.slice r.fa r.fn r.fc)) (hk : raw.length < 999999)
 (h : ∀ v' w', OwnR w0 w' v' (raw ++ [r]) → w.grownBy w' v.ownBlock → wpList Tryz.prog ops Q rest (a.put o.dst v') w') : wpList Tryz.prog ops Q (o :: rest) a w := by
 obtain ⟨i0, hi, hz0, hz1, hz2⟩ := info_row
 refine wpList_append_own w hgd s x t ho w0.heap.size 36 i0 _ 2 32 ht hi hz0 hz1 hz2 rfl (by decide) v raw.length (pkr raw) hs hown.1 ⟨g, 0, none⟩ 1 1 [.int .i64 r.y, .slice r.fa r.fn r.fc] hx rfl (fun j u hu => by
  rw [add_flat rfl]
  match j, hu with
  | 0, hu => simp at hu; subst hu; exact hg.1
  | 1, hu => simp at hu; subst hu; exact hg.2
  | j + 2, hu => simp at hu) (by simp [Value.oneCell']) (by unfold maxLen; omega) (by omega) hown.2.size fun v' w' h1 h2 _ => ?_
 refine h v' w' ⟨?_, hown.2.grown h2 fun k hk => (hown.1.lt k hk).1⟩ h2
 rw [pkr_append, List.length_append]
 exact h1
def TOk (w : World) (x : Rw) (t : Int × Tbl SL) : Prop := x.y = t.1 ∧ Old RS.EW w 52 x.fn x.fa ∧ ∃ raw, RW.RdR w x.fa x.fn x.fc raw ∧ RW.Dat RS.EW w raw t.2
theorem TOk.gr {w w' : World} {x : Rw} {t : Int × Tbl SL} (h : TOk w x t) (g : Gr w w') : TOk w' x t := by
 obtain ⟨h1, h2, raw, h3, h4⟩ := h
 exact ⟨h1, h2.gr g, raw, h3.gr g, h4.gr g⟩
theorem rdR_wr {w w' : World} {a : Option Addr} {n c b : Nat} {raw : List RW.Rw} (h : RW.RdR w a n c raw) (k : Wr b w w') (ho : Off b n a) : RW.RdR w' a n c raw := by
 obtain ⟨h1, h2, h3, h4, h5⟩ := h
 refine ⟨h1, h2, h3, h4, ?_⟩
 rcases h5 with h5 | ⟨b', o, e, hc⟩
 ·exact .inl h5
 ·rcases ho with ho | ho
  ·exact .inl ho
  ·exact .inr ⟨b', o, e, fun i x hi => ⟨k.cell (hc i x hi).1 (show b' ≠ b from ho _ e), k.cell (hc i x hi).2 (show b' ≠ b from ho _ e)⟩⟩
theorem TOk.wr {w w' : World} {x : Rw} {t : Int × Tbl SL} (h : TOk w x t) {b : Nat} {cur : Array Value} {fz : Nat × Nat} (hb : w.heap[b]? = some (.cells cur 36 fz)) (g : Wr b w w') : TOk w' x t := by
 obtain ⟨h1, h2, raw, h3, h4⟩ := h
 have ho := h2.off (Nat.zero_le _) hb (by decide)
 exact ⟨h1, h2.wr g ho, raw, rdR_wr h3 g ho, h4.wr hb (by decide) (by decide) (Nat.zero_le _) g⟩
theorem TOk.rd {w : World} {x : Rw} {t : Int × Tbl SL} (h : TOk w x t) : RdW w x.fa x.fn x.fc t.2 := by
 obtain ⟨-, -, raw, h3, h4⟩ := h
 exact RdW.of_rows h3 h4
def TDat (w : World) (raw : List Rw) (Ts : List (Int × Tbl SL)) : Prop := raw.length = Ts.length ∧ ∀ (i : Nat) (x : Rw) (t : Int × Tbl SL), raw[i]? = some x → Ts[i]? = some t → TOk w x t
theorem TDat.gr {w w' : World} {raw : List Rw} {Ts : List (Int × Tbl SL)} (h : TDat w raw Ts) (g : Gr w w') : TDat w' raw Ts := ⟨h.1, fun i x t hx ht => (h.2 i x t hx ht).gr g⟩
theorem TDat.grown {w0 w w' : World} {v : Value} {raw raw' : List Rw} {Ts : List (Int × Tbl SL)} (h : TDat w raw' Ts) (ho : OwnR w0 w v raw) (g : w.grownBy w' v.ownBlock) : TDat w' raw' Ts := by
 rcases ho.blk with ⟨rfl, _⟩ | ⟨b, c, cur, rfl, _, _, _, _, hg, _⟩
 ·exact h.gr ((Gr.refl w).grown g fun k hk => by cases hk)
 ·exact ⟨h.1, fun i x t hx ht => (h.2 i x t hx ht).wr hg g⟩
theorem TDat.snoc {w : World} {raw : List Rw} {Ts : List (Int × Tbl SL)} (h : TDat w raw Ts) {x : Rw} {t : Int × Tbl SL} (hx : TOk w x t) : TDat w (raw ++ [x]) (Ts ++ [t]) := by
 refine ⟨by simp [h.1], fun i y s hy hs => ?_⟩
 rcases Nat.lt_or_ge i raw.length with k | k
 ·rw [List.getElem?_append_left k] at hy
  rw [List.getElem?_append_left (by have := h.1; omega)] at hs
  exact h.2 i y s hy hs
 ·rw [List.getElem?_append_right k] at hy
  rw [List.getElem?_append_right (by have := h.1; omega)] at hs
  rw [← h.1] at hs
  rcases hz : i - raw.length with _ | z
  ·rw [hz] at hy hs
   simp at hy hs
   subst hy; subst hs
   exact hx
  ·rw [hz] at hy
   simp at hy
theorem rdWs_of {w0 w : World} {v : Value} {raw : List Rw} {Ts : List (Int × Tbl SL)} (ho : OwnR w0 w v raw) (hd : TDat w raw Ts) : ∃ a c, v = .slice a raw.length c ∧ RdWs w a raw.length c Ts := by
 obtain ⟨a, c, rfl, h1, h2, h3, h4, h5⟩ := ho.rd
 refine ⟨a, c, rfl, hd.1, h2, h3, h4, ?_⟩
 rcases h5 with h5 | ⟨b, o, e, hc⟩
 ·exact .inl h5
 ·refine .inr ⟨b, o, e, fun i t ht => ?_⟩
  have hi : i < raw.length := by rw [hd.1]; exact (List.getElem?_eq_some_iff.1 ht).1
  have hx : raw[i]? = some raw[i] := List.getElem?_eq_getElem hi
  have k := hd.2 i _ t hx ht
  obtain ⟨k0, k1⟩ := hc i _ hx
  rw [k.1] at k0
  exact ⟨_, _, _, k0, k1, k.rd⟩
end Go.Proofs.YtehdemcfeoiecaaGreatDoor.RT
