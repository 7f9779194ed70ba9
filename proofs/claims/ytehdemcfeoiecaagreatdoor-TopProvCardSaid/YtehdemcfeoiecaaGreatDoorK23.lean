import Derived.Test.YtehdemcfeoiecaaGreatDoorK12
import Derived.Test.YtehdemcfeoiecaaGreatDoorK14
set_option maxHeartbeats 64000000
set_option maxRecDepth 100000
namespace Go.Proofs.YtehdemcfeoiecaaGreatDoor.RI
open Go.RowKit Go.Firn Go.Firn.Tb
theorem rotate_any (b cap n a m e : Nat) (R : Nat → Nat) (c : Nat → Rw) (w : World) (F : Value) (hn : n ≤ 1000) (h1 : a < m) (h2 : m < e) (h3 : e ≤ n) (hw : Row2 w b n R c) :
  Calls Tryz.prog 235 #[.slice (some ⟨b, 0, none⟩) n cap, .int .i64 a, .int .i64 m, .int .i64 e, F] w (RetSo b n (rot R a m e) c w) := RS.scrT1s_rotate_any
def CmpOk (w : World) (b n : Nat) (c : Nat → Rw) (K : Nat → List Int) : Prop := ∀ w', Wr b w w' → ∀ i j, i < n → j < n → Calls Tryz.prog 133 #[.agg #[.slice (c i).a (c i).n (c i).c, .int .i64 (c i).y], .agg #[.slice (c j).a (c j).n (c j).c, .int .i64 (c j).y]] w' fun e w'' => e = .returned (.int .i64 (cmpI (K i) (K j))) ∧ Gr w' w''
theorem CmpOk.wr {w w1 : World} {b n : Nat} {c : Nat → Rw} {K : Nat → List Int} (h : CmpOk w b n c K) (k : Wr b w w1) : CmpOk w1 b n c K := fun w' g => h w' (k.trans g)
theorem cfC (args : Array Value) (wz : World) : (callFunc 133 args).run Tryz.prog wz = .ok (.enter 133 args) wz := by kernel_rfl
def RetSr (b n : Nat) (c : Nat → Rw) (T : (Nat → Nat) → Prop) (w : World) (e : Ending) (w' : World) : Prop := e = .returned (.tuple #[]) ∧ ∃ R, Wr b w w' ∧ Row2 w' b n R c ∧ T R
theorem ins_any (b cap n a e : Nat) (R : Nat → Nat) (c : Nat → Rw) (K : Nat → List Int) (w : World) (hn : n ≤ 1000) (hae : a ≤ e) (he : e ≤ n) (hid : ∀ p, a ≤ p → p < n → R p = p) (hw : Row2 w b n R c) (hC : CmpOk w b n c K) :
  Calls Tryz.prog 201 #[.slice (some ⟨b, 0, none⟩) n cap, .int .i64 a, .int .i64 e, .func (.func 133) #[] #[]] w (RetSr b n c (fun R' => Srt' K R' a e ∧ Prm a e R R') w) := RS.scrT2s_ins_any
theorem half_wrap {i j : Nat} (h : i + j ≤ 100000) : IntKind.i64.wrap ((i : Int) + (j : Int)) = (i : Int) + (j : Int) ∧ IntKind.u64.wrap ((i : Int) + (j : Int)) = (i : Int) + (j : Int) ∧ ((i : Int) + (j : Int)) / 2 = (((i + j) / 2 : Nat) : Int) ∧ IntKind.i64.wrap ((((i + j) / 2 : Nat) : Int)) = (((i + j) / 2 : Nat) : Int) := by
 refine ⟨IntWalk.i64_in _ (by omega), by rw [IntKind.wrap_u64]; omega, by omega, IntWalk.i64_in _ (by omega)⟩
theorem symA_any (b cap n a m e : Nat) (R : Nat → Nat) (c : Nat → Rw) (K : Nat → List Int) (w : World) (hn : n ≤ 1000) (hm : m = a + 1) (hme : m < e) (he : e ≤ n) (hS2 : Srt' K R m e) (hL : Low R a m e) (hR : ∀ p, p < n → R p < n) (hw : Row2 w b n R c) (hC : CmpOk w b n c K) :
  Calls Tryz.prog 202 #[.slice (some ⟨b, 0, none⟩) n cap, .int .i64 a, .int .i64 m, .int .i64 e, .func (.func 133) #[] #[]] w (RetSr b n c (fun R' => Srt' K R' a e ∧ Prm a e R R') w) := RS.scrT3s_symA_any
theorem symB_any (b cap n a m e : Nat) (R : Nat → Nat) (c : Nat → Rw) (K : Nat → List Int) (w : World) (hn : n ≤ 1000) (hm : e = m + 1) (hma : m ≠ a + 1) (ham : a < m) (he : e ≤ n) (hS1 : Srt' K R a m) (hL : Low R a m e) (hR : ∀ p, p < n → R p < n) (hw : Row2 w b n R c) (hC : CmpOk w b n c K) :
  Calls Tryz.prog 202 #[.slice (some ⟨b, 0, none⟩) n cap, .int .i64 a, .int .i64 m, .int .i64 e, .func (.func 133) #[] #[]] w (RetSr b n c (fun R' => Srt' K R' a e ∧ Prm a e R R') w) := RS.scrT3s_symB_any
def SymH (b cap n : Nat) (c : Nat → Rw) (K : Nat → List Int) (d : Nat) : Prop := ∀ (a m e : Nat) (R : Nat → Nat) (w : World), e - a < d → a < m → m < e → e ≤ n → Two K R a m e → (∀ p, p < n → R p < n) → Row2 w b n R c → CmpOk w b n c K →
  Calls Tryz.prog 202 #[.slice (some ⟨b, 0, none⟩) n cap, .int .i64 a, .int .i64 m, .int .i64 e, .func (.func 133) #[] #[]] w (RetSr b n c (fun R' => Srt' K R' a e ∧ Prm a e R R') w)
theorem symM1_any (b cap n a m e : Nat) (R : Nat → Nat) (c : Nat → Rw) (K : Nat → List Int) (w : World) (hn : n ≤ 1000) (hem : e ≠ m + 1) (ham : a < m) (hme : m < e) (he : e ≤ n) (hcase : (a + e) / 2 < m) (hT : Two K R a m e) (hR : ∀ p, p < n → R p < n) (hw : Row2 w b n R c) (hC : CmpOk w b n c K) (ih : SymH b cap n c K (e - a)) :
  Calls Tryz.prog 202 #[.slice (some ⟨b, 0, none⟩) n cap, .int .i64 a, .int .i64 m, .int .i64 e, .func (.func 133) #[] #[]] w (RetSr b n c (fun R' => Srt' K R' a e ∧ Prm a e R R') w) := RS.scrT4s_symM1_any
theorem symM2_any (b cap n a m e : Nat) (R : Nat → Nat) (c : Nat → Rw) (K : Nat → List Int) (w : World) (hn : n ≤ 1000) (hma : m ≠ a + 1) (hem : e ≠ m + 1) (ham : a < m) (hme : m < e) (he : e ≤ n) (hcase : m ≤ (a + e) / 2) (hT : Two K R a m e) (hR : ∀ p, p < n → R p < n) (hw : Row2 w b n R c) (hC : CmpOk w b n c K) (ih : SymH b cap n c K (e - a)) :
  Calls Tryz.prog 202 #[.slice (some ⟨b, 0, none⟩) n cap, .int .i64 a, .int .i64 m, .int .i64 e, .func (.func 133) #[] #[]] w (RetSr b n c (fun R' => Srt' K R' a e ∧ Prm a e R R') w) := RS.scrT4s_symM2_any
theorem sym_any (b cap n : Nat) (c : Nat → Rw) (K : Nat → List Int) (hn : n ≤ 1000) : ∀ d, SymH b cap n c K d
 | 0 => fun a m e R w hd => by omega
 | d + 1 => fun a m e R w hd ham hme he hT hR hw hC => by
  have ih : SymH b cap n c K (e - a) := fun a' m' e' R' w' hd' => sym_any b cap n c K hn d a' m' e' R' w' (by omega)
  by_cases h1 : m = a + 1
  ·exact symA_any b cap n a m e R c K w hn h1 hme he hT.2.1 hT.2.2 hR hw hC
  by_cases h2 : e = m + 1
  ·exact symB_any b cap n a m e R c K w hn h2 h1 ham he hT.1 hT.2.2 hR hw hC
  rcases Nat.lt_or_ge ((a + e) / 2) m with h3 | h3
  ·exact symM1_any b cap n a m e R c K w hn h2 ham hme he h3 hT hR hw hC ih
  exact symM2_any b cap n a m e R c K w hn h1 h2 ham hme he h3 hT hR hw hC ih
def InsB (K : Nat → List Int) (n a : Nat) (R : Nat → Nat) : Prop := BS K 1 20 n a R ∧ a % 20 = 0
def MrgB (K : Nat → List Int) (s n a : Nat) (R : Nat → Nat) : Prop := BS K s 2 n a R ∧ a % (s * 2) = 0
theorem BS.id {K : Nat → List Int} {n a : Nat} {R : Nat → Nat} (h : BS K 1 20 n a R) : ∀ p, a ≤ p → p < n → R p = p := fun p h1 h2 => by
 have := h.own2 p h2 h1
 simpa using this
theorem BS.lt {K : Nat → List Int} {s c n a : Nat} {R : Nat → Nat} (h : BS K s c n a R) : ∀ p, p < n → R p < n := fun p hp => by
 obtain ⟨q, _, h2, e⟩ := h.prm.from_ p (Nat.zero_le _) hp
 rw [e]; exact h2
theorem stable_any (b cap n : Nat) (c : Nat → Rw) (K : Nat → List Int) (w : World) (hn : n ≤ 1000) (hw : Row2 w b n (fun p => p) c) (hC : CmpOk w b n c K) :
  Calls Tryz.prog 169 #[.slice (some ⟨b, 0, none⟩) n cap, .int .i64 n, .func (.func 133) #[] #[]] w (RetSr b n c (fun R' => Srt' K R' 0 n ∧ Prm 0 n (fun p => p) R') w) := RS.scrT5s_stable_any
theorem sort_any (b cap n : Nat) (c : Nat → Rw) (K : Nat → List Int) (w : World) (hn : n ≤ 1000) (hw : Row2 w b n (fun p => p) c) (hC : CmpOk w b n c K) :
  Calls Tryz.prog 132 #[.slice (some ⟨b, 0, none⟩) n cap, .func (.func 133) #[] #[]] w (RetSr b n c (fun R' => Srt' K R' 0 n ∧ Prm 0 n (fun p => p) R') w) := by
 have C := Lh (stable_any b cap n c K w hn hw hC)
 clear hn hw hC
 go_enter Tryz.func132, Tryz.ntmps132
 go_wp2_with (go_at_call 169; (with_reducible refine C.out.mono ?_); rintro e w1 ⟨rfl, S, g1, r1, t1⟩; have H1 := Lh (And.intro g1 (And.intro r1 t1)); clear g1 r1 t1)
 go_end0
 exact ⟨rfl, S, H1.out⟩
def Rep (_ : World) (y : Int) (d : Int) : Prop := y = d
theorem Rep.gr {w w' : World} {y : Int} {d : Int} (h : Rep w y d) (_ : Gr w w') : Rep w' y d := h
theorem Rep.wr {w w' : World} {y : Int} {d : Int} (h : Rep w y d) {b : Nat} {cur : Array Value} {e : TypeId} {fz : Nat × Nat} (_ : w.heap[b]? = some (.cells cur e fz)) (_ : Wr b w w') : Rep w' y d := h
def pkr (raw : List Rw) : List Value := raw.flatMap fun x => [.slice x.a x.n x.c, .int .i64 x.y]
theorem pkr_length (raw : List Rw) : (pkr raw).length = raw.length * 2 := by
 induction raw with
 | nil => rfl
 | cons m ms ih =>
  have : pkr (m :: ms) = [.slice m.a m.n m.c, .int .i64 m.y] ++ pkr ms := rfl
  rw [this, List.length_append, ih]; simp; omega
theorem pkr_append (a b : List Rw) : pkr (a ++ b) = pkr a ++ pkr b := by simp [pkr]
theorem pkr_at : ∀ (raw : List Rw) (i : Nat) (x : Rw), raw[i]? = some x → (pkr raw)[i * 2]? = some (.slice x.a x.n x.c) ∧ (pkr raw)[i * 2 + 1]? = some (.int .i64 x.y)
 | [], i, x, h => by simp at h
 | m :: ms, i, x, h => by
  have e : pkr (m :: ms) = .slice m.a m.n m.c :: .int .i64 m.y :: pkr ms := rfl
  cases i with
  | zero => simp at h; subst h; rw [e]; exact ⟨rfl, rfl⟩
  | succ i =>
   have := pkr_at ms i x (by simpa using h)
   rw [e, show (i + 1) * 2 = i * 2 + 1 + 1 by omega]
   simpa using this
def RdR (w : World) (a : Option Addr) (n c : Nat) (raw : List Rw) : Prop := n = raw.length ∧ n ≤ c ∧ c ≤ 9223372036854775807 ∧ (a = none → c = 0) ∧ (n = 0 ∨ ∃ b o, a = some ⟨b, o, none⟩ ∧ ∀ i x, raw[i]? = some x → w.cell? ⟨b, o + i * 2, none⟩ = some (.slice x.a x.n x.c) ∧ w.cell? ⟨b, o + i * 2 + 1, none⟩ = some (.int .i64 x.y))
theorem RdR.gr {w w' : World} {a : Option Addr} {n c : Nat} {raw : List Rw} (h : RdR w a n c raw) (g : Gr w w') : RdR w' a n c raw := by
 obtain ⟨h1, h2, h3, h4, h5⟩ := h
 refine ⟨h1, h2, h3, h4, ?_⟩
 rcases h5 with h5 | ⟨b, o, e, hc⟩
 ·exact .inl h5
 exact .inr ⟨b, o, e, fun i x hi => ⟨g.cell (hc i x hi).1, g.cell (hc i x hi).2⟩⟩
theorem RdR.at {w : World} {a : Option Addr} {n c : Nat} {raw : List Rw} (h : RdR w a n c raw) {k : Nat} (hk : k < n) : ∃ b o x, a = some ⟨b, o, none⟩ ∧ raw[k]? = some x ∧ w.cell? ⟨b, o + k * 2, none⟩ = some (.slice x.a x.n x.c) ∧ w.cell? ⟨b, o + k * 2 + 1, none⟩ = some (.int .i64 x.y) := by
 obtain ⟨h1, h2, h3, h4, h5⟩ := h
 rcases h5 with h5 | ⟨b, o, e, hc⟩
 ·omega
 have hx : raw[k]? = some (raw[k]'(by omega)) := List.getElem?_eq_getElem (by omega)
 exact ⟨b, o, _, e, hx, hc k _ hx⟩
def Dat (w0 w : World) (raw : List Rw) (L : Tbl Int) : Prop := raw.length = L.length ∧ ∀ (i : Nat) (x : Rw) (r : List Int × Int), raw[i]? = some x → L[i]? = some r → Rd3 w x.a x.n x.c r.1 ∧ Old w0 w 3 x.n x.a ∧ Rep w x.y r.2
theorem Dat.gr {w0 w w' : World} {raw : List Rw} {L : Tbl Int} (h : Dat w0 w raw L) (g : Gr w w') : Dat w0 w' raw L := ⟨h.1, fun i x r hx hr => by
 obtain ⟨h1, h2, h3⟩ := h.2 i x r hx hr
 exact ⟨h1.gr g, h2.gr g, h3.gr g⟩⟩
theorem Dat.wr {w0 w w' : World} {raw : List Rw} {L : Tbl Int} (h : Dat w0 w raw L) {b : Nat} {cur : Array Value} {e : TypeId} {fz : Nat × Nat} (hb : w.heap[b]? = some (.cells cur e fz)) (hne : 3 ≠ e) (h0 : w0.heap.size ≤ b) (g : Wr b w w') : Dat w0 w' raw L := ⟨h.1, fun i x r hx hr => by
 obtain ⟨h1, h2, h3⟩ := h.2 i x r hx hr
 have ho := h2.off h0 hb hne
 exact ⟨h1.wr g ho, h2.wr g ho, h3.wr hb g⟩⟩
theorem Dat.nil (w0 w : World) : Dat w0 w [] [] := ⟨rfl, fun i x r hx _ => by simp at hx⟩
theorem Dat.base {w0 w1 w : World} {raw : List Rw} {L : Tbl Int} (h : Dat w0 w raw L) (g : w0.heap.size ≤ w1.heap.size) : Dat w1 w raw L := ⟨h.1, fun i x r hx hr => by
 obtain ⟨h1, h2, h3⟩ := h.2 i x r hx hr
 exact ⟨h1, h2.base g, h3⟩⟩
theorem Dat.own {w0 w : World} {raw : List Rw} {L : Tbl Int} (h : Dat w0 w raw L) : Dat w w raw L := ⟨h.1, fun i x r hx hr => by
 obtain ⟨h1, _, h3⟩ := h.2 i x r hx hr
 exact ⟨h1, Old.of_rd h1.2.2.2.2 3, h3⟩⟩
theorem Dat.snoc {w0 w : World} {raw : List Rw} {L : Tbl Int} (h : Dat w0 w raw L) {x : Rw} {r : List Int × Int} (h1 : Rd3 w x.a x.n x.c r.1) (h2 : Old w0 w 3 x.n x.a) (h3 : Rep w x.y r.2) : Dat w0 w (raw ++ [x]) (L ++ [r]) := RS.scrTDs_Datsnoc
theorem Dat.append {w0 w : World} {raw raw' : List Rw} {L L' : Tbl Int} (h : Dat w0 w raw L) (h' : Dat w0 w raw' L') : Dat w0 w (raw ++ raw') (L ++ L') := RS.scrTDs_Datappend
theorem Dat.at {w0 w : World} {raw : List Rw} {L : Tbl Int} (h : Dat w0 w raw L) {k : Nat} {x : Rw} (hx : raw[k]? = some x) : ∃ r, L[k]? = some r ∧ Rd3 w x.a x.n x.c r.1 ∧ Old w0 w 3 x.n x.a ∧ Rep w x.y r.2 := by
 have hk : k < raw.length := by
  rcases Nat.lt_or_ge k raw.length with q | q
  ·exact q
  rw [List.getElem?_eq_none q] at hx; cases hx
 have hr : L[k]? = some (L[k]'(by have := h.1; omega)) := List.getElem?_eq_getElem (by have := h.1; omega)
 exact ⟨_, hr, h.2 k x _ hx hr⟩
def RdT (w0 w : World) (a : Option Addr) (n c : Nat) (T : Tbl Int) : Prop := ∃ raw, RdR w a n c raw ∧ Dat w0 w raw T
theorem RdT.gr {w0 w w' : World} {a : Option Addr} {n c : Nat} {T : Tbl Int} (h : RdT w0 w a n c T) (g : Gr w w') : RdT w0 w' a n c T := by
 obtain ⟨raw, h1, h2⟩ := h
 exact ⟨raw, h1.gr g, h2.gr g⟩
theorem RdT.own {w0 w : World} {a : Option Addr} {n c : Nat} {T : Tbl Int} (h : RdT w0 w a n c T) : RdT w w a n c T := by
 obtain ⟨raw, h1, h2⟩ := h
 exact ⟨raw, h1, h2.own⟩
theorem RdT.len {w0 w : World} {a : Option Addr} {n c : Nat} {T : Tbl Int} (h : RdT w0 w a n c T) : n = T.length := by
 obtain ⟨raw, h1, h2⟩ := h
 exact h1.1.trans h2.1
def OwnR (w0 w : World) (v : Value) (raw : List Rw) : Prop := w.ownsRow w0.heap.size 98 2 v raw.length (pkr raw) ∧ Gr w0 w
theorem OwnR.nil' {w0 w : World} (g : Gr w0 w) : OwnR w0 w (.slice none 0 0) [] := ⟨World.ownsRow_nil w _ _ _, g⟩
theorem OwnR.nil (w : World) : OwnR w w (.slice none 0 0) [] := OwnR.nil' (Gr.refl w)
theorem OwnR.gr {w0 w w' : World} {v : Value} {raw : List Rw} (h : OwnR w0 w v raw) (g : Gr w w') : OwnR w0 w' v raw :=
 ⟨h.1.kept (row := none) ⟨g.os, g.tape, g.output, Gr.size g, fun k hk _ => Below.block g k hk⟩ (by cases v.ownBlock <;> simp), h.2.trans g⟩
theorem OwnR.alloc {w0 w : World} {v : Value} {raw : List Rw} (h : OwnR w0 w v raw) (o : Obj) : OwnR w0 (w.alloc o) v raw := h.gr ((Gr.refl w).alloc o)
theorem OwnR.drew {w0 w : World} {v : Value} {raw : List Rw} (h : OwnR w0 w v raw) : OwnR w0 w.drew v raw := h.gr ((Gr.refl w).drew)
theorem OwnR.rd {w0 w : World} {v : Value} {raw : List Rw} (h : OwnR w0 w v raw) : ∃ a c, v = .slice a raw.length c ∧ RdR w a raw.length c raw := RS.scrTDs_OwnRrd
theorem OwnR.blk {w0 w : World} {v : Value} {raw : List Rw} (h : OwnR w0 w v raw) : (v = .slice none 0 0 ∧ raw = []) ∨ ∃ g c cur, v = .slice (some ⟨g, 0, none⟩) raw.length c ∧ raw.length ≤ c ∧ c ≤ 9223372036854775807 ∧ w0.heap.size ≤ g ∧ g < w.heap.size ∧ w.heap[g]? = some (.cells cur 98 (0, 0)) ∧ ∀ i x, raw[i]? = some x → w.cell? ⟨g, i * 2, none⟩ = some (.slice x.a x.n x.c) ∧ w.cell? ⟨g, i * 2 + 1, none⟩ = some (.int .i64 x.y) ∧ w.frozen? ⟨g, i * 2, none⟩ = false ∧ w.frozen? ⟨g, i * 2 + 1, none⟩ = false := RS.scrTDs_OwnRblk
theorem Dat.grown {w0 w w' : World} {v : Value} {raw raw' : List Rw} {L : Tbl Int} (h : Dat w0 w raw' L) (ho : OwnR w0 w v raw) (g : w.grownBy w' v.ownBlock) : Dat w0 w' raw' L := by
 rcases ho.blk with ⟨rfl, _⟩ | ⟨b, c, cur, rfl, _, _, hb, _, hg, _⟩
 ·exact h.gr ((Gr.refl w).grown g fun k hk => by cases hk)
 exact h.wr hg (by decide) hb g
theorem infoR : (Tryz.prog.info? 98).map (fun i => (i.zero, i.size, i.bytes)) = some (some (.agg #[.slice none 0 0, .int .i64 0]), 2, 32) := by kernel_rfl
theorem info_row : ∃ i, Tryz.prog.info? 98 = some i ∧ i.zero = some (.agg #[.slice none 0 0, .int .i64 0]) ∧ i.size = 2 ∧ i.bytes = 32 := by
 have h := infoR
 cases hi : Tryz.prog.info? 98 with
 | none => rw [hi] at h; cases h
 | some i => rw [hi] at h; simp at h; exact ⟨i, rfl, h.1, h.2.1, h.2.2⟩
theorem wp_cat_row {o : Oper} {a : Act} {K : Act → World → Prop} {Q : Exit → Act → World → Prop} (s x : Operand) (t : TypeId)
  (ho : o.op = .call { callee := .builtin .append, args := #[s, x], argTypes := #[t, t] }) (ht : Tryz.prog.underlying t = some (.slice 98))
  {w0 w : World} (v : Value) (raw : List Rw) (hs : a.eval s = v) (hown : OwnR w0 w v raw)
  (b off n c : Nat) (X : List Rw) (hx : a.eval x = .slice (some ⟨b, off, none⟩) n c) (hX : X.length = n) (hc : ∀ i x, X[i]? = some x → w.cell? ⟨b, off + i * 2, none⟩ = some (.slice x.a x.n x.c) ∧ w.cell? ⟨b, off + i * 2 + 1, none⟩ = some (.int .i64 x.y)) (hk : raw.length + n ≤ 1000000)
  (h : ∀ v' w', OwnR w0 w' v' (raw ++ X) → w.grownBy w' v.ownBlock → K (a.put o.dst v') w') : o.wp Tryz.prog a w K Q := RS.scrTDs_wp_cat_row
section
variable {ops : Array Oper} {rest : List Oper} {o : Oper} {a : Act} {Q : Exit → Act → World → Prop}
theorem wpList_cat_row (hgd : o.guard = none) (s x : Operand) (t : TypeId)
  (ho : o.op = .call { callee := .builtin .append, args := #[s, x], argTypes := #[t, t] }) (ht : Tryz.prog.underlying t = some (.slice 98))
  {w0 w : World} (v : Value) (raw : List Rw) (hs : a.eval s = v) (hown : OwnR w0 w v raw)
  (b off n c : Nat) (X : List Rw) (hx : a.eval x = .slice (some ⟨b, off, none⟩) n c) (hX : X.length = n) (hc : ∀ i x, X[i]? = some x → w.cell? ⟨b, off + i * 2, none⟩ = some (.slice x.a x.n x.c) ∧ w.cell? ⟨b, off + i * 2 + 1, none⟩ = some (.int .i64 x.y)) (hk : raw.length + n ≤ 1000000)
  (h : ∀ v' w', OwnR w0 w' v' (raw ++ X) → w.grownBy w' v.ownBlock → wpList Tryz.prog ops Q rest (a.put o.dst v') w') : wpList Tryz.prog ops Q (o :: rest) a w :=
 wpList_plain hgd fun _ hK => wp_cat_row s x t ho ht v raw hs hown b off n c X hx hX hc hk fun v' w' h1 h2 => hK _ _ (h v' w' h1 h2)
theorem wpList_app_row (hgd : o.guard = none) (s x : Operand) (t : TypeId)
  (ho : o.op = .call { callee := .builtin .append, args := #[s, x], argTypes := #[t, t] }) (ht : Tryz.prog.underlying t = some (.slice 98))
  {w0 w : World} (v : Value) (raw : List Rw) (hs : a.eval s = v) (hown : OwnR w0 w v raw)
  (g : Nat) (r : Rw) (hx : a.eval x = .slice (some ⟨g, 0, none⟩) 1 1) (hg : w.cell? ⟨g, 0, none⟩ = some (.slice r.a r.n r.c) ∧ w.cell? ⟨g, 1, none⟩ = some (.int .i64 r.y)) (hk : raw.length < 999999)
  (h : ∀ v' w', OwnR w0 w' v' (raw ++ [r]) → w.grownBy w' v.ownBlock → wpList Tryz.prog ops Q rest (a.put o.dst v') w') : wpList Tryz.prog ops Q (o :: rest) a w :=
 wpList_cat_row hgd s x t ho ht v raw hs hown g 0 1 1 [r] hx rfl (fun i y hy => by
  cases i with
  | zero => simp at hy; subst hy; exact hg
  | succ i => simp at hy) (by omega) h
end
theorem boxr (w : World) (u v : Value) (e : TypeId) : (w.alloc (.cells #[u, v] e)).cell? ⟨w.heap.size, 0, none⟩ = some u ∧ (w.alloc (.cells #[u, v] e)).cell? ⟨w.heap.size, 1, none⟩ = some v := by simp
theorem boxr' {w w1 : World} {u v : Value} {e : TypeId} {b : Nat} (h : w.alloc (.cells #[u, v] e) = w1) (hb : w.heap.size = b) : w1.cell? ⟨b, 0, none⟩ = some u ∧ w1.cell? ⟨b, 1, none⟩ = some v := by subst h; subst hb; exact boxr w u v e
theorem cmp_any (x y : Rw) (L M : List Int) (w : World) (h1 : Rd3 w x.a x.n x.c L) (h2 : Rd3 w y.a y.n y.c M) :
  Calls Tryz.prog 133 #[.agg #[.slice x.a x.n x.c, .int .i64 x.y], .agg #[.slice y.a y.n y.c, .int .i64 y.y]] w (RetZ (cmpI L M) w) := RS.scrT6s_cmp_any
theorem ins_nil (w : World) (F : Value) : Calls Tryz.prog 201 #[.slice none 0 0, .int .i64 0, .int .i64 0, F] w fun e w' => e = .returned (.tuple #[]) ∧ w = w' := by
 go_enter Tryz.func201, Tryz.ntmps201
 go_wp2_with fail
 refine wp_loop_rounds 1 ?_
 rw [rounds_succ]
 go_wp2_with fail
 go_end0
 exact ⟨rfl, rfl⟩
theorem stable_nil (w : World) (F : Value) : Calls Tryz.prog 169 #[.slice none 0 0, .int .i64 0, F] w fun e w' => e = .returned (.tuple #[]) ∧ w = w' := by
 have C := Lh (show ∀ w, Calls Tryz.prog 201 #[.slice none 0 0, .int .i64 0, .int .i64 0, F] w fun e w' => e = .returned (.tuple #[]) ∧ w = w' from fun w => ins_nil w F)
 go_enter Tryz.func169, Tryz.ntmps169
 go_wp2_with fail
 refine wp_loop_rounds 1 ?_
 rw [rounds_succ]
 go_wp2_with (go_at_call 201; (with_reducible refine (C.out _).mono ?_); rintro e w1 ⟨rfl, rfl⟩)
 refine wp_loop_rounds 1 ?_
 rw [rounds_succ]
 go_wp2_with fail
 go_end0
 exact ⟨rfl, rfl⟩
theorem sort_nil (w : World) (F : Value) : Calls Tryz.prog 132 #[.slice none 0 0, F] w fun e w' => e = .returned (.tuple #[]) ∧ w = w' := by
 have C := Lh (show ∀ w, Calls Tryz.prog 169 #[.slice none 0 0, .int .i64 0, F] w fun e w' => e = .returned (.tuple #[]) ∧ w = w' from fun w => stable_nil w F)
 go_enter Tryz.func132, Tryz.ntmps132
 go_wp2_with (go_at_call 169; (with_reducible refine (C.out _).mono ?_); rintro e w1 ⟨rfl, rfl⟩)
 go_end0
 exact ⟨rfl, rfl⟩
def rwAt (raw : List Rw) (i : Nat) : Rw := raw.getD i ⟨none, 0, 0, 0⟩
def kyAt (L : Tbl Int) (i : Nat) : List Int := (L.getD i ([], 0)).1
def vlAt (L : Tbl Int) (i : Nat) : Int := (L.getD i ([], 0)).2
theorem rw_get {raw : List Rw} {i : Nat} (h : i < raw.length) : raw[i]? = some (rwAt raw i) := by
 unfold rwAt
 rw [List.getD_eq_getElem?_getD, List.getElem?_eq_getElem h]; rfl
theorem ky_get {L : Tbl Int} {i : Nat} (h : i < L.length) : L[i]? = some (kyAt L i, vlAt L i) := by
 unfold kyAt vlAt
 rw [List.getD_eq_getElem?_getD, List.getElem?_eq_getElem h]; rfl
theorem ky_all (L : Tbl Int) : ((List.range L.length).map fun i => (kyAt L i, vlAt L i)) = L := by
 refine List.ext_getElem? fun i => ?_
 rcases Nat.lt_or_ge i L.length with k | k
 ·rw [List.getElem?_map, List.getElem?_range k, ky_get k]; rfl
 rw [List.getElem?_eq_none (by simpa using k), List.getElem?_eq_none k]
structure SrtOf (L L' : Tbl Int) : Prop where
 len : L'.length = L.length
 gat : ∀ add, gat add L' = gat add L
 ord : ∀ i j, i < j → j < L'.length → ¬ kyAt L' j < kyAt L' i
 mem : ∀ x ∈ L', x ∈ L
 sum : ∀ μ : Int → Nat, sumT μ L' = sumT μ L
def Keep (v : Value) (w w' : World) : Prop := ∀ p u, w.cell? p = some u → v.ownBlock ≠ some p.block → w'.cell? p = some u
theorem Keep.of_wr {g : Nat} {n c : Nat} {w w' : World} (h : Wr g w w') : Keep (.slice (some ⟨g, 0, none⟩) n c) w w' := fun p u hp hne => h.cell hp fun e => hne (by rw [e]; rfl)
theorem Keep.of_gr {v : Value} {w w' : World} (h : Gr w w') : Keep v w w' := fun _ _ hp _ => h.cell hp
theorem Keep.trans {v : Value} {a b c : World} (h : Keep v a b) (k : Keep v b c) : Keep v a c := fun p u hp hne => k p u (h p u hp hne) hne
def RetSt (w0 : World) (v : Value) (L : Tbl Int) (w : World) (e : Ending) (w' : World) : Prop := e = .returned (.tuple #[]) ∧ ∃ a n c raw' L', v = .slice a n c ∧ RdR w' a n c raw' ∧ Dat w0 w' raw' L' ∧ SrtOf L L' ∧ Gr w0 w' ∧ Keep v w w'
theorem SrtOf.refl (L : Tbl Int) (h : L.length ≤ 1) : SrtOf L L := ⟨rfl, fun _ => rfl, fun i j h1 h2 => by omega, fun _ h => h, fun _ => rfl⟩
theorem SrtOf.of {L : Tbl Int} {R : Nat → Nat} (h1 : Srt' (kyAt L) R 0 L.length) (h2 : Prm 0 L.length (fun p => p) R) : SrtOf L ((List.range L.length).map fun p => (kyAt L (R p), vlAt L (R p))) := RS.scrT6s_SrtOfof
theorem sortT (w0 w : World) (v : Value) (raw : List Rw) (L : Tbl Int) (hO : OwnR w0 w v raw) (hD : Dat w0 w raw L) (hn : L.length ≤ 1000) :
  Calls Tryz.prog 132 #[v, .func (.func 133) #[] #[]] w (RetSt w0 v L w) := RS.scrT6s_sortT
structure RF where
 p : Nat
 t : Nat
 s : Nat
 f : Nat
 pb : Array Value
 tb : Array Value
 sb : Array Value
 fb : Array Value
def BoxF (w : World) (bx : Nat) (F : RF) : Prop := w.cell? ⟨bx, 0, none⟩ = some (.func (.func F.p) #[] F.pb) ∧ w.cell? ⟨bx, 1, none⟩ = some (.func (.func F.t) #[] F.tb) ∧ w.cell? ⟨bx, 2, none⟩ = some (.func (.func F.s) #[] F.sb) ∧ w.cell? ⟨bx, 3, none⟩ = some (.func (.func F.f) #[] F.fb)
theorem BoxF.gr {w w' : World} {bx : Nat} {F : RF} (h : BoxF w bx F) (g : Gr w w') : BoxF w' bx F := ⟨g.cell h.1, g.cell h.2.1, g.cell h.2.2.1, g.cell h.2.2.2⟩
theorem BoxF.wr {w w' : World} {bx b : Nat} {F : RF} (h : BoxF w bx F) (g : Wr b w w') (hne : bx ≠ b) : BoxF w' bx F := ⟨g.cell h.1 hne, g.cell h.2.1 hne, g.cell h.2.2.1 hne, g.cell h.2.2.2 hne⟩
theorem BoxF.lt {w : World} {bx : Nat} {F : RF} (h : BoxF w bx F) : bx < w.heap.size := World.block_lt_of_cell? w _ h.1
def RetD (d : Int) (w : World) (e : Ending) (w' : World) : Prop := ∃ y, e = .returned (.int .i64 y) ∧ Rep w' y d ∧ Gr w w'
structure RingOk (F : RF) (R : Rg Int) (G : Int → Prop) (μ : Int → Nat) (B : Nat) (w0 : World) : Prop where
 ep : ∀ args w, (callFunc F.p args).run Tryz.prog w = .ok (.enter F.p args) w
 et : ∀ args w, (callFunc F.t args).run Tryz.prog w = .ok (.enter F.t args) w
 es : ∀ args w, (callFunc F.s args).run Tryz.prog w = .ok (.enter F.s args) w
 ef : ∀ args w, (callFunc F.f args).run Tryz.prog w = .ok (.enter F.f args) w
 plus : ∀ w y z d e, Gr w0 w → Rep w y d → Rep w z e → G d → G e → μ d + μ e ≤ B → Calls Tryz.prog F.p (#[.int .i64 y, .int .i64 z] ++ F.pb) w (RetD (R.add d e) w)
 times : ∀ w y z d e, Gr w0 w → Rep w y d → Rep w z e → G d → G e → R.stays d = true → R.stays e = true → R.fits d = true → R.fits e = true → Calls Tryz.prog F.t (#[.int .i64 y, .int .i64 z] ++ F.tb) w (RetD (R.mul d e) w)
 stays : ∀ w y d, Gr w0 w → Rep w y d → G d → Calls Tryz.prog F.s (#[.int .i64 y] ++ F.sb) w (RetB (R.stays d) w)
 fits : ∀ w y d, Gr w0 w → Rep w y d → G d → μ d ≤ B → Calls Tryz.prog F.f (#[.int .i64 y] ++ F.fb) w (RetB (R.fits d) w)
 law : RgL R G
 mu : ∀ a b, G a → G b → μ (R.add a b) ≤ μ a + μ b
theorem RingOk.gr {F : RF} {R : Rg Int} {G : Int → Prop} {μ : Int → Nat} {B : Nat} {w0 w1 : World} (h : RingOk F R G μ B w0) (g : Gr w0 w1) : RingOk F R G μ B w1 :=
 ⟨h.ep, h.et, h.es, h.ef, fun w y z d e k => h.plus w y z d e (g.trans k), fun w y z d e k => h.times w y z d e (g.trans k), fun w y d k => h.stays w y d (g.trans k), fun w y d k => h.fits w y d (g.trans k), h.law, h.mu⟩
theorem goes_any (F : RF) (bx : Nat) (x : Rw) (b : Bool) (w : World) (he : ∀ args w, (callFunc F.s args).run Tryz.prog w = .ok (.enter F.s args) w) (hb : BoxF w bx F) (hc : ∀ w', Gr w w' → Calls Tryz.prog F.s (#[.int .i64 x.y] ++ F.sb) w' (RetB b w')) :
  Calls Tryz.prog 136 #[.agg #[.slice x.a x.n x.c, .int .i64 x.y], .pointer (some ⟨bx, 0, none⟩)] w (RetB (!b) w) := by
 obtain ⟨xa, xn, xc, xy⟩ := x
 simp only at hc ⊢
 obtain ⟨w1, hw1⟩ : ∃ w1, w.alloc (.cells #[.slice xa xn xc, .int .i64 xy] 98) = w1 := ⟨_, rfl⟩
 have g1 : Gr w w1 := hw1 ▸ (Gr.refl w).alloc _
 obtain ⟨_, z1⟩ := boxr' hw1 rfl
 obtain ⟨_, _, b2, _⟩ := hb.gr g1
 have C := Lh (hc w1 g1)
 have HG := Lh g1
 have hcf := he
 clear hb hc g1 he
 go_enter Tryz.func136, Tryz.ntmps136
 go_wp2_with fail
 refine C.out.mono ?_
 rintro e w2 ⟨rfl, g2⟩
 have G2 := Lh g2
 clear g2
 go_wp2_with fail
 go_ret
 exact ⟨rfl, HG.out.trans G2.out⟩
theorem misfits_any (F : RF) (bx : Nat) (x : Rw) (b : Bool) (w : World) (he : ∀ args w, (callFunc F.f args).run Tryz.prog w = .ok (.enter F.f args) w) (hb : BoxF w bx F) (hc : ∀ w', Gr w w' → Calls Tryz.prog F.f (#[.int .i64 x.y] ++ F.fb) w' (RetB b w')) :
  Calls Tryz.prog 138 #[.agg #[.slice x.a x.n x.c, .int .i64 x.y], .pointer (some ⟨bx, 0, none⟩)] w (RetB (!b) w) := by
 obtain ⟨xa, xn, xc, xy⟩ := x
 simp only at hc ⊢
 obtain ⟨w1, hw1⟩ : ∃ w1, w.alloc (.cells #[.slice xa xn xc, .int .i64 xy] 98) = w1 := ⟨_, rfl⟩
 have g1 : Gr w w1 := hw1 ▸ (Gr.refl w).alloc _
 obtain ⟨_, z1⟩ := boxr' hw1 rfl
 obtain ⟨_, _, _, b3⟩ := hb.gr g1
 have C := Lh (hc w1 g1)
 have HG := Lh g1
 have hcf := he
 clear hb hc g1 he
 go_enter Tryz.func138, Tryz.ntmps138
 go_wp2_with fail
 refine C.out.mono ?_
 rintro e w2 ⟨rfl, g2⟩
 have G2 := Lh g2
 clear g2
 go_wp2_with fail
 go_ret
 exact ⟨rfl, HG.out.trans G2.out⟩
def RetIx (q : Nat → Bool) (n : Nat) (w : World) (e : Ending) (w' : World) : Prop := (∃ z : Int, e = .returned (.int .i64 z) ∧ ((z = -1 ∧ ∀ i, i < n → q i = false) ∨ ∃ k : Nat, k < n ∧ z = k ∧ q k = true ∧ ∀ i, i < k → q i = false)) ∧ Gr w w'
theorem index_any (h : Nat) (bx : Nat) (q : Nat → Bool) (a : Option Addr) (n cp : Nat) (raw : List Rw) (w : World) (hn : n ≤ 1000000) (hr : RdR w a n cp raw) (he : ∀ args w, (callFunc h args).run Tryz.prog w = .ok (.enter h args) w)
  (hc : ∀ w' i x, Gr w w' → raw[i]? = some x → Calls Tryz.prog h #[.agg #[.slice x.a x.n x.c, .int .i64 x.y], .pointer (some ⟨bx, 0, none⟩)] w' (RetB (q i) w')) :
  Calls Tryz.prog 170 #[.slice a n cp, .func (.func h) #[] #[.pointer (some ⟨bx, 0, none⟩)]] w (RetIx q n w) := RS.scrT7s_index_any
theorem has_any (h : Nat) (bx : Nat) (q : Nat → Bool) (a : Option Addr) (n cp : Nat) (raw : List Rw) (w : World) (hn : n ≤ 1000000) (hr : RdR w a n cp raw) (he : ∀ args w, (callFunc h args).run Tryz.prog w = .ok (.enter h args) w)
  (hc : ∀ w' i x, Gr w w' → raw[i]? = some x → Calls Tryz.prog h #[.agg #[.slice x.a x.n x.c, .int .i64 x.y], .pointer (some ⟨bx, 0, none⟩)] w' (RetB (q i) w')) :
  Calls Tryz.prog 137 #[.slice a n cp, .func (.func h) #[] #[.pointer (some ⟨bx, 0, none⟩)]] w (RetB ((List.range n).any q) w) := RS.scrT7s_has_any
def RowG (w : World) (g : Nat) (raw : List Rw) : Prop := ∀ i x, raw[i]? = some x → w.cell? ⟨g, i * 2, none⟩ = some (.slice x.a x.n x.c) ∧ w.cell? ⟨g, i * 2 + 1, none⟩ = some (.int .i64 x.y) ∧ w.frozen? ⟨g, i * 2, none⟩ = false ∧ w.frozen? ⟨g, i * 2 + 1, none⟩ = false
theorem RowG.gr {w w' : World} {g : Nat} {M : List Rw} (h : RowG w g M) (k : Gr w w') : RowG w' g M := fun i x hi => by
 obtain ⟨h1, h2, h3, h4⟩ := h i x hi
 exact ⟨k.cell h1, k.cell h2, (Below.frozen k (World.block_lt_of_cell? w _ h1)).trans h3, (Below.frozen k (World.block_lt_of_cell? w _ h2)).trans h4⟩
theorem set_get {M : List Rw} {i j : Nat} {x y : Rw} (h : (M.set i x)[j]? = some y) : (i = j ∧ y = x) ∨ (i ≠ j ∧ M[j]? = some y) := by
 by_cases e : i = j
 ·subst e
  rw [List.getElem?_set_self'] at h
  cases hm : M[i]? with
  | none => rw [hm] at h; cases h
  | some z => rw [hm] at h; simp at h; exact .inl ⟨rfl, h.symm⟩
 rw [List.getElem?_set_ne e] at h
 exact .inr ⟨e, h⟩
theorem RowG.set {w : World} {g : Nat} {M : List Rw} (h : RowG w g M) {i : Nat} (hi : i < M.length) (x : Rw) :
  RowG ((w.setCell ⟨g, i * 2, none⟩ (.slice x.a x.n x.c)).setCell ⟨g, i * 2 + 1, none⟩ (.int .i64 x.y)) g (M.set i x) := RS.scrT8s_RowGset
theorem RowG.rd {w : World} {g c : Nat} {raw F : List Rw} (h : RowG w g raw) (hc : F.length ≤ c) (hm : c ≤ 9223372036854775807) (ht : raw.take F.length = F) : RdR w (some ⟨g, 0, none⟩) F.length c F := RS.scrT8s_RowGrd
def kpI (q : Nat → Bool) (raw : List Rw) (j : Nat) : List Rw := ((List.range j).filter fun i => !q i).map (rwAt raw)
theorem kpI_skip {q : Nat → Bool} {raw : List Rw} {j : Nat} (h : q j = true) : kpI q raw (j + 1) = kpI q raw j := by
 unfold kpI
 rw [List.range_succ, List.filter_append]
 simp [h]
theorem kpI_keep {q : Nat → Bool} {raw : List Rw} {j : Nat} (h : q j = false) : kpI q raw (j + 1) = kpI q raw j ++ [rwAt raw j] := by
 unfold kpI
 rw [List.range_succ, List.filter_append]
 simp [h]
theorem kpI_all {q : Nat → Bool} {raw : List Rw} {j : Nat} (hj : j ≤ raw.length) (h : ∀ i, i < j → q i = false) : kpI q raw j = raw.take j := by
 induction j with
 | zero => rfl
 | succ j ih =>
  rw [kpI_keep (h j (by omega)), ih (by omega) (fun i hi => h i (by omega)), List.take_add_one, rw_get (by omega)]
  rfl
theorem Wr.setCells {b : Nat} {w : World} (vs : List Value) : ∀ (o : Nat) {w1 : World}, Wr b w w1 → Wr b w (w1.setCells b o vs) := by
 induction vs with
 | nil => intro o w1 h; exact h
 | cons v r ih => intro o w1 h; exact ih (o + 1) (h.set o v)
theorem clear_rows (w : World) (b o n c : Nat) (hn : 0 < n) (hc : ∀ j, j < n * 2 → (w.cell? ⟨b, o + j, none⟩).isSome = true) (hf : ∀ j, j < n * 2 → w.frozen? ⟨b, o + j, none⟩ = false) :
  ∃ vs : List Value, ∀ ty, (Builtin.clear_ #[65] ty #[.slice (some ⟨b, o, none⟩) n c]).run Tryz.prog w = .ok (.tuple #[]) (w.setCells b o vs) := RS.scrT8s_clear_rows
theorem set_takeR {M : List Rw} {i : Nat} (h : i < M.length) (x : Rw) : (M.set i x).take (i + 1) = M.take i ++ [x] := by
 rw [List.take_add_one, List.take_set_of_le (Nat.le_refl i), List.getElem?_set_self h]
 rfl
theorem set_dropR {M L : List Rw} {i j : Nat} (h : M.drop j = L.drop j) (hi : i < j) (x : Rw) : (M.set i x).drop (j + 1) = L.drop (j + 1) := by
 rw [List.drop_set_of_lt (by omega)]
 have := congrArg (List.drop 1) h
 rwa [List.drop_drop, List.drop_drop] at this
theorem drop_moreR {M L : List Rw} {j : Nat} (h : M.drop j = L.drop j) : M.drop (j + 1) = L.drop (j + 1) := by
 have := congrArg (List.drop 1) h
 rwa [List.drop_drop, List.drop_drop] at this
theorem drop_getR {M L : List Rw} {j : Nat} (h : M.drop j = L.drop j) (hj : j < L.length) : M[j]? = some (rwAt L j) := by
 have := congrArg (fun A : List Rw => A[0]?) h
 simp only [List.getElem?_drop, Nat.add_zero] at this
 rw [this, rw_get hj]
def RetDel (g cp : Nat) (F : List Rw) (w : World) (e : Ending) (w' : World) : Prop := e = .returned (.slice (some ⟨g, 0, none⟩) F.length cp) ∧ Wr g w w' ∧ RdR w' (some ⟨g, 0, none⟩) F.length cp F
theorem delete_any (h bx : Nat) (q : Nat → Bool) (g cp : Nat) (raw : List Rw) (w : World) (hn : raw.length ≤ 900000) (hcp : raw.length ≤ cp) (hcm : cp ≤ 9223372036854775807) (hP : RowG w g raw) (he : ∀ args w, (callFunc h args).run Tryz.prog w = .ok (.enter h args) w)
  (hc : ∀ w', Wr g w w' → ∀ i x, raw[i]? = some x → Calls Tryz.prog h #[.agg #[.slice x.a x.n x.c, .int .i64 x.y], .pointer (some ⟨bx, 0, none⟩)] w' (RetB (q i) w')) :
  Calls Tryz.prog 135 #[.slice (some ⟨g, 0, none⟩) raw.length cp, .func (.func h) #[] #[.pointer (some ⟨bx, 0, none⟩)]] w (RetDel g cp (kpI q raw raw.length) w) := RS.scrT8s_delete_any
theorem kpI_dat {w0 w : World} {raw : List Rw} {L : Tbl Int} (h : Dat w0 w raw L) (q : Int → Bool) : ∀ j, j ≤ L.length → Dat w0 w (kpI (fun i => !q (vlAt L i)) raw j) ((L.take j).filter fun x => q x.2)
 | 0, _ => Dat.nil w0 w
 | j + 1, hj => by
  have ih := kpI_dat h q j (by omega)
  rw [List.take_add_one, ky_get (show j < L.length by omega), List.filter_append]
  have hr := h.2 j _ _ (rw_get (by rw [h.1]; omega)) (ky_get (show j < L.length by omega))
  cases hq : q (vlAt L j) with
  | true =>
   rw [kpI_keep (by rw [hq]; rfl)]
   have e : (List.filter (fun x => q x.2) (some (kyAt L j, vlAt L j)).toList) = [(kyAt L j, vlAt L j)] := by simp [hq]
   rw [e]
   exact ih.snoc hr.1 hr.2.1 hr.2.2
  | false =>
   rw [kpI_skip (by rw [hq]; rfl)]
   have e : (List.filter (fun x => q x.2) (some (kyAt L j, vlAt L j)).toList) = [] := by simp [hq]
   rw [e, List.append_nil]
   exact ih
def RetTb (w0 : World) (v : Value) (L : Tbl Int) (w : World) (e : Ending) (w' : World) : Prop := ∃ a n c, e = .returned (.slice a n c) ∧ RdT w0 w' a n c L ∧ Gr w0 w' ∧ Keep v w w'
theorem deleteT (F : RF) (R : Rg Int) (G : Int → Prop) (μ : Int → Nat) (B : Nat) (bx : Nat) (w0 w : World) (v : Value) (raw : List Rw) (L : Tbl Int) (hO : OwnR w0 w v raw) (hD : Dat w0 w raw L) (hn : L.length ≤ 1000) (hb : BoxF w bx F) (hne : v.ownBlock ≠ some bx) (hF : RingOk F R G μ B w0) (hG : ∀ x ∈ L, G x.2) :
  Calls Tryz.prog 135 #[v, .func (.func 136) #[] #[.pointer (some ⟨bx, 0, none⟩)]] w (RetTb w0 v (L.filter fun x => R.stays x.2) w) := RS.scrT8s_deleteT
def RF.val (F : RF) : Value := .agg #[.func (.func F.p) #[] F.pb, .func (.func F.t) #[] F.tb, .func (.func F.s) #[] F.sb, .func (.func F.f) #[] F.fb]
theorem BoxF.new {w w1 : World} {F : RF} {e : TypeId} (h : w.alloc (.cells #[.func (.func F.p) #[] F.pb, .func (.func F.t) #[] F.tb, .func (.func F.s) #[] F.sb, .func (.func F.f) #[] F.fb] e) = w1) : BoxF w1 w.heap.size F := by subst h; unfold BoxF; simp
theorem OwnR.base {w0 w2 w : World} {v : Value} {raw : List Rw} (h : OwnR w2 w v raw) (g : Gr w0 w2) : OwnR w0 w v raw := by
 refine ⟨?_, g.trans h.2⟩
 obtain ⟨hl, hv⟩ := h.1
 refine ⟨hl, ?_⟩
 rcases hv with hv | ⟨g', cap, cur, h1, h2, h3⟩
 ·exact .inl hv
 exact .inr ⟨g', cap, cur, h1, Nat.le_trans g.size h2, h3⟩
theorem pkr_set : ∀ (raw : List Rw) (i : Nat) (x : Rw) (y : Int), raw[i]? = some x → (pkr raw).set (i * 2 + 1) (.int .i64 y) = pkr (raw.set i ⟨x.a, x.n, x.c, y⟩)
 | [], i, x, y, h => by simp at h
 | m :: ms, i, x, y, h => by
  have e : ∀ m ms, pkr (m :: ms) = .slice m.a m.n m.c :: .int .i64 m.y :: pkr ms := fun _ _ => rfl
  cases i with
  | zero => simp at h; subst h; rw [e, List.set_cons_zero, e]; rfl
  | succ i =>
   rw [List.set_cons_succ, e, e, show (i + 1) * 2 + 1 = i * 2 + 1 + 1 + 1 by omega, List.set_cons_succ, List.set_cons_succ, pkr_set ms i x y (by simpa using h)]
theorem OwnR.set {w0 w : World} {g n c i : Nat} {raw : List Rw} {x : Rw} (h : OwnR w0 w (.slice (some ⟨g, 0, none⟩) n c) raw) (hn : n = raw.length) (hx : raw[i]? = some x) (y : Int) :
  OwnR w0 (w.setCell ⟨g, i * 2 + 1, none⟩ (.int .i64 y)) (.slice (some ⟨g, 0, none⟩) n c) (raw.set i ⟨x.a, x.n, x.c, y⟩) := by
 subst hn
 obtain ⟨h1, h2⟩ := h.1.stored (i * 2 + 1) (.int .i64 y)
 refine ⟨?_, h.2.grown h2 fun b hb => ?_⟩
 ·rw [pkr_set raw i x y hx] at h1
  rw [List.length_set]
  exact h1
 cases hb
 exact (h.1.lt g rfl).1
theorem Dat.last {w0 w : World} {raw : List Rw} {T : Tbl Int} {u : List Int} {e d : Int} {x : Rw} {y : Int} (h : Dat w0 w raw (T ++ [(u, e)])) (hx : raw[T.length]? = some x) (hy : Rep w y d) : Dat w0 w (raw.set T.length ⟨x.a, x.n, x.c, y⟩) (T ++ [(u, d)]) := RS.scrT9s_Datlast
theorem ky_take {L : Tbl Int} {k : Nat} (h : k < L.length) : L.take (k + 1) = L.take k ++ [(kyAt L k, vlAt L k)] := by
 rw [List.take_add_one, ky_get h]; rfl
theorem OwnR.at {w0 w : World} {g n c i : Nat} {raw : List Rw} {x : Rw} (h : OwnR w0 w (.slice (some ⟨g, 0, none⟩) n c) raw) (hx : raw[i]? = some x) : w.cell? ⟨g, i * 2, none⟩ = some (.slice x.a x.n x.c) ∧ w.cell? ⟨g, i * 2 + 1, none⟩ = some (.int .i64 x.y) ∧ w.frozen? ⟨g, i * 2, none⟩ = false ∧ w.frozen? ⟨g, i * 2 + 1, none⟩ = false := by
 rcases h.blk with ⟨e, _⟩ | ⟨g', c', cur, e, _, _, _, _, _, h6⟩
 ·simp at e
 simp only [Value.slice.injEq, Option.some.injEq, Addr.mk.injEq, and_true] at e
 rw [e.1]
 exact h6 i x hx
theorem Dat.setc {w0 w : World} {raw raw' : List Rw} {L : Tbl Int} {g n c : Nat} (h : Dat w0 w raw' L) (ho : OwnR w0 w (.slice (some ⟨g, 0, none⟩) n c) raw) (hn : n = raw.length) (j : Nat) (u : Value) : Dat w0 (w.setCell ⟨g, j, none⟩ u) raw' L := by
 subst hn
 exact h.grown ho (ho.1.stored j u).2
def RetG (w0 : World) (T : Tbl Int) (b : Bool) (e : Ending) (w' : World) : Prop := ∃ a n c, e = .returned (.tuple #[.slice a n c, .bool b]) ∧ RdT w0 w' a n c T ∧ Gr w0 w'
theorem ok_any {R : Rg Int} {T : Tbl Int} : okT R T = (decide (T.length ≤ 60) && !(List.range T.length).any fun i => !R.fits (vlAt T i)) := RS.scrT9s_ok_any
theorem gathered_any (F : RF) (R : Rg Int) (G : Int → Prop) (μ : Int → Nat) (B : Nat) (w0 w : World) (v : Value) (raw : List Rw) (L : Tbl Int) (hO : OwnR w0 w v raw) (hD : Dat w0 w raw L) (hn : L.length ≤ 1000) (hF : RingOk F R G μ B w0) (hG : ∀ x ∈ L, G x.2) (hM : sumT μ L ≤ B) :
  Calls Tryz.prog 104 #[F.val, v] w (RetG w0 (gath R L) (okT R (gath R L))) := RS.scrT9s_gathered_any
section
variable {ops : Array Oper} {rest : List Oper} {o : Oper} {a : Act} {Q : Exit → Act → World → Prop}
theorem wpList_any_row (hgd : o.guard = none) (s x : Operand) (t : TypeId)
  (ho : o.op = .call { callee := .builtin .append, args := #[s, x], argTypes := #[t, t] }) (ht : Tryz.prog.underlying t = some (.slice 98))
  {w0 w : World} (v : Value) (raw : List Rw) (hs : a.eval s = v) (hown : OwnR w0 w v raw)
  (ax : Option Addr) (n c : Nat) (X : List Rw) (hx : a.eval x = .slice ax n c) (hX : RdR w ax n c X) (hk : raw.length + n ≤ 1000000)
  (h : ∀ v' w', OwnR w0 w' v' (raw ++ X) → w.grownBy w' v.ownBlock → wpList Tryz.prog ops Q rest (a.put o.dst v') w') : wpList Tryz.prog ops Q (o :: rest) a w := RS.scrTAs_wpList_any_row
end
theorem GrowR_any (z : Int) (k : Nat) (hz : z = k) (hk : k ≤ 100000) (w0 w : World) (g : Gr w0 w) : Calls Tryz.prog 130 #[.slice none 0 0, .int .i64 z] w fun e w' => ∃ v, e = .returned v ∧ OwnR w0 w' v [] ∧ Gr w0 w' := by
 subst hz
 rcases Nat.eq_zero_or_pos k with rfl | h1
 ·have h : Calls Tryz.prog 130 #[.slice none 0 0, .int .i64 (0 : Nat)] w _ := Any8.slices_Grow_room Tryz.grow130 none 0 0 0 w (Nat.le_refl _) (by omega) (by omega) (by omega)
  refine h.mono ?_
  rintro e w' ⟨rfl, rfl⟩
  exact ⟨_, rfl, OwnR.nil' g, g⟩
 obtain ⟨i0, hi, hz0, hz1, hz2⟩ := info_row
 have h : Calls Tryz.prog 130 #[.slice none 0 0, .int .i64 k] w _ := Any8.slices_Grow_grow Tryz.grow130 i0 _ hi hz0 (by rw [hz1]; omega) none 0 0 k [] w (Nat.le_refl _) (by omega) (by rw [hz2]; omega) (by omega) (by simp) (fun _ => rfl) (fun a ha => by cases ha)
 refine h.mono ?_
 rintro e w' ⟨rfl, rfl⟩
 have gg : Gr w0 (w.drew.alloc (.cells ((([] : List Value).toArray ++ Builtin.zeroCells (Value.agg #[.slice none 0 0, .int .i64 0]).cells (0 + k - 0) ++ Builtin.zeroCells (Value.agg #[.slice none 0 0, .int .i64 0]).cells (grownCap w (0 + k) 0 (Tryz.grow130_ren.t 25) - (0 + k)))) (Tryz.grow130_ren.t 25))) := (g.drew).alloc _
 have ge := grownCap_ge w (0 + k) 0 (Tryz.grow130_ren.t 25)
 have hm := grownCap_le_maxLen w (0 + k) 0 (Tryz.grow130_ren.t 25) (by unfold maxLen; omega)
 refine ⟨_, rfl, ⟨⟨rfl, .inr ⟨w.heap.size, _, _, rfl, g.size, heap_alloc_new w.drew _, Nat.zero_le _, hm, ?_, rfl⟩⟩, gg⟩, gg⟩
 simp only [Array.size_append, List.size_toArray, size_zeroCells, List.length_nil]
 have : (Value.agg #[.slice none 0 0, .int .i64 0]).cells.size = 2 := rfl
 rw [this]
 omega
def RetRows (w : World) (L : Tbl Int) (e : Ending) (w' : World) : Prop := ∃ v raw, e = .returned v ∧ OwnR w w' v raw ∧ Dat w w' raw L
theorem concat_any (bb n c n' c' : Nat) (a a' : Option Addr) (T U : Tbl Int) (w : World) (hn : n ≤ 1000) (hn' : n' ≤ 1000) (hr : RdT w w a n c T) (hr' : RdT w w a' n' c' U) (hb0 : w.cell? ⟨bb, 0, none⟩ = some (.slice a n c)) (hb1 : w.cell? ⟨bb, 1, none⟩ = some (.slice a' n' c')) :
  Calls Tryz.prog 100 #[.slice (some ⟨bb, 0, none⟩) 2 2] w (RetRows w (T ++ U)) := RS.scrTAs_concat_any
theorem join1_snoc (mul : Int → Int → Int) (x : List Int × Int) (v : Tbl Int) (y : List Int × Int) : join1 mul x (v ++ [y]) = join1 mul x v ++ (if x.1.getD 0 0 = y.1.getD 0 0 then [(x.1 ++ y.1.drop 1, mul x.2 y.2)] else []) := by
 unfold join1
 rw [List.filter_append, List.map_append]
 congr 1
 split
 ·rename_i h
  rw [List.filter_cons, if_pos (by simpa using h)]; rfl
 rename_i h
 have : List.filter (fun y => decide (x.1.getD 0 0 = y.1.getD 0 0)) [y] = [] := by
  rw [List.filter_cons, if_neg (by simpa using h)]; rfl
 rw [this]; rfl
theorem joinL_snoc (mul : Int → Int → Int) (u v : Tbl Int) (x : List Int × Int) : joinL mul (u ++ [x]) v = joinL mul u v ++ join1 mul x v := by simp [joinL]
theorem cut_more {A : Tbl Int} {z : List Int × Int} (h : (A.take 61).length ≤ 60) : A.take 61 ++ [z] = (A ++ [z]).take 61 := by
 rw [List.length_take] at h
 rw [List.take_of_length_le (by omega), List.take_of_length_le (by simp; omega)]
theorem cut_full {A B : Tbl Int} (h : ¬ (A.take 61).length ≤ 60) : A.take 61 = (A ++ B).take 61 := by
 rw [List.length_take] at h
 rw [List.take_append_of_le_length (by omega)]
theorem wpIn_app_row {F : Fence} {n : Nat} {o : Oper} {a : Act} {K : Act → World → Prop} {Q : Exit → Act → World → Prop} (s x : Operand) (t : TypeId)
  (ho : o.op = .call { callee := .builtin .append, args := #[s, x], argTypes := #[t, t] }) (ht : Tryz.prog.underlying t = some (.slice 98))
  {w0 w : World} (v : Value) (raw : List Rw) (hs : a.eval s = v) (hown : OwnR w0 w v raw)
  (g : Nat) (r : Rw) (hx : a.eval x = .slice (some ⟨g, 0, none⟩) 1 1) (hg : w.cell? ⟨g, 0, none⟩ = some (.slice r.a r.n r.c) ∧ w.cell? ⟨g, 1, none⟩ = some (.int .i64 r.y)) (hk : raw.length < 999999)
  (h : ∀ v' w', OwnR w0 w' v' (raw ++ [r]) → w.grownBy w' v.ownBlock → K (a.put o.dst v') w') : o.wpIn F n Tryz.prog a w K Q := RS.scrTBs_wpIn_app_row
theorem Rd3.grown {w0 w w' : World} {v : Value} {raw : List Rw} {x : Rw} {L : List Int} {d : Int} (h : Rd3 w x.a x.n x.c L) (ho : Old w0 w 3 x.n x.a) (hp : Rep w x.y d) (hO : OwnR w0 w v raw) (g : w.grownBy w' v.ownBlock) : Rd3 w' x.a x.n x.c L ∧ Old w0 w' 3 x.n x.a ∧ Rep w' x.y d := by
 rcases hO.blk with ⟨rfl, _⟩ | ⟨b, c', cur, rfl, _, _, hb, _, hg, _⟩
 ·have k : Gr w w' := (Gr.refl w).grown g fun k hk => by cases hk
  exact ⟨h.gr k, ho.gr k, hp.gr k⟩
 have hf := ho.off hb hg (by decide)
 exact ⟨h.wr g hf, ho.wr g hf, hp.wr hg g⟩
def BoxR (w : World) (b : Nat) (x : Rw) : Prop := ∃ fz, w.heap[b]? = some (.cells #[.slice x.a x.n x.c, .int .i64 x.y] 98 fz)
theorem BoxR.new {w w1 : World} {x : Rw} (h : w.alloc (.cells #[.slice x.a x.n x.c, .int .i64 x.y] 98) = w1) : BoxR w1 w.heap.size x := by
 subst h
 exact ⟨_, heap_alloc_new w _⟩
theorem BoxR.lt {w : World} {b : Nat} {x : Rw} (h : BoxR w b x) : b < w.heap.size := by
 obtain ⟨fz, h⟩ := h
 rcases Nat.lt_or_ge b w.heap.size with q | q
 ·exact q
 rw [Array.getElem?_eq_none q] at h; cases h
theorem BoxR.gr {w w' : World} {b : Nat} {x : Rw} (h : BoxR w b x) (g : Gr w w') : BoxR w' b x := by
 have hl := h.lt
 obtain ⟨fz, h⟩ := h
 exact ⟨fz, by rw [Below.block g b hl]; exact h⟩
theorem BoxR.grown {w w' : World} {b : Nat} {x : Rw} {row : Option Nat} (h : BoxR w b x) (g : w.grownBy w' row) (hne : row ≠ some b) : BoxR w' b x := by
 have hl := h.lt
 obtain ⟨fz, h⟩ := h
 exact ⟨fz, by rw [g.block b hl (fun e => hne e.symm)]; exact h⟩
theorem BoxR.cells {w : World} {b : Nat} {x : Rw} (h : BoxR w b x) : w.cell? ⟨b, 0, none⟩ = some (.slice x.a x.n x.c) ∧ w.cell? ⟨b, 1, none⟩ = some (.int .i64 x.y) := by
 obtain ⟨fz, h⟩ := h
 simp [World.cell?, h]
theorem BoxR.apart {w0 w w' : World} {b : Nat} {x z : Rw} {v v' : Value} {raw : List Rw} (h : BoxR w b x) (g : w.grownBy w' v.ownBlock) (hne : v.ownBlock ≠ some b) (ho : OwnR w0 w' v' (raw ++ [z])) (hz : z.a ≠ x.a) : v'.ownBlock ≠ some b := fun e => by
 obtain ⟨fz, hb⟩ := h.grown g hne
 rcases ho.1.2 with ⟨rfl, _⟩ | ⟨g', cap, cur, rfl, _, hg, hn, _, hs, _⟩
 ·cases e
 have e' : g' = b := Option.some.inj e
 subst e'
 rw [hg] at hb
 simp only [Option.some.injEq, Obj.cells.injEq] at hb
 have hc := hb.1
 rw [hc] at hs
 simp at hs hn
 have hr : raw = [] := List.length_eq_zero_iff.1 (by omega)
 subst hr
 obtain ⟨k, _⟩ := OwnR.at (i := 0) (x := z) ho rfl
 simp only [Nat.zero_mul, World.cell?, hg, hc] at k
 simp at k
 exact hz k.1.symm
theorem step64 {j n : Nat} (h : j < n) (hn : n ≤ 1000) : wrap64 ((j : Int) + 1) = ((j + 1 : Nat) : Int) := by rw [IntWalk.wrap64_in _ (by omega)]; omega
theorem fall {j n : Nat} (h : j < n) : n - (intOf (.int .i64 ((j + 1 : Nat) : Int))).toNat < n - (intOf (.int .i64 (j : Int))).toNat := by simp only [intOf]; omega
def JoinOk (R : Rg Int) (G : Int → Prop) (T : Tbl Int) : Prop := ∀ x ∈ T, 1 ≤ x.1.length ∧ x.1.length ≤ 100 ∧ G x.2 ∧ R.stays x.2 = true ∧ R.fits x.2 = true
theorem by_any (F : RF) (R : Rg Int) (G : Int → Prop) (μ : Int → Nat) (B : Nat) (w : World) (a a' : Option Addr) (n c n' c' : Nat) (T U : Tbl Int) (hn : n ≤ 1000) (hn' : n' ≤ 1000) (hr : RdT w w a n c T) (hr' : RdT w w a' n' c' U) (hF : RingOk F R G μ B w) (hT : JoinOk R G T) (hU : JoinOk R G U) :
  Calls Tryz.prog 101 #[F.val, .slice a n c, .slice a' n' c'] w (RetRows w ((joinL R.mul T U).take 61)) := RS.scrTBs_by_any
structure FromOk (fn : Nat) (fb : Array Value) (φ : SL → Int) (G0 : SL → Prop) (w0 : World) : Prop where
 ef : ∀ args w, (callFunc fn args).run Tryz.prog w = .ok (.enter fn args) w
 cf : ∀ w a n c L, Gr w0 w → RdP w a n c L → G0 L → Calls Tryz.prog fn (#[.slice a n c] ++ fb) w (RetD (φ L) w)
theorem FromOk.gr {fn : Nat} {fb : Array Value} {φ : SL → Int} {G0 : SL → Prop} {w0 w1 : World} (h : FromOk fn fb φ G0 w0) (g : Gr w0 w1) : FromOk fn fb φ G0 w1 :=
 ⟨h.ef, fun w a n c L k => h.cf w a n c L (g.trans k)⟩
theorem first_any (fn : Nat) (fb : Array Value) (φ : SL → Int) (G0 : SL → Prop) (k bt bf : Nat) (a : Option Addr) (n c : Nat) (Ts : List (Int × Tbl SL)) (WT : Int × Tbl SL) (w : World) (hF : FromOk fn fb φ G0 w) (hr : RdWs w a n c Ts) (hk : Ts[k]? = some WT) (hT : WT.2.length ≤ 1000) (hG : ∀ x ∈ WT.2, 1 ≤ x.1.length ∧ x.1.length ≤ 100 ∧ G0 x.2) (hbt : w.cell? ⟨bt, 0, none⟩ = some (.slice a n c)) (hbf : w.cell? ⟨bf, 0, none⟩ = some (.func (.func fn) #[] fb)) :
  Calls Tryz.prog 72 #[.int .i64 k, .pointer (some ⟨bt, 0, none⟩), .pointer (some ⟨bf, 0, none⟩)] w (RetRows w (mapT φ WT.2)) := RS.scrTCs_first_any
def RdPl (w0 w : World) (a : Option Addr) (n c : Nat) (p : List (Tbl Int)) : Prop := n = p.length ∧ n ≤ c ∧ c ≤ 9223372036854775807 ∧ (a = none → c = 0) ∧ (n = 0 ∨ ∃ b o, a = some ⟨b, o, none⟩ ∧ ∀ i T, p[i]? = some T → ∃ a1 n1 c1, w.cell? ⟨b, o + i, none⟩ = some (.slice a1 n1 c1) ∧ RdT w0 w a1 n1 c1 T)
theorem RdPl.gr {w0 w w' : World} {a : Option Addr} {n c : Nat} {p : List (Tbl Int)} (h : RdPl w0 w a n c p) (g : Gr w w') : RdPl w0 w' a n c p := by
 obtain ⟨h1, h2, h3, h4, h5⟩ := h
 refine ⟨h1, h2, h3, h4, ?_⟩
 rcases h5 with h5 | ⟨b, o, ha, hc⟩
 ·exact .inl h5
 refine .inr ⟨b, o, ha, fun i T hT => ?_⟩
 obtain ⟨a1, n1, c1, k1, k2⟩ := hc i T hT
 exact ⟨a1, n1, c1, g.cell k1, k2.gr g⟩
theorem RdPl.own {w0 w : World} {a : Option Addr} {n c : Nat} {p : List (Tbl Int)} (h : RdPl w0 w a n c p) : RdPl w w a n c p := by
 obtain ⟨h1, h2, h3, h4, h5⟩ := h
 refine ⟨h1, h2, h3, h4, ?_⟩
 rcases h5 with h5 | ⟨b, o, ha, hc⟩
 ·exact .inl h5
 refine .inr ⟨b, o, ha, fun i T hT => ?_⟩
 obtain ⟨a1, n1, c1, k1, k2⟩ := hc i T hT
 exact ⟨a1, n1, c1, k1, k2.own⟩
theorem RdPl.nil (w0 w : World) : RdPl w0 w none 0 0 [] := ⟨rfl, Nat.le_refl _, by omega, fun _ => rfl, .inl rfl⟩
theorem RdPl.at {w0 w : World} {a : Option Addr} {n c : Nat} {p : List (Tbl Int)} (h : RdPl w0 w a n c p) {k : Nat} (hk : k < n) : ∃ b o a1 n1 c1, a = some ⟨b, o, none⟩ ∧ w.cell? ⟨b, o + k, none⟩ = some (.slice a1 n1 c1) ∧ RdT w0 w a1 n1 c1 (p.getD k []) := by
 obtain ⟨h1, h2, h3, h4, h5⟩ := h
 rcases h5 with h5 | ⟨b, o, ha, hc⟩
 ·omega
 have hr : p[k]? = some (p.getD k []) := by rw [List.getD_eq_getElem?_getD, List.getElem?_eq_getElem (by omega)]; rfl
 obtain ⟨a1, n1, c1, k1, k2⟩ := hc k _ hr
 exact ⟨b, o, a1, n1, c1, ha, k1, k2⟩
theorem RdPl.olds {w0 w : World} {a : Option Addr} {n c : Nat} {p : List (Tbl Int)} (h : RdPl w0 w a n c p) {k : Nat} (hk : k ≤ n) : ∃ olds : List Value, olds.length = k ∧ (∀ b, a = some b → ∀ (j : Nat) (u : Value), olds[j]? = some u → w.cell? (b.add j) = some u) ∧ ∀ (j : Nat) (T : Tbl Int), (p.take k)[j]? = some T → ∃ a1 n1 c1, olds[j]? = some (.slice a1 n1 c1) ∧ RdT w0 w a1 n1 c1 T := RS.scrTHs_RdPlolds
theorem infoTb : (Tryz.prog.info? 65).map (fun i => (i.zero, i.size, i.bytes)) = some (some (.slice none 0 0), 1, 24) := by kernel_rfl
theorem info_tab : ∃ i, Tryz.prog.info? 65 = some i ∧ i.zero = some (.slice none 0 0) ∧ i.size = 1 ∧ i.bytes = 24 := by
 have h := infoTb
 cases hi : Tryz.prog.info? 65 with
 | none => rw [hi] at h; cases h
 | some i =>
  rw [hi] at h
  simp only [Option.map_some, Option.some.injEq, Prod.mk.injEq] at h
  exact ⟨i, rfl, h⟩
theorem RdPl.push {w w' : World} {k : Nat} {p : List (Tbl Int)} {olds : List Value} {v' : Value} {a1 : Option Addr} {n1 c1 : Nat} {T : Tbl Int} {base : Nat} (ho : olds.length = k) (hq : ∀ (j : Nat) (T : Tbl Int), (p.take k)[j]? = some T → ∃ a1 n1 c1, olds[j]? = some (.slice a1 n1 c1) ∧ RdT w w a1 n1 c1 T) (hk : k ≤ p.length) (hw : w'.ownsRow base 65 1 v' (k + 1) (olds ++ [.slice a1 n1 c1])) (g : Gr w w') (hT : RdT w' w' a1 n1 c1 T) : ∃ a' c', v' = .slice a' (k + 1) c' ∧ RdPl w' w' a' (k + 1) c' (p.take k ++ [T]) := RS.scrTHs_RdPlpush
def cutW (R : Rg Int) (tabs : List (Tbl Int)) (s : Wd) (p : List (Tbl Int)) : Tbl Int := match s with
 | .byy => (rowsW R.mul tabs s p).take 61
 | s => rowsW R.mul tabs s p
def RetDo (w : World) (p : List (Tbl Int)) (b : Bool) (e : Ending) (w' : World) : Prop := ∃ a n c, e = .returned (.tuple #[.slice a n c, .bool b]) ∧ RdPl w' w' a n c p ∧ Gr w w'
theorem wraps {n kk : Nat} (hkk : n = kk + 2) (hn : n ≤ 1000) : IntKind.i64.wrap ((n : Int) - 2) = (kk : Int) ∧ IntKind.i64.wrap ((kk : Int) + 1) = ((kk + 1 : Nat) : Int) ∧ wrap64 ((n : Int) - 2) = (kk : Int) ∧ wrap64 ((kk : Int) + 1) = ((kk + 1 : Nat) : Int) := by
 refine ⟨?_, ?_, ?_, ?_⟩
 ·rw [IntWalk.i64_in _ (by omega)]; omega
 ·rw [IntWalk.i64_in _ (by omega)]; omega
 ·rw [IntWalk.wrap64_in _ (by omega)]; omega
 rw [IntWalk.wrap64_in _ (by omega)]; omega
theorem one_cell (w : World) {u v : Value} {e : TypeId} {j : Nat} (hu : [v][j]? = some u) : (w.alloc (.cells #[v] e)).cell? ((⟨w.heap.size, 0, none⟩ : Addr).add j) = some u := by
 cases j with
 | zero =>
  simp only [List.getElem?_cons_zero, Option.some.injEq] at hu
  subst hu
  rw [add_flat rfl]
  simp
 | succ j => simp at hu
theorem does_put (F : RF) (R : Rg Int) (G : Int → Prop) (μ : Int → Nat) (B : Nat) (w : World) (a : Option Addr) (n c : Nat) (tabs p : List (Tbl Int)) (k : Nat) (hp : RdPl w w a n c p) (hn : n ≤ 1000) (hF : RingOk F R G μ B w) (hL : (cutW R tabs (.put k) p).length ≤ 1000) (hG : ∀ x ∈ cutW R tabs (.put k) p, G x.2) (hM : sumT μ (cutW R tabs (.put k) p) ≤ B) (bt bf : Nat) (hC : ∀ W, Gr w W → Calls Tryz.prog 72 #[.int .i64 k, .pointer (some ⟨bt, 0, none⟩), .pointer (some ⟨bf, 0, none⟩)] W (RetRows W (tabs.getD k []))) :
  Calls Tryz.prog 74 #[F.val, .agg #[.int .i64 (stp (.put k)).1, .int .i64 (stp (.put k)).2.1, .int .i64 (stp (.put k)).2.2], .slice a n c, .func (.func 72) #[] #[.pointer (some ⟨bt, 0, none⟩), .pointer (some ⟨bf, 0, none⟩)]] w (RetDo w (restW (.put k) p ++ [gath R (cutW R tabs (.put k) p)]) (okT R (gath R (cutW R tabs (.put k) p)))) := RS.scrTKs_does_put
theorem does_orr (F : RF) (R : Rg Int) (G : Int → Prop) (μ : Int → Nat) (B : Nat) (w : World) (a : Option Addr) (n c : Nat) (tabs p : List (Tbl Int)) (fv : Value) (hp : RdPl w w a n c p) (hn : n ≤ 1000) (hF : RingOk F R G μ B w) (hL : (cutW R tabs .orr p).length ≤ 1000) (hG : ∀ x ∈ cutW R tabs .orr p, G x.2) (hM : sumT μ (cutW R tabs .orr p) ≤ B) (hk : 2 ≤ p.length) :
  Calls Tryz.prog 74 #[F.val, .agg #[.int .i64 (stp .orr).1, .int .i64 (stp .orr).2.1, .int .i64 (stp .orr).2.2], .slice a n c, fv] w (RetDo w (restW .orr p ++ [gath R (cutW R tabs .orr p)]) (okT R (gath R (cutW R tabs .orr p)))) := RS.scrTKs_does_orr
theorem does_byy (F : RF) (R : Rg Int) (G : Int → Prop) (μ : Int → Nat) (B : Nat) (w : World) (a : Option Addr) (n c : Nat) (tabs p : List (Tbl Int)) (fv : Value) (hp : RdPl w w a n c p) (hn : n ≤ 1000) (hF : RingOk F R G μ B w) (hL : (cutW R tabs .byy p).length ≤ 1000) (hG : ∀ x ∈ cutW R tabs .byy p, G x.2) (hM : sumT μ (cutW R tabs .byy p) ≤ B) (hk : 2 ≤ p.length) (hJ : (p.getD (p.length - 2) []).length ≤ 1000 ∧ (p.getD (p.length - 1) []).length ≤ 1000 ∧ JoinOk R G (p.getD (p.length - 2) []) ∧ JoinOk R G (p.getD (p.length - 1) [])) :
  Calls Tryz.prog 74 #[F.val, .agg #[.int .i64 (stp .byy).1, .int .i64 (stp .byy).2.1, .int .i64 (stp .byy).2.2], .slice a n c, fv] w (RetDo w (restW .byy p ++ [gath R (cutW R tabs .byy p)]) (okT R (gath R (cutW R tabs .byy p)))) := RS.scrTKs_does_byy
def fK (s : Wd) (T : Tbl Int) : Tbl Int := (T.filter fun x => keepsW s x.1).map fun x => (colsW s x.1, x.2)
theorem fK_take {s : Wd} {T : Tbl Int} {i : Nat} {r : List Int × Int} (h : T[i]? = some r) : fK s (T.take (i + 1)) = fK s (T.take i) ++ (if keepsW s r.1 = true then [(colsW s r.1, r.2)] else []) := by
 unfold fK
 rw [List.take_add_one, h, List.filter_append, List.map_append]
 congr 1
 show List.map _ (List.filter _ [r]) = _
 rw [List.filter_cons]
 split <;> rfl
theorem fK_len (s : Wd) (T : Tbl Int) : (fK s T).length ≤ T.length := by
 unfold fK
 rw [List.length_map]
 exact List.length_filter_le _ _
theorem wrap1 {n kk : Nat} (hkk : n = kk + 1) (hn : n ≤ 1000) : IntKind.i64.wrap ((n : Int) - 1) = (kk : Int) ∧ wrap64 ((n : Int) - 1) = (kk : Int) := by
 refine ⟨?_, ?_⟩
 ·rw [IntWalk.i64_in _ (by omega)]; omega
 rw [IntWalk.wrap64_in _ (by omega)]; omega
theorem does_pick (F : RF) (R : Rg Int) (G : Int → Prop) (μ : Int → Nat) (B : Nat) (w : World) (a : Option Addr) (n c : Nat) (tabs p : List (Tbl Int)) (k : Nat) (m : Int) (fv : Value) (hp : RdPl w w a n c p) (hn : n ≤ 1000) (hF : RingOk F R G μ B w) (hL : (cutW R tabs (.pick k m) p).length ≤ 1000) (hG : ∀ x ∈ cutW R tabs (.pick k m) p, G x.2) (hM : sumT μ (cutW R tabs (.pick k m) p) ≤ B) (hk : 1 ≤ p.length) (hcol : ∀ x ∈ p.getD (p.length - 1) [], colOk (.pick k m) x.1.length) (hlen : (p.getD (p.length - 1) []).length ≤ 1000) :
  Calls Tryz.prog 74 #[F.val, .agg #[.int .i64 (stp (.pick k m)).1, .int .i64 (stp (.pick k m)).2.1, .int .i64 (stp (.pick k m)).2.2], .slice a n c, fv] w (RetDo w (restW (.pick k m) p ++ [gath R (cutW R tabs (.pick k m) p)]) (okT R (gath R (cutW R tabs (.pick k m) p)))) := RS.scrTLs_does_pick
theorem does_same (F : RF) (R : Rg Int) (G : Int → Prop) (μ : Int → Nat) (B : Nat) (w : World) (a : Option Addr) (n c : Nat) (tabs p : List (Tbl Int)) (k m : Nat) (fv : Value) (hp : RdPl w w a n c p) (hn : n ≤ 1000) (hF : RingOk F R G μ B w) (hL : (cutW R tabs (.same k m) p).length ≤ 1000) (hG : ∀ x ∈ cutW R tabs (.same k m) p, G x.2) (hM : sumT μ (cutW R tabs (.same k m) p) ≤ B) (hk : 1 ≤ p.length) (hcol : ∀ x ∈ p.getD (p.length - 1) [], colOk (.same k m) x.1.length) (hlen : (p.getD (p.length - 1) []).length ≤ 1000) :
  Calls Tryz.prog 74 #[F.val, .agg #[.int .i64 (stp (.same k m)).1, .int .i64 (stp (.same k m)).2.1, .int .i64 (stp (.same k m)).2.2], .slice a n c, fv] w (RetDo w (restW (.same k m) p ++ [gath R (cutW R tabs (.same k m) p)]) (okT R (gath R (cutW R tabs (.same k m) p)))) := RS.scrTMs_does_same
theorem wrap2 {k n : Nat} (h : k < n ∧ n ≤ 1000) : IntKind.i64.wrap ((k : Int) + 1) = ((k + 1 : Nat) : Int) ∧ wrap64 ((k : Int) + 1) = ((k + 1 : Nat) : Int) := by
 refine ⟨?_, ?_⟩
 ·rw [IntWalk.i64_in _ (by omega)]; omega
 rw [IntWalk.wrap64_in _ (by omega)]; omega
theorem does_drop (F : RF) (R : Rg Int) (G : Int → Prop) (μ : Int → Nat) (B : Nat) (w : World) (a : Option Addr) (n c : Nat) (tabs p : List (Tbl Int)) (k : Nat) (fv : Value) (hp : RdPl w w a n c p) (hn : n ≤ 1000) (hF : RingOk F R G μ B w) (hL : (cutW R tabs (.drop k) p).length ≤ 1000) (hG : ∀ x ∈ cutW R tabs (.drop k) p, G x.2) (hM : sumT μ (cutW R tabs (.drop k) p) ≤ B) (hk : 1 ≤ p.length) (hcol : ∀ x ∈ p.getD (p.length - 1) [], colOk (.drop k) x.1.length) (hlen : (p.getD (p.length - 1) []).length ≤ 1000) (hlen2 : ∀ x ∈ p.getD (p.length - 1) [], x.1.length ≤ 1000) :
  Calls Tryz.prog 74 #[F.val, .agg #[.int .i64 (stp (.drop k)).1, .int .i64 (stp (.drop k)).2.1, .int .i64 (stp (.drop k)).2.2], .slice a n c, fv] w (RetDo w (restW (.drop k) p ++ [gath R (cutW R tabs (.drop k) p)]) (okT R (gath R (cutW R tabs (.drop k) p)))) := RS.scrTNs_does_drop
theorem getD_mem {α : Type} {p : List α} {i : Nat} (d : α) (h : i < p.length) : p.getD i d ∈ p := by
 rw [List.getD_eq_getElem?_getD, List.getElem?_eq_getElem h]
 exact List.getElem_mem h
theorem does_any (F : RF) (R : Rg Int) (G : Int → Prop) (μ : Int → Nat) (B : Nat) (w : World) (a : Option Addr) (n c : Nat) (tabs p : List (Tbl Int)) (s : Wd) (bt bf : Nat) (hp : RdPl w w a n c p) (hn : n ≤ 1000) (hF : RingOk F R G μ B w) (hL : (cutW R tabs s p).length ≤ 1000) (hG : ∀ x ∈ cutW R tabs s p, G x.2) (hM : sumT μ (cutW R tabs s p) ≤ B)
  (hk : takesW s ≤ p.length) (hC : ∀ k, s = .put k → ∀ W, Gr w W → Calls Tryz.prog 72 #[.int .i64 k, .pointer (some ⟨bt, 0, none⟩), .pointer (some ⟨bf, 0, none⟩)] W (RetRows W (tabs.getD k [])))
  (hT : ∀ T ∈ p, T.length ≤ 1000 ∧ JoinOk R G T) (hcol : ∀ x ∈ p.getD (p.length - 1) [], colOk s x.1.length) :
  Calls Tryz.prog 74 #[F.val, .agg #[.int .i64 (stp s).1, .int .i64 (stp s).2.1, .int .i64 (stp s).2.2], .slice a n c, .func (.func 72) #[] #[.pointer (some ⟨bt, 0, none⟩), .pointer (some ⟨bf, 0, none⟩)]] w (RetDo w (restW s p ++ [gath R (cutW R tabs s p)]) (okT R (gath R (cutW R tabs s p)))) := RS.scrTOs_does_any
theorem cut_same {R : Rg Int} {G : Int → Prop} {pw : List Int} {tabs p : List (Tbl Int)} (s : Wd) (hL : RgL R G) (hp : PI R G pw p) (hk : takesW s ≤ p.length) :
  okT R (gath R (cutW R tabs s p)) = okT R (gath R (rowsW R.mul tabs s p)) ∧ (okT R (gath R (rowsW R.mul tabs s p)) = true → gath R (cutW R tabs s p) = gath R (rowsW R.mul tabs s p)) := RS.scrTQs_cut_same
theorem cut_mem {R : Rg Int} {tabs p : List (Tbl Int)} {s : Wd} {x : List Int × Int} (h : x ∈ cutW R tabs s p) : x ∈ rowsW R.mul tabs s p := by
 cases s with
 | byy => exact List.mem_of_mem_take h
 | put _ => exact h
 | orr => exact h
 | drop _ => exact h
 | pick _ _ => exact h
 | same _ _ => exact h
theorem TI.join {R : Rg Int} {G : Int → Prop} {W : Int} {T : Tbl Int} (h : TI R G W T) : T.length ≤ 1000 ∧ JoinOk R G T := by
 have hw := h.w1
 have ho := okT_le h.ok
 refine ⟨by have := ho.1; omega, fun x hx => ?_⟩
 have hl : x.1.length = W.toNat := h.wd x hx
 exact ⟨by omega, by omega, h.gd x hx, h.st x hx, ho.2 x hx⟩
theorem takes_le {ws pw qw : List Int} {s : Wd} (hw : widW ws s pw = some qw) : takesW s ≤ pw.length := RS.scrTSs_takes_le
theorem col_ok {R : Rg Int} {G : Int → Prop} {ws pw qw : List Int} {p : List (Tbl Int)} {s : Wd} (hp : PI R G pw p) (hw : widW ws s pw = some qw) : ∀ x ∈ p.getD (p.length - 1) [], colOk s x.1.length := RS.scrTSs_col_ok
theorem cut_len {R : Rg Int} {G : Int → Prop} {ws pw qw : List Int} {tabs p : List (Tbl Int)} {s : Wd} (hg : GI G ws tabs) (hp : PI R G pw p) (hw : widW ws s pw = some qw) : (cutW R tabs s p).length ≤ 120 := RS.scrTSs_cut_len
theorem PI.mem {R : Rg Int} {G : Int → Prop} {pw : List Int} {p : List (Tbl Int)} (hp : PI R G pw p) {T : Tbl Int} (h : T ∈ p) : ∃ W, TI R G W T := by
 obtain ⟨i, hi, rfl⟩ := List.getElem_of_mem h
 have h1 := hp.2 i (by have := hp.1; omega)
 rw [List.getD_eq_getElem?_getD (l := p), List.getElem?_eq_getElem hi] at h1
 exact ⟨_, h1⟩
theorem step_any (F : RF) (R : Rg Int) (G : Int → Prop) (μ : Int → Nat) (B : Nat) (w : World) (a : Option Addr) (n c : Nat) (ws pw qw : List Int) (tabs p : List (Tbl Int)) (s : Wd) (bt bf : Nat) (hp : RdPl w w a n c p) (hn : n ≤ 1000) (hF : RingOk F R G μ B w) (hg : GI G ws tabs) (hP : PI R G pw p) (hw : widW ws s pw = some qw) (hM : sumT μ (cutW R tabs s p) ≤ B)
  (hC : ∀ k, s = .put k → ∀ W, Gr w W → Calls Tryz.prog 72 #[.int .i64 k, .pointer (some ⟨bt, 0, none⟩), .pointer (some ⟨bf, 0, none⟩)] W (RetRows W (tabs.getD k []))) :
  Calls Tryz.prog 74 #[F.val, .agg #[.int .i64 (stp s).1, .int .i64 (stp s).2.1, .int .i64 (stp s).2.2], .slice a n c, .func (.func 72) #[] #[.pointer (some ⟨bt, 0, none⟩), .pointer (some ⟨bf, 0, none⟩)]] w (RetDo w (restW s p ++ [gath R (cutW R tabs s p)]) (okT R (gath R (rowsW R.mul tabs s p)))) := RS.scrTUs_step_any
end Go.Proofs.YtehdemcfeoiecaaGreatDoor.RI
