import Derived.Test.YtehdemcfeoiecaaGreatDoorA03
set_option maxHeartbeats 64000000
set_option maxRecDepth 100000
namespace Go.Proofs.YtehdemcfeoiecaaGreatDoor.RE
open Go.RowKit Go.Firn Go.Firn.Tb
def RdSl (w : World) (a : Option Addr) (n c : Nat) (raw : List Sl) : Prop := n = raw.length ∧ n ≤ c ∧ c ≤ 9223372036854775807 ∧ (a = none → c = 0) ∧ (n = 0 ∨ ∃ b o, a = some ⟨b, o, none⟩ ∧ ∀ (i : Nat) (x : Sl), raw[i]? = some x → w.cell? ⟨b, o + i, none⟩ = some (.slice x.1 x.2.1 x.2.2))
theorem RdSl.gr {w w' : World} {a : Option Addr} {n c : Nat} {raw : List Sl} (h : RdSl w a n c raw) (g : Gr w w') : RdSl w' a n c raw := by
 obtain ⟨h1, h2, h3, h4, h5⟩ := h
 refine ⟨h1, h2, h3, h4, ?_⟩
 rcases h5 with h5 | ⟨b, o, ha, hc⟩
 ·exact .inl h5
 exact .inr ⟨b, o, ha, fun i x hx => g.cell (hc i x hx)⟩
theorem RdSl.nil (w : World) : RdSl w none 0 0 [] := ⟨rfl, Nat.le_refl _, by omega, fun _ => rfl, .inl rfl⟩
theorem RdSl.take {w : World} {a : Option Addr} {n c : Nat} {raw : List Sl} (h : RdSl w a n c raw) {k : Nat} (hk : k ≤ n) : RdSl w a k c (raw.take k) := by
 obtain ⟨h1, h2, h3, h4, h5⟩ := h
 refine ⟨by rw [List.length_take]; omega, by omega, h3, h4, ?_⟩
 rcases h5 with h5 | ⟨b, o, ha, hc⟩
 ·exact .inl (by omega)
 refine .inr ⟨b, o, ha, fun i x hx => hc i x ?_⟩
 rw [List.getElem?_take] at hx
 split at hx
 ·exact hx
 cases hx
theorem RdSl.at {w : World} {a : Option Addr} {n c : Nat} {raw : List Sl} (h : RdSl w a n c raw) {k : Nat} (hk : k < n) : ∃ b o x, a = some ⟨b, o, none⟩ ∧ raw[k]? = some x ∧ w.cell? ⟨b, o + k, none⟩ = some (.slice x.1 x.2.1 x.2.2) := by
 obtain ⟨h1, h2, h3, h4, h5⟩ := h
 rcases h5 with h5 | ⟨b, o, ha, hc⟩
 ·omega
 have hr : raw[k]? = some (raw[k]'(by omega)) := List.getElem?_eq_getElem (by omega)
 exact ⟨b, o, _, ha, hr, hc k _ hr⟩
theorem RdSl.one (w : World) {b : Nat} {x : Sl} (h : w.cell? ⟨b, 0, none⟩ = some (.slice x.1 x.2.1 x.2.2)) : RdSl w (some ⟨b, 0, none⟩) 1 1 [x] := by
 refine ⟨rfl, Nat.le_refl _, by omega, (fun e => by cases e), .inr ⟨b, 0, rfl, fun i y hy => ?_⟩⟩
 rcases i with _ | i
 ·simp at hy
  subst hy
  exact h
 simp at hy
def DatP (w : World) (raw : List Sl) (p : List (Tbl (SL × Int))) : Prop := raw.length = p.length ∧ ∀ (i : Nat) (x : Sl) (T : Tbl (SL × Int)), raw[i]? = some x → p[i]? = some T → RdT w w x.1 x.2.1 x.2.2 T
theorem DatP.nil (w : World) : DatP w [] [] := ⟨rfl, fun i x T hx _ => by simp at hx⟩
theorem DatP.gr {w w' : World} {raw : List Sl} {p : List (Tbl (SL × Int))} (h : DatP w raw p) (g : Gr w w') : DatP w' raw p := ⟨h.1, fun i x T hx hT => ((h.2 i x T hx hT).gr g).own⟩
theorem DatP.take {w : World} {raw : List Sl} {p : List (Tbl (SL × Int))} (h : DatP w raw p) (k : Nat) : DatP w (raw.take k) (p.take k) := by
 refine ⟨by rw [List.length_take, List.length_take, h.1], fun i x T hx hT => ?_⟩
 rw [List.getElem?_take] at hx hT
 split at hx
 ·rename_i hk
  rw [if_pos hk] at hT
  exact h.2 i x T hx hT
 cases hx
theorem DatP.snoc {w : World} {raw : List Sl} {p : List (Tbl (SL × Int))} (h : DatP w raw p) {x : Sl} {T : Tbl (SL × Int)} (h1 : RdT w w x.1 x.2.1 x.2.2 T) : DatP w (raw ++ [x]) (p ++ [T]) := by
 refine ⟨by simp [h.1], fun i y M hy hM => ?_⟩
 rcases Nat.lt_or_ge i raw.length with k | k
 ·rw [List.getElem?_append_left k] at hy
  rw [List.getElem?_append_left (by have := h.1; omega)] at hM
  exact h.2 i y M hy hM
 rw [List.getElem?_append_right k] at hy
 rw [List.getElem?_append_right (by have := h.1; omega)] at hM
 have hi : i - raw.length = 0 := by
  rcases Nat.eq_zero_or_pos (i - raw.length) with q | q
  ·exact q
  rw [List.getElem?_eq_none (by simp; omega)] at hy; cases hy
 rw [hi] at hy
 rw [← h.1, hi] at hM
 simp at hy hM
 subst hy; subst hM
 exact h1
theorem DatP.at {w : World} {raw : List Sl} {p : List (Tbl (SL × Int))} (h : DatP w raw p) {k : Nat} {x : Sl} (hx : raw[k]? = some x) : RdT w w x.1 x.2.1 x.2.2 (p.getD k []) := by
 have hk : k < p.length := by
  rw [← h.1]
  rcases Nat.lt_or_ge k raw.length with q | q
  ·exact q
  rw [List.getElem?_eq_none q] at hx; cases hx
 refine h.2 k x _ hx ?_
 rw [List.getD_eq_getElem?_getD, List.getElem?_eq_getElem hk]
 rfl
def OwnP (w0 w : World) (v : Value) (raw : List Sl) : Prop := w.ownsRow w0.heap.size 77 1 v raw.length (pkl raw) ∧ Gr w0 w
theorem OwnP.gr {w0 w w' : World} {v : Value} {raw : List Sl} (h : OwnP w0 w v raw) (g : Gr w w') : OwnP w0 w' v raw :=
 ⟨h.1.kept (row := none) ⟨g.os, g.tape, g.output, Gr.size g, fun k hk _ => Below.block g k hk⟩ (by cases v.ownBlock <;> simp), h.2.trans g⟩
theorem OwnP.lit0 (w : World) : OwnP w (w.alloc (.cells #[] 77)) (.slice (some ⟨w.heap.size, 0, none⟩) 0 0) [] :=
 ⟨World.ownsRow_lit w #[] 0 (Nat.le_refl _) (by unfold maxLen; omega) rfl, (Gr.refl w).alloc _⟩
theorem OwnP.base {w0 w1 w : World} {v : Value} {raw : List Sl} (h : OwnP w1 w v raw) (g : Gr w0 w1) : OwnP w0 w v raw := by
 obtain ⟨⟨hl, hv⟩, g2⟩ := h
 refine ⟨⟨hl, ?_⟩, g.trans g2⟩
 rcases hv with h | ⟨b, cap, cur, e, hb, r⟩
 ·exact .inl h
 exact .inr ⟨b, cap, cur, e, Nat.le_trans g.size hb, r⟩
theorem OwnP.rd {w0 w : World} {v : Value} {raw : List Sl} (h : OwnP w0 w v raw) : ∃ a c, v = .slice a raw.length c ∧ RdSl w a raw.length c raw := by
 have h0 := h.1
 obtain ⟨hl, hv⟩ := h.1
 rcases hv with ⟨rfl, hz⟩ | ⟨g, cap, cur, rfl, hb, hg, hnc, hcm, hcs, htake⟩
 ·exact ⟨none, 0, by rw [hz], rfl, by omega, by omega, fun _ => rfl, .inl hz⟩
 refine ⟨_, _, rfl, rfl, hnc, by unfold maxLen at hcm; omega, (fun k => by cases k), .inr ⟨g, 0, rfl, fun i x hx => ?_⟩⟩
 have c0 := h0.cells (g := g) rfl i (.slice x.1 x.2.1 x.2.2) (by unfold pkl; rw [List.getElem?_map, hx]; rfl)
 rw [add_flat rfl] at c0
 exact c0
theorem infoP : (Tryz.prog.info? 77).map (fun i => (i.zero, i.size, i.bytes)) = some (some (.slice none 0 0), 1, 24) := by kernel_rfl
theorem info_pile : ∃ i, Tryz.prog.info? 77 = some i ∧ i.zero = some (.slice none 0 0) ∧ i.size = 1 ∧ i.bytes = 24 := by
 have h := infoP
 cases hi : Tryz.prog.info? 77 with
 | none => rw [hi] at h; cases h
 | some i => rw [hi] at h; simp at h; exact ⟨i, rfl, h.1, h.2.1, h.2.2⟩
theorem run_cat_sls {w0 w : World} (t ty : TypeId) (ht : Tryz.prog.underlying t = some (.slice 77)) (v : Value) (raw : List Sl) (hown : OwnP w0 w v raw) (a : Option Addr) (n c : Nat) (X : List Sl) (hX : RdSl w a n c X) (hk : raw.length + n ≤ 1000000) :
  ∃ v' w', (Builtin.append_ #[t, t] ty #[v, .slice a n c]).run Tryz.prog w = .ok v' w' ∧ OwnP w0 w' v' (raw ++ X) ∧ w.grownBy w' v.ownBlock := by
 obtain ⟨i0, hi, hz0, hz1, hz2⟩ := info_pile
 obtain ⟨hn, hnc, hcm, hnone, hcells⟩ := hX
 cases a with
 | none =>
  have hc0 := hnone rfl
  subst hc0
  obtain rfl : n = 0 := by omega
  obtain rfl : X = [] := List.length_eq_zero_iff.1 hn.symm
  have := run_append_owned_none (P := Tryz.prog) w w0.heap.size t ty 77 i0 1 ht hi v raw.length (pkl raw) hown.1
  exact ⟨v, w, this, by rw [List.append_nil]; exact hown, World.grownBy.refl _ _⟩
 | some ad =>
  obtain ⟨v', w', hr, h1, h2, _⟩ := run_append_own (P := Tryz.prog) w w0.heap.size t ty 77 i0 _ 1 24 ht hi hz0 hz1 hz2 rfl (by decide) v raw.length (pkl raw) hown.1 ad n c (pkl X) (by unfold pkl; rw [List.length_map, hn]; omega)
   (fun j u hu => by
    rcases hcells with h0 | ⟨b, o, e, hc⟩
    ·obtain rfl : X = [] := List.length_eq_zero_iff.1 (by omega)
     simp [pkl] at hu
    cases e
    rw [add_flat rfl]
    unfold pkl at hu
    rw [List.getElem?_map] at hu
    cases hx : X[j]? with
    | none => rw [hx] at hu; cases hu
    | some x =>
     rw [hx] at hu
     simp at hu
     subst hu
     exact hc j x hx)
   (fun u hu => by
    unfold pkl at hu
    obtain ⟨m, _, rfl⟩ := List.mem_map.1 hu
    rfl)
   (by unfold maxLen; omega) (by omega) hown.2.size
  have e : pkl raw ++ pkl X = pkl (raw ++ X) := by simp [pkl]
  rw [e] at h1
  exact ⟨v', w', hr, ⟨by rw [List.length_append, ← hn]; exact h1, hown.2.grown h2 fun k hk => (hown.1.lt k hk).1⟩, h2⟩
section
variable {ops : Array Oper} {rest : List Oper} {o : Oper} {a : Act} {Q : Exit → Act → World → Prop}
theorem wpList_cat_sls (hgd : o.guard = none) (s x : Operand) (t : TypeId)
  (ho : o.op = .call { callee := .builtin .append, args := #[s, x], argTypes := #[t, t] }) (ht : Tryz.prog.underlying t = some (.slice 77))
  {w0 w : World} (v : Value) (raw : List Sl) (hs : a.eval s = v) (hown : OwnP w0 w v raw)
  (ad : Option Addr) (n c : Nat) (X : List Sl) (hx : a.eval x = .slice ad n c) (hX : RdSl w ad n c X) (hk : raw.length + n ≤ 1000000)
  (h : ∀ v' w', OwnP w0 w' v' (raw ++ X) → w.grownBy w' v.ownBlock → wpList Tryz.prog ops Q rest (a.put o.dst v') w') : wpList Tryz.prog ops Q (o :: rest) a w :=
 wpList_plain hgd fun _ hK => by
  obtain ⟨v', w', hr, h1, h2⟩ := run_cat_sls t o.type ht v raw hown ad n c X hX hk
  unfold Oper.wp execOp
  simp only [ho, resolve, invoke, builtin, Sem.run_bind, Sem.run_pure, Result.andThen_ok, List.map_toArray, List.map_cons, List.map_nil, hs, hx, hr]
  exact hK _ _ (h v' w' h1 h2)
end
end Go.Proofs.YtehdemcfeoiecaaGreatDoor.RE
namespace Go.Proofs.YtehdemcfeoiecaaGreatDoor
open Go.Firn
def wK (l : Nat → Int) (k : Key) : Int := k.foldr (fun b a => l (b.toNat - 97) * a) 1
def cK (l : Nat → Int) (k : Key) : Int := k.foldr (fun b a => l (b.toNat - 97) + a) 0
theorem wK_append (l : Nat → Int) : ∀ p q : Key, wK l (p ++ q) = wK l p * wK l q
 | [], q => by simp [wK]
 | x :: p, q => by
  have := wK_append l p q
  unfold wK at *
  simp only [List.cons_append, List.foldr_cons]
  rw [this, Int.mul_assoc]
theorem cK_append (l : Nat → Int) : ∀ p q : Key, cK l (p ++ q) = cK l p + cK l q
 | [], q => by simp [cK]
 | x :: p, q => by
  have := cK_append l p q
  unfold cK at *
  simp only [List.cons_append, List.foldr_cons]
  omega
theorem cK_perm (l : Nat → Int) {p q : Key} (h : p.Perm q) : cK l p = cK l q := by
 induction h with
 | nil => rfl
 | cons x _ ih => unfold cK at *; simp only [List.foldr_cons]; rw [ih]
 | swap x y r => unfold cK; simp only [List.foldr_cons]; omega
 | trans _ _ a b => exact a.trans b
theorem cK_mx (l : Nat → Int) (p q : Key) : cK l (mx p q) = cK l p + cK l q := by rw [cK_perm l (mx_perm p q), cK_append]
theorem key_take {s : ByteArray} {k : Nat} (h : k < s.size) : ∃ b : UInt8, b.toNat = bt s k ∧ s.data.toList.take (k + 1) = s.data.toList.take k ++ [b] := by
 obtain ⟨hl, e⟩ := bt_key h
 exact ⟨_, e.symm, by rw [List.take_succ_eq_append_getElem hl]⟩
theorem prd_take (l : Nat → Int) (s : ByteArray) (m : Int) : ∀ k, k ≤ s.size → prd l s m k = m * wK l (s.data.toList.take k)
 | 0, _ => by simp [prd, wK]
 | k + 1, h => by
  obtain ⟨b, eb, et⟩ := key_take (show k < s.size by omega)
  show prd l s m k * l (bt s k - 97) = _
  rw [prd_take l s m k (by omega), et, wK_append, ← eb, ← Int.mul_assoc]
  congr 1
  simp [wK]
theorem csm_take (l : Nat → Int) (s : ByteArray) : ∀ k, k ≤ s.size → csm l s k = cK l (s.data.toList.take k)
 | 0, _ => by simp [csm, cK]
 | k + 1, h => by
  obtain ⟨b, eb, et⟩ := key_take (show k < s.size by omega)
  show csm l s k + l (bt s k - 97) = _
  rw [csm_take l s k (by omega), et, cK_append, ← eb]
  congr 1
  simp [cK]
theorem key_all (s : ByteArray) : s.data.toList.take s.size = s.data.toList := List.take_of_length_le (by rw [size_key]; omega)
theorem vlS_tot (l : Nat → Int) (f : Nat → ByteArray) (g : Nat → Int) : ∀ n, vlS l f g n = tot (wK l) (ofS f g n)
 | 0 => rfl
 | n + 1 => by
  show vlS l f g n + prd l (f n) (g n) (f n).size = _
  rw [vlS_tot l f g n, ofS_succ, tot_append, prd_take l _ _ _ (Nat.le_refl _), key_all]
  simp [tot]
theorem csP_key (l : Nat → Int) (f : Nat → ByteArray) (i : Nat) : csP l f i = cK l (f i).data.toList := by
 unfold csP
 rw [csm_take l _ _ (Nat.le_refl _), key_all]
def hasK (k : Key) (L : SL) : Prop := ∃ x ∈ L, x.1 = k
theorem hasK_put {k k' : Key} {n : Int} (hn : 1 ≤ n) {L : SL} : hasK k' (putL k n L) ↔ k' = k ∨ hasK k' L := by
 constructor
 ·rintro ⟨x, hx, rfl⟩
  rcases mem_put hx with h | h
  ·exact .inl h
  exact .inr ⟨x, h, rfl⟩
 rintro (rfl | ⟨x, hx, rfl⟩)
 ·exact put_has
 obtain ⟨z, hz, e, _⟩ := put_keeps (k := k) hn hx
 exact ⟨z, hz, e⟩
theorem hasK_plus {k : Key} : ∀ {t s : SL}, Pos t → (hasK k (plusL s t) ↔ hasK k s ∨ hasK k t)
 | [], s, _ => by
  show hasK k s ↔ _
  constructor
  ·exact .inl
  rintro (h | ⟨x, hx, _⟩)
  ·exact h
  cases hx
 | y :: r, s, h => by
  show hasK k (plusL (putL y.1 y.2 s) r) ↔ _
  rw [hasK_plus (fun x hx => h x (List.mem_cons_of_mem _ hx)), hasK_put (h y List.mem_cons_self)]
  constructor
  ·rintro ((rfl | h) | ⟨x, hx, e⟩)
   ·exact .inr ⟨y, List.mem_cons_self, rfl⟩
   ·exact .inl h
   exact .inr ⟨x, List.mem_cons_of_mem _ hx, e⟩
  rintro (h | ⟨x, hx, e⟩)
  ·exact .inl (.inr h)
  rcases List.mem_cons.1 hx with rfl | hx
  ·exact .inl (.inl e.symm)
  exact .inr ⟨x, hx, e⟩
theorem hasK_inn {k : Key} {a : Key × Int} (ha : 1 ≤ a.2) : ∀ {t o : SL}, Pos t → (hasK k (innL a t o) ↔ hasK k o ∨ ∃ q, hasK q t ∧ k = mx a.1 q)
 | [], o, _ => by
  show hasK k o ↔ _
  constructor
  ·exact .inl
  rintro (h | ⟨_, ⟨x, hx, _⟩, _⟩)
  ·exact h
  cases hx
 | y :: r, o, h => by
  show hasK k (innL a r (putL (mx a.1 y.1) (a.2 * y.2) o)) ↔ _
  rw [hasK_inn ha (fun x hx => h x (List.mem_cons_of_mem _ hx)), hasK_put (pos_mul ha (h y List.mem_cons_self))]
  constructor
  ·rintro ((rfl | h) | ⟨q, ⟨x, hx, e⟩, hq⟩)
   ·exact .inr ⟨y.1, ⟨y, List.mem_cons_self, rfl⟩, rfl⟩
   ·exact .inl h
   exact .inr ⟨q, ⟨x, List.mem_cons_of_mem _ hx, e⟩, hq⟩
  rintro (h | ⟨q, ⟨x, hx, e⟩, hq⟩)
  ·exact .inl (.inr h)
  rcases List.mem_cons.1 hx with rfl | hx
  ·exact .inl (.inl (by rw [hq, ← e]))
  exact .inr ⟨q, ⟨x, hx, e⟩, hq⟩
theorem hasK_timesF {k : Key} {t : SL} (ht : Pos t) : ∀ {s o : SL}, Pos s → (hasK k (timesF s t o) ↔ hasK k o ∨ ∃ p q, hasK p s ∧ hasK q t ∧ k = mx p q)
 | [], o, _ => by
  show hasK k o ↔ _
  constructor
  ·exact .inl
  rintro (h | ⟨_, _, ⟨x, hx, _⟩, _⟩)
  ·exact h
  cases hx
 | a :: r, o, h => by
  show hasK k (timesF r t (innL a t o)) ↔ _
  rw [hasK_timesF ht (fun x hx => h x (List.mem_cons_of_mem _ hx)), hasK_inn (h a List.mem_cons_self) ht]
  constructor
  ·rintro ((h | ⟨q, hq, e⟩) | ⟨p, q, ⟨x, hx, e⟩, hq, hk⟩)
   ·exact .inl h
   ·exact .inr ⟨a.1, q, ⟨a, List.mem_cons_self, rfl⟩, hq, e⟩
   exact .inr ⟨p, q, ⟨x, List.mem_cons_of_mem _ hx, e⟩, hq, hk⟩
  rintro (h | ⟨p, q, ⟨x, hx, e⟩, hq, hk⟩)
  ·exact .inl (.inl h)
  rcases List.mem_cons.1 hx with rfl | hx
  ·exact .inl (.inr ⟨q, hq, by rw [hk, e]⟩)
  exact .inr ⟨p, q, ⟨x, hx, e⟩, hq, hk⟩
theorem hasK_times {k : Key} {s t : SL} (hs : Pos s) (ht : Pos t) : hasK k (timesL s t) ↔ ∃ p q, hasK p s ∧ hasK q t ∧ k = mx p q := by
 unfold timesL
 rw [hasK_timesF ht hs]
 constructor
 ·rintro (⟨x, hx, _⟩ | h)
  ·cases hx
  exact h
 exact .inr
def isMn (φ : Key → Int) (L : SL) (m : Int) : Prop := (∃ k, hasK k L ∧ φ k = m) ∧ ∀ k, hasK k L → m ≤ φ k
theorem mnR_is (c : Nat → Int) : ∀ n, 0 < n → (∃ i, i < n ∧ c i = mnR c n) ∧ ∀ i, i < n → mnR c n ≤ c i
 | n + 1, _ => by
  show (∃ i, i < n + 1 ∧ c i = if n = 0 ∨ c n < mnR c n then c n else mnR c n) ∧ ∀ i, i < n + 1 → (if n = 0 ∨ c n < mnR c n then c n else mnR c n) ≤ c i
  by_cases h : n = 0 ∨ c n < mnR c n
  ·rw [if_pos h]
   refine ⟨⟨n, by omega, rfl⟩, fun i hi => ?_⟩
   by_cases e : i = n
   ·rw [e]; exact Int.le_refl _
   rcases h with h | h
   ·omega
   have := (mnR_is c n (by omega)).2 i (by omega)
   omega
  rw [if_neg h]
  obtain ⟨⟨i, hi, e⟩, hl⟩ := mnR_is c n (by omega)
  refine ⟨⟨i, by omega, e⟩, fun j hj => ?_⟩
  by_cases ej : j = n
  ·subst ej; omega
  exact hl j (by omega)
theorem cost_is (l : Nat → Int) (f : Nat → ByteArray) (g : Nat → Int) {n : Nat} (hn : 0 < n) : isMn (cK l) (ofS f g n) (mnR (csP l f) n) := by
 obtain ⟨⟨i, hi, e⟩, hl⟩ := mnR_is (csP l f) n hn
 refine ⟨⟨(f i).data.toList, ⟨_, ofS_mem.2 ⟨i, hi, rfl⟩, rfl⟩, by rw [← csP_key, e]⟩, ?_⟩
 rintro k ⟨x, hx, rfl⟩
 obtain ⟨j, hj, rfl⟩ := ofS_mem.1 hx
 rw [← csP_key]
 exact hl j hj
theorem isMn.plus {φ : Key → Int} {s t : SL} {c d : Int} (ht : Pos t) (hc : isMn φ s c) (hd : isMn φ t d) : isMn φ (plusL s t) (min c d) := by
 obtain ⟨⟨k, hk, e⟩, hl⟩ := hc
 obtain ⟨⟨k', hk', e'⟩, hl'⟩ := hd
 refine ⟨?_, fun x hx => ?_⟩
 ·by_cases h : c ≤ d
  ·exact ⟨k, (hasK_plus ht).2 (.inl hk), by omega⟩
  exact ⟨k', (hasK_plus ht).2 (.inr hk'), by omega⟩
 rcases (hasK_plus ht).1 hx with h | h
 ·have := hl x h; omega
 have := hl' x h; omega
theorem isMn.times {l : Nat → Int} {s t : SL} {c d : Int} (hs : Pos s) (ht : Pos t) (hc : isMn (cK l) s c) (hd : isMn (cK l) t d) : isMn (cK l) (timesL s t) (c + d) := by
 obtain ⟨⟨k, hk, e⟩, hl⟩ := hc
 obtain ⟨⟨k', hk', e'⟩, hl'⟩ := hd
 refine ⟨⟨mx k k', (hasK_times hs ht).2 ⟨k, k', hk, hk', rfl⟩, by rw [cK_mx]; omega⟩, fun x hx => ?_⟩
 obtain ⟨p, q, hp, hq, rfl⟩ := (hasK_times hs ht).1 hx
 have := hl p hp
 have := hl' q hq
 rw [cK_mx]
 omega
end Go.Proofs.YtehdemcfeoiecaaGreatDoor
namespace Go.Proofs.YtehdemcfeoiecaaGreatDoor
open Go.Firn Go.Firn.Tb
def vL (L : SL) : Bool := vS (sx L) (sy L) L.length
theorem vL_iff {L : SL} : vL L = true ↔ VL L ∧ overL L = false := by
 unfold vL
 rw [vS_iff, ofS_sx]
theorem over_iff {L : SL} : overL L = false ↔ (∀ x ∈ L, x.2 ≤ 100000 ∧ x.1.length ≤ 12) ∧ L.length ≤ 40 := by
 unfold overL
 rw [Bool.or_eq_false_iff, List.any_eq_false, decide_eq_false_iff_not]
 constructor
 ·rintro ⟨h1, h2⟩
  refine ⟨fun x hx => ?_, by omega⟩
  have := h1 x hx
  simp only [Bool.or_eq_true, decide_eq_true_eq, not_or] at this
  omega
 rintro ⟨h1, h2⟩
 refine ⟨fun x hx => ?_, by omega⟩
 have := h1 x hx
 simp only [Bool.or_eq_true, decide_eq_true_eq, not_or]
 omega
def okV (x : Int) : Bool := btw (-999) x 999
def rw0 (T : Tbl SL) (i : Nat) : List Int × SL := T.getD i ([], [])
def vRow (W : Int) (T : Tbl SL) (i : Nat) : Bool :=
 decide (((rw0 T i).1.length : Int) = W) && (rw0 T i).1.all okV && vL (rw0 T i).2 && decide ((rw0 T i).2.length ≠ 0) && (decide (i = 0) || decide ((rw0 T (i - 1)).1 < (rw0 T i).1))
def vRowsK (W : Int) (T : Tbl SL) (k : Nat) : Bool := (List.range k).all (vRow W T)
theorem vRowsK_zero (W : Int) (T : Tbl SL) : vRowsK W T 0 = true := rfl
theorem vRowsK_succ (W : Int) (T : Tbl SL) (k : Nat) : vRowsK W T (k + 1) = (vRowsK W T k && vRow W T k) := by
 unfold vRowsK
 rw [List.range_succ, List.all_append]
 simp
theorem vRowsK_stop {W : Int} {T : Tbl SL} {k n : Nat} (hk : k < n) (h : vRow W T k = false) : vRowsK W T n = false := by
 unfold vRowsK
 rw [List.all_eq_false]
 exact ⟨k, List.mem_range.2 hk, by simp [h]⟩
theorem vRowsK_at {W : Int} {T : Tbl SL} {k n : Nat} (h : vRowsK W T n = true) (hk : k < n) : vRow W T k = true := by
 unfold vRowsK at h
 rw [List.all_eq_true] at h
 exact h k (List.mem_range.2 hk)
def vTab (W : Int) (T : Tbl SL) : Bool := vRowsK W T T.length && btw 1 W 4 && decide (T.length ≤ 60)
def vTabs (Ts : List (Int × Tbl SL)) : Bool := (Ts.all fun x => vTab x.1 x.2) && decide (1 ≤ Ts.length) && decide (Ts.length ≤ 4)
theorem rw0_get {T : Tbl SL} {i : Nat} {r : List Int × SL} (h : T[i]? = some r) : rw0 T i = r := by
 unfold rw0
 rw [List.getD_eq_getElem?_getD, h]
 rfl
theorem vRow_iff {W : Int} {T : Tbl SL} {i : Nat} : vRow W T i = true ↔ ((rw0 T i).1.length : Int) = W ∧ (∀ x ∈ (rw0 T i).1, -999 ≤ x ∧ x ≤ 999) ∧ vL (rw0 T i).2 = true ∧ (rw0 T i).2 ≠ [] ∧ (i = 0 ∨ (rw0 T (i - 1)).1 < (rw0 T i).1) := by
 unfold vRow
 simp only [Bool.and_eq_true, Bool.or_eq_true, decide_eq_true_eq, List.all_eq_true, okV, btw, and_assoc, ne_eq, List.length_eq_zero_iff]
def G0 (L : SL) : Prop := vL L = true ∧ L ≠ []
theorem srt_adj : ∀ {T : Tbl SL}, (∀ i, i + 1 < T.length → (rw0 T i).1 < (rw0 T (i + 1)).1) → SrT T
 | [], _ => List.Pairwise.nil
 | [x], _ => by simp [SrT]
 | x :: y :: r, h => by
  have h1 : SrT (y :: r) := srt_adj fun i hi => h (i + 1) (by simp at hi ⊢; omega)
  have h0 : x.1 < y.1 := h 0 (by simp)
  refine List.Pairwise.cons (fun z hz => ?_) h1
  rcases List.mem_cons.1 hz with rfl | hz
  ·exact h0
  exact List.lt_trans h0 ((List.pairwise_cons.1 h1).1 z hz)
theorem mem_rw0 {T : Tbl SL} {r : List Int × SL} (h : r ∈ T) : ∃ i, i < T.length ∧ rw0 T i = r := by
 obtain ⟨i, hi, rfl⟩ := List.getElem_of_mem h
 exact ⟨i, hi, rw0_get (List.getElem?_eq_getElem hi)⟩
theorem vTab_iff {W : Int} {T : Tbl SL} : vTab W T = true ↔ (∀ i, i < T.length → vRow W T i = true) ∧ (1 ≤ W ∧ W ≤ 4) ∧ T.length ≤ 60 := by
 unfold vTab
 simp only [Bool.and_eq_true, decide_eq_true_eq, btw, and_assoc]
 constructor
 ·rintro ⟨h, k⟩
  exact ⟨fun i hi => vRowsK_at h hi, k⟩
 rintro ⟨h, k⟩
 refine ⟨?_, k⟩
 unfold vRowsK
 rw [List.all_eq_true]
 exact fun i hi => h i (List.mem_range.1 hi)
theorem vTab_TG {W : Int} {T : Tbl SL} (h : vTab W T = true) : TG G0 W T ∧ ∀ r ∈ T, ∀ x ∈ r.1, -999 ≤ x ∧ x ≤ 999 := by
 obtain ⟨h1, h2, h3⟩ := vTab_iff.1 h
 refine ⟨⟨h2, srt_adj fun i hi => ?_, fun r hr => ?_, h3, fun r hr => ?_⟩, fun r hr => ?_⟩
 ·have := (vRow_iff.1 (h1 (i + 1) hi)).2.2.2.2
  rcases this with k | k
  ·omega
  simpa using k
 ·obtain ⟨i, hi, rfl⟩ := mem_rw0 hr
  have := (vRow_iff.1 (h1 i hi)).1
  omega
 ·obtain ⟨i, hi, rfl⟩ := mem_rw0 hr
  have := vRow_iff.1 (h1 i hi)
  exact ⟨this.2.2.1, this.2.2.2.1⟩
 obtain ⟨i, hi, rfl⟩ := mem_rw0 hr
 exact (vRow_iff.1 (h1 i hi)).2.1
theorem vTabs_iff {Ts : List (Int × Tbl SL)} : vTabs Ts = true ↔ (∀ x ∈ Ts, vTab x.1 x.2 = true) ∧ 1 ≤ Ts.length ∧ Ts.length ≤ 4 := by
 unfold vTabs
 simp only [Bool.and_eq_true, decide_eq_true_eq, List.all_eq_true, and_assoc]
theorem TG.map {E : Type} {G : SL → Prop} {G' : E → Prop} {W : Int} {T : Tbl SL} {φ : SL → E} (h : TG G W T) (hφ : ∀ L, G L → G' (φ L)) : TG G' W (mapT φ T) where
 w1 := h.w1
 srt := by
  unfold mapT SrT
  rw [List.pairwise_map]
  exact h.srt
 wd := fun x hx => by
  obtain ⟨y, hy, rfl⟩ := List.mem_map.1 hx
  exact h.wd y hy
 len := by unfold mapT; rw [List.length_map]; exact h.len
 gd := fun x hx => by
  obtain ⟨y, hy, rfl⟩ := List.mem_map.1 hx
  exact hφ _ (h.gd y hy)
def tabsOf {E : Type} (φ : SL → E) (Ts : List (Int × Tbl SL)) : List (Tbl E) := Ts.map fun x => mapT φ x.2
def wsOf (Ts : List (Int × Tbl SL)) : List Int := Ts.map (·.1)
theorem tabsOf_at {E : Type} {φ : SL → E} {Ts : List (Int × Tbl SL)} {k : Nat} {WT : Int × Tbl SL} (h : Ts[k]? = some WT) : (tabsOf φ Ts).getD k [] = mapT φ WT.2 ∧ (wsOf Ts).getD k 0 = WT.1 := by
 unfold tabsOf wsOf
 rw [List.getD_eq_getElem?_getD, List.getD_eq_getElem?_getD, List.getElem?_map, List.getElem?_map, h]
 exact ⟨rfl, rfl⟩
theorem tabs_GI {E : Type} {φ : SL → E} {G' : E → Prop} {Ts : List (Int × Tbl SL)} (h : vTabs Ts = true) (hφ : ∀ L, G0 L → G' (φ L)) : GI G' (wsOf Ts) (tabsOf φ Ts) := by
 refine ⟨by simp [wsOf, tabsOf], fun i hi => ?_⟩
 have hi' : i < Ts.length := by simpa [wsOf] using hi
 obtain ⟨e1, e2⟩ := tabsOf_at (φ := φ) (List.getElem?_eq_getElem hi')
 rw [e1, e2]
 exact TG.map (vTab_TG ((vTabs_iff.1 h).1 _ (List.getElem_mem hi'))).1 hφ
abbrev MX : Int := 1000000000000000
def mulC (a b : Int) : Int := if MX / b < a then MX + 1 else a * b
def RgC : Rg Int := ⟨fun a b => min (a + b) (MX + 1), mulC, fun n => decide (0 < n), fun n => decide (n ≤ MX)⟩
def GC (n : Int) : Prop := 0 ≤ n ∧ n ≤ MX + 1
theorem mulC_bd {a b : Int} (ha : 0 < a) (hb : 0 < b) : 0 < mulC a b ∧ mulC a b ≤ MX + 1 := by
 unfold mulC
 split
 ·unfold MX; omega
 rename_i h
 have h1 : a ≤ MX / b := by omega
 have h2 : a * b ≤ MX / b * b := Int.mul_le_mul_of_nonneg_right h1 (by omega)
 have h3 : MX / b * b ≤ MX := Int.ediv_mul_le _ (by omega)
 exact ⟨Int.mul_pos ha hb, by omega⟩
theorem lawC : RgL RgC GC where
 gadd := fun a b ha hb => by
  unfold GC at *
  show 0 ≤ min (a + b) (MX + 1) ∧ min (a + b) (MX + 1) ≤ MX + 1
  unfold MX at *
  omega
 gmul := fun a b ha hb sa sb _ _ => by
  have sa' : 0 < a := by simpa [RgC] using sa
  have sb' : 0 < b := by simpa [RgC] using sb
  have := mulC_bd sa' sb'
  exact ⟨Int.le_of_lt this.1, this.2⟩
 sadd := fun a b ha hb sa sb => by
  have sa' : 0 < a := by simpa [RgC] using sa
  have sb' : 0 < b := by simpa [RgC] using sb
  show decide (0 < min (a + b) (MX + 1)) = true
  rw [decide_eq_true_eq]
  unfold MX
  omega
 smul := fun a b ha hb sa sb _ _ => by
  have sa' : 0 < a := by simpa [RgC] using sa
  have sb' : 0 < b := by simpa [RgC] using sb
  show decide (0 < mulC a b) = true
  rw [decide_eq_true_eq]
  exact (mulC_bd sa' sb').1
def RgK : Rg Int := ⟨fun a b => min a b, fun a b => a + b, fun _ => true, fun n => decide (n ≤ MX)⟩
def GK (n : Int) : Prop := 0 ≤ n ∧ n ≤ 2 * MX
theorem lawK : RgL RgK GK where
 gadd := fun a b ha hb => by
  unfold GK at *
  show 0 ≤ min a b ∧ min a b ≤ 2 * MX
  unfold MX at *
  omega
 gmul := fun a b ha hb _ _ fa fb => by
  have fa' : a ≤ MX := by simpa [RgK] using fa
  have fb' : b ≤ MX := by simpa [RgK] using fb
  unfold GK at *
  show 0 ≤ a + b ∧ a + b ≤ 2 * MX
  unfold MX at *
  omega
 sadd := fun _ _ _ _ _ _ => rfl
 smul := fun _ _ _ _ _ _ _ _ => rfl
def addH (how : Int) (a b : SL × Int) : SL × Int := if how = 1 then (plusL a.1 b.1, a.2) else if how = 2 then (a.1, min (a.2 + b.2) (MX + 1)) else (a.1, min a.2 b.2)
def mulH (how : Int) (a b : SL × Int) : SL × Int := if how = 1 then (timesR a.1 b.1 [], 0) else if how = 2 then ([], if a.2 ≤ MX / b.2 then a.2 * b.2 else MX + 1) else ([], a.2 + b.2)
def fitsH (how : Int) (d : SL × Int) : Bool := !(decide (how = 1) && overL d.1 || decide (MX < d.2))
def RgH (how : Int) (mul : SL × Int → SL × Int → SL × Int) (stays : SL × Int → Bool) : Rg (SL × Int) := ⟨addH how, mul, stays, fitsH how⟩
def ι2 (n : Int) : SL × Int := ([], n)
def mulR2 (a b : SL × Int) : SL × Int := ([], mulC a.2 b.2)
def mulR3 (a b : SL × Int) : SL × Int := ([], a.2 + b.2)
def stays2 (d : SL × Int) : Bool := decide (0 < d.2)
theorem hom2 : HomR RgC (RgH 2 mulR2 stays2) ι2 where
 add := fun _ _ => rfl
 mul := fun _ _ => rfl
 stays := fun _ => rfl
 fits := fun a => by
  show fitsH 2 (ι2 a) = decide (a ≤ MX)
  unfold fitsH ι2
  simp only [show decide ((2 : Int) = 1) = false from rfl, Bool.false_and, Bool.false_or]
  rw [Bool.eq_iff_iff]
  simp
theorem hom3 : HomR RgK (RgH 3 mulR3 fun _ => true) ι2 where
 add := fun _ _ => rfl
 mul := fun _ _ => rfl
 stays := fun _ => rfl
 fits := fun a => by
  show fitsH 3 (ι2 a) = decide (a ≤ MX)
  unfold fitsH ι2
  simp only [show decide ((3 : Int) = 1) = false from rfl, Bool.false_and, Bool.false_or]
  rw [Bool.eq_iff_iff]
  simp
def G2 (d : SL × Int) : Prop := d.1 = [] ∧ GC d.2
def G3 (d : SL × Int) : Prop := d.1 = [] ∧ GK d.2
theorem mulH2 (a b : SL × Int) : mulH 2 a b = mulR2 a b := by
 unfold mulH mulR2 mulC
 rw [if_neg (by decide), if_pos rfl]
 congr 1
 by_cases h : a.2 ≤ MX / b.2
 ·rw [if_pos h, if_neg (by omega)]
 rw [if_neg h, if_pos (by omega)]
theorem mulH3 (a b : SL × Int) : mulH 3 a b = mulR3 a b := by
 unfold mulH mulR3
 rw [if_neg (by decide), if_neg (by decide)]
theorem mulR_2 : MulR (RgH 2 mulR2 stays2) G2 (mulH 2) where
 fits := fun a b _ _ _ _ _ _ => by rw [mulH2]; rfl
 same := fun a b _ _ _ _ _ _ _ => by rw [mulH2]; rfl
theorem mulR_3 : MulR (RgH 3 mulR3 fun _ => true) G3 (mulH 3) where
 fits := fun a b _ _ _ _ _ _ => by rw [mulH3]; rfl
 same := fun a b _ _ _ _ _ _ _ => by rw [mulH3]; rfl
theorem law2 : RgL (RgH 2 mulR2 stays2) G2 where
 gadd := fun a b ha hb => by
  refine ⟨?_, ?_⟩
  ·show (addH 2 a b).1 = []
   exact ha.1
  exact lawC.gadd a.2 b.2 ha.2 hb.2
 gmul := fun a b ha hb sa sb fa fb => ⟨rfl, lawC.gmul a.2 b.2 ha.2 hb.2 sa sb (by simpa [RgH, fitsH, RgC] using fa) (by simpa [RgH, fitsH, RgC] using fb)⟩
 sadd := fun a b ha hb sa sb => lawC.sadd a.2 b.2 ha.2 hb.2 sa sb
 smul := fun a b ha hb sa sb fa fb => lawC.smul a.2 b.2 ha.2 hb.2 sa sb (by simpa [RgH, fitsH, RgC] using fa) (by simpa [RgH, fitsH, RgC] using fb)
theorem law3 : RgL (RgH 3 mulR3 fun _ => true) G3 where
 gadd := fun a b ha hb => ⟨ha.1, lawK.gadd a.2 b.2 ha.2 hb.2⟩
 gmul := fun a b ha hb sa sb fa fb => ⟨rfl, lawK.gmul a.2 b.2 ha.2 hb.2 rfl rfl (by simpa [RgH, fitsH, RgK] using fa) (by simpa [RgH, fitsH, RgK] using fb)⟩
 sadd := fun _ _ _ _ _ _ => rfl
 smul := fun _ _ _ _ _ _ _ _ => rfl
theorem RI_map_G {E : Type} {G : E → Prop} {W : Int} {T : Tbl E} (h : TG G W T) {D : Type} {ι : E → D} {G' : D → Prop} (hG : ∀ x, G x → G' (ι x)) : TG G' W (mapT ι T) where
 w1 := h.w1
 srt := by
  unfold mapT SrT
  rw [List.pairwise_map]
  exact h.srt
 wd := fun x hx => by
  obtain ⟨y, hy, rfl⟩ := List.mem_map.1 hx
  exact h.wd y hy
 len := by unfold mapT; rw [List.length_map]; exact h.len
 gd := fun x hx => by
  obtain ⟨y, hy, rfl⟩ := List.mem_map.1 hx
  exact hG _ (h.gd y hy)
theorem GI_map {E : Type} {G : E → Prop} {ws : List Int} {tabs : List (Tbl E)} (h : GI G ws tabs) {D : Type} {ι : E → D} {G' : D → Prop} (hG : ∀ x, G x → G' (ι x)) : GI G' ws (tabs.map (mapT ι)) := by
 refine ⟨by rw [List.length_map, h.1], fun i hi => ?_⟩
 rw [map_getD]
 exact RI_map_G (h.2 i hi) hG
def ansQ {D : Type} (R : Rg D) (tabs : List (Tbl D)) (ws : List Wd) : Option (Tbl D) := (Tb.runT R tabs ws []).map fun p => p.getD 0 []
def ansR {D : Type} (R : Rg D) (mulR : D → D → D) (beg : List (Tbl D)) (ws : List Wd) : Option (Tbl D) := (Tb.runR R mulR beg ws []).map fun p => p.getD 0 []
theorem ans_same {D E : Type} {R : Rg D} {S : Rg E} {ι : D → E} {G : D → Prop} {G' : E → Prop} {mulR : E → E → E} {ws : List Int} {tabs : List (Tbl D)} {beg : List (Tbl E)} (hh : HomR R S ι) (hL : RgL S G') (hm : MulR S G' mulR) (hg : GI G ws tabs) (hG : ∀ x, G x → G' (ι x))
  (hb : ∀ n, n < ws.length → beg.getD n [] = gath S ((tabs.map (mapT ι)).getD n [])) {l : List Wd} {pw : List Int} (hp : planW ws l [] = some pw) : ansR S mulR beg l = (ansQ R tabs l).map (mapT ι) := by
 unfold ansR ansQ
 have hP : PI S G' [] [] := ⟨rfl, fun i hi => by simp at hi⟩
 rw [run_is hL hm (GI_map hg hG) hb l hP hp]
 have := map_run hh tabs l []
 rw [List.map_nil] at this
 rw [this]
 cases Tb.runT R tabs l [] with
 | none => rfl
 | some q => simp only [Option.map_some]; rw [map_getD]
end Go.Proofs.YtehdemcfeoiecaaGreatDoor
namespace Go.Firn.Tb
section
variable {D : Type}
theorem plc_take (add : D → D → D) (v : List Int) (d : D) : ∀ (T : Tbl D) (k : Nat), k ≤ T.length → (∀ j x, j < k → T[j]? = some x → x.1 < v) → plc add T v d = T.take k ++ plc add (T.drop k) v d
 | T, 0, _, _ => by simp
 | [], k + 1, h, _ => by simp at h
 | y :: r, k + 1, h, hj => by
  have h0 : y.1 < v := hj 0 y (by omega) rfl
  have ih := plc_take add v d r k (by simp at h; omega) fun j x hjk hx => hj (j + 1) x (by omega) (by simpa using hx)
  rw [List.take_succ_cons, List.drop_succ_cons, List.cons_append, ← ih]
  show (if y.1 < v then y :: plc add r v d else _) = _
  rw [if_pos h0]
theorem drop_get {α : Type} {T : List α} {k : Nat} {x : α} (h : T[k]? = some x) : T.drop k = x :: T.drop (k + 1) := by
 obtain ⟨hk, e⟩ := List.getElem?_eq_some_iff.1 h
 rw [List.drop_eq_getElem_cons hk, e]
theorem set_get {α : Type} {T : List α} {k : Nat} {x : α} (h : T[k]? = some x) (y : α) : T.set k y = T.take k ++ y :: T.drop (k + 1) := by
 obtain ⟨hk, e⟩ := List.getElem?_eq_some_iff.1 h
 rw [List.set_eq_take_append_cons_drop, if_pos hk]
theorem plc_eq (add : D → D → D) {v : List Int} {d : D} {T : Tbl D} {k : Nat} {x : List Int × D} (hj : ∀ j x, j < k → T[j]? = some x → x.1 < v) (hx : T[k]? = some x) (he : x.1 = v) : plc add T v d = T.set k (x.1, add x.2 d) := by
 obtain ⟨hk, _⟩ := List.getElem?_eq_some_iff.1 hx
 rw [plc_take add v d T k (by omega) hj, set_get hx, drop_get hx]
 congr 1
 show (if x.1 < v then _ else if x.1 = v then (x.1, add x.2 d) :: T.drop (k + 1) else _) = _
 rw [if_neg (by rw [he]; exact List.lt_irrefl v), if_pos he]
theorem plc_lt (add : D → D → D) {v : List Int} {d : D} {T : Tbl D} {k : Nat} {x : List Int × D} (hj : ∀ j x, j < k → T[j]? = some x → x.1 < v) (hx : T[k]? = some x) (he : v < x.1) : plc add T v d = T.take k ++ (v, d) :: T.drop k := by
 obtain ⟨hk, _⟩ := List.getElem?_eq_some_iff.1 hx
 rw [plc_take add v d T k (by omega) hj, drop_get hx]
 congr 1
 show (if x.1 < v then _ else if x.1 = v then _ else (v, d) :: x :: T.drop (k + 1)) = _
 rw [if_neg (List.lt_asymm he), if_neg (fun e => List.lt_irrefl v (by rw [e] at he; exact he))]
theorem plc_end (add : D → D → D) {v : List Int} {d : D} {T : Tbl D} (hj : ∀ j x, j < T.length → T[j]? = some x → x.1 < v) : plc add T v d = T ++ [(v, d)] := by
 rw [plc_take add v d T T.length (Nat.le_refl _) hj]
 simp [plc]
def plcs (add : D → D → D) (L out : Tbl D) : Tbl D := L.foldl (fun T y => plc add T y.1 y.2) out
theorem plcs_snoc (add : D → D → D) (L out : Tbl D) (x : List Int × D) : plcs add (L ++ [x]) out = plc add (plcs add L out) x.1 x.2 := by simp [plcs]
theorem plcs_len (add : D → D → D) : ∀ (L out : Tbl D), (plcs add L out).length ≤ out.length + L.length
 | [], out => by simp [plcs]
 | x :: r, out => by
  have h1 : (plc add out x.1 x.2).length ≤ out.length + 1 := by
   have : ∀ T : Tbl D, (plc add T x.1 x.2).length ≤ T.length + 1 := by
    intro T
    induction T with
    | nil => simp [plc]
    | cons y s ih =>
     unfold plc
     split
     ·simp; omega
     split <;> simp
   exact this out
  have h2 := plcs_len add r (plc add out x.1 x.2)
  show (plcs add r (plc add out x.1 x.2)).length ≤ _
  simp
  omega
end
end Go.Firn.Tb
namespace Go.Proofs.YtehdemcfeoiecaaGreatDoor
open Go.RowKit Go.Firn Go.Shelf
theorem isTk_split (s : ByteArray) : isTk s = (decide (s.size ≤ 12) && s.data.toList.all (fun b => tokB.data.toList.contains b) && srtB s) := by
 have hb : ∀ i, i < s.size → ∃ b, s.data.toList[i]? = some b ∧ b.toNat = bt s i := fun i hi => by
  have hl : i < s.data.toList.length := by simpa using hi
  exact ⟨s.data.toList[i], List.getElem?_eq_getElem hl, by unfold bt; rw [List.getD_eq_getElem?_getD, List.getElem?_eq_getElem hl]; rfl⟩
 rw [Bool.eq_iff_iff]
 unfold isTk tkK srtB
 simp only [Bool.and_eq_true, List.all_eq_true, decide_eq_true_eq, List.mem_range]
 constructor
 ·rintro ⟨h1, h2⟩
  refine ⟨⟨h2, fun b hb' => ?_⟩, fun i hi => ?_⟩
  ·obtain ⟨i, hi, rfl⟩ := List.getElem_of_mem hb'
   have hi' : i < s.size := by simpa using hi
   have t := h1 i hi'
   unfold tkAt at t
   obtain ⟨b, e1, e2⟩ := hb i hi'
   rw [List.getElem?_eq_getElem hi] at e1
   cases e1
   rw [tok_has, e2]
   simp only [Bool.and_eq_true, decide_eq_true_eq] at t ⊢
   exact t.1
  have t := h1 (i + 1) (by omega)
  unfold tkAt at t
  simp only [Bool.and_eq_true, Bool.or_eq_true, decide_eq_true_eq] at t
  have := t.2
  rw [show i + 1 - 1 = i by omega] at this
  omega
 rintro ⟨⟨h2, h3⟩, h4⟩
 refine ⟨fun i hi => ?_, h2⟩
 obtain ⟨b, e1, e2⟩ := hb i hi
 have := h3 b (List.mem_of_getElem? e1)
 rw [tok_has, e2] at this
 unfold tkAt
 simp only [Bool.and_eq_true, Bool.or_eq_true, decide_eq_true_eq] at this ⊢
 refine ⟨this, ?_⟩
 by_cases h0 : i = 0
 ·exact .inl h0
 right
 have := h4 (i - 1) (by omega)
 rw [show i - 1 + 1 = i by omega] at this
 exact this
theorem Trim_any (s : ByteArray) (hs : s.size ≤ 9223372036854775807) (w : World) :
  Calls Tryz.prog 128 #[.string s, .string ⟨#[97, 98, 99, 100, 101, 102, 103, 104]⟩] w fun e w' => (∃ z : ByteArray, e = .returned (.string z) ∧ z.toList.isEmpty = s.data.toList.all (fun b => tokB.data.toList.contains b)) ∧ Gr w w' := by
 refine (Any.strings_Trim_laid Tryz.trim (by kernel_rfl) s tokB w hs (by decide) (ascii_of_all (by decide))).mono fun e w' ⟨h1, h2⟩ => ⟨⟨_, h1, ?_⟩, h2⟩
 rw [Bool.eq_iff_iff, List.all_eq_true, List.isEmpty_iff, Lib.toList_data]
 exact trim_all _ _
theorem box2 (w : World) (s : ByteArray) (m : Int) (t : TypeId) : (w.alloc (.cells #[.string s, .int .i64 m] t)).cell? ⟨w.heap.size, 0, none⟩ = some (.string s) ∧ (w.alloc (.cells #[.string s, .int .i64 m] t)).cell? ⟨w.heap.size, 1, none⟩ = some (.int .i64 m) := by
 constructor <;> simp [World.cell?_alloc_new]
theorem isProduct_any (s : ByteArray) (m : Int) (hs : s.size ≤ 9223372036854775807) (w : World) : Calls Tryz.prog 98 #[.agg #[.string s, .int .i64 m]] w (RetB (isPr s m) w) := by
 obtain ⟨z0, z1⟩ := box2 w s m 58
 have G0 := Lh ((Gr.refl w).alloc (.cells #[.string s, .int .i64 m] 58))
 obtain ⟨b, cp, W1, hconv, g1, _, _, hcp, hc⟩ := conv_bytes (P := Tryz.prog) (src := 9) (dst := 176) Tryz.underlying9 Tryz.underlying176 Tryz.underlying5 s (w.alloc (.cells #[.string s, .int .i64 m] 58))
 have G1 := Lh (G0.out.trans g1)
 have y0 := g1.cell z0
 have y1 := g1.cell z1
 have E0 : isPr s m = (decide (s.size ≤ 12) && s.data.toList.all (fun b => tokB.data.toList.contains b) && srtB s && btw 1 m 100000) := by unfold isPr; rw [isTk_split]
 have CT := Lh (fun w' => Trim_any s hs w')
 have CS := Lh (fun w' (k : Gr W1 w') => IsSorted_any s b cp hs w' (fun j hj => k.cell (hc j hj).1))
 have CB := Lh (fun w' => between_any 1 m 100000 w')
 have SZ := Lh hs
 generalize s.data.toList.all (fun b => tokB.data.toList.contains b) = tt at *
 generalize srtB s = ss at *
 generalize btw 1 m 100000 = bb at *
 have E := Lh E0
 clear E0 hc hs
 by_cases h12 : s.size ≤ 12
 ·have i1 : (s.size : Int) ≤ 12 := by omega
  have E1 := Lh (show isPr s m = (tt && ss && bb) by rw [E.out, decide_eq_true h12]; simp)
  clear E h12
  cases tt with
  | false =>
   have E2 := Lh (show isPr s m = false by rw [E1.out]; rfl)
   go_enter Tryz.func98, Tryz.ntmps98
   go_wp2_with (first
    | (go_at_call 128; (with_reducible refine (CT.out _).mono ?_); rintro e w2 ⟨⟨z, rfl, hz⟩, g2⟩; have G2 := Lh (G1.out.trans g2)))
   go_ret
   rw [E2.out]
   exact ⟨rfl, G2.out⟩
  | true =>
   cases ss with
   | false =>
    have E2 := Lh (show isPr s m = false by rw [E1.out]; rfl)
    go_enter Tryz.func98, Tryz.ntmps98
    go_wp2_with (first
     | (go_at_call 128; (with_reducible refine (CT.out _).mono ?_); rintro e w2 ⟨⟨z, rfl, hz⟩, g2⟩; have G2 := Lh (G1.out.trans g2); have K2 := Lh g2; have hz4 : z.toList = [] := List.isEmpty_iff.1 hz)
     | (go_at_call 129; (with_reducible refine (CS.out _ K2.out).mono ?_); rintro e w3 h3; obtain ⟨rfl, g3⟩ := h3.b; have G3 := Lh (G2.out.trans g3); clear h3))
    go_ret
    rw [E2.out]
    exact ⟨rfl, G3.out⟩
   | true =>
    have E2 := Lh (show isPr s m = bb by rw [E1.out]; rfl)
    go_enter Tryz.func98, Tryz.ntmps98
    go_wp2_with (first
     | (go_at_call 128; (with_reducible refine (CT.out _).mono ?_); rintro e w2 ⟨⟨z, rfl, hz⟩, g2⟩; have G2 := Lh (G1.out.trans g2); have K2 := Lh g2; have hz4 : z.toList = [] := List.isEmpty_iff.1 hz; have y0 := g2.cell y0; have y1 := g2.cell y1)
     | (go_at_call 129; (with_reducible refine (CS.out _ K2.out).mono ?_); rintro e w3 h3; obtain ⟨rfl, g3⟩ := h3.b; have G3 := Lh (G2.out.trans g3); have y0 := g3.cell y0; have y1 := g3.cell y1; clear h3)
     | (go_at_call 56; (with_reducible refine (CB.out _).mono ?_); rintro e w4 ⟨rfl, rfl⟩))
    go_ret
    rw [E2.out]
    exact ⟨rfl, G3.out⟩
 have i1 : ¬ (s.size : Int) ≤ 12 := by omega
 have E2 := Lh (show isPr s m = false by rw [E.out, decide_eq_false h12]; simp)
 clear E h12
 go_enter Tryz.func98, Tryz.ntmps98
 go_wp2_with fail
 go_ret
 rw [E2.out]
 exact ⟨rfl, G1.out⟩
theorem refValidSum_any (a : Option Addr) (n c : Nat) (f : Nat → ByteArray) (g : Nat → Int) (w : World) (hn : n ≤ 9223372036854775807) (hz : ∀ i, i < n → (f i).size ≤ 9223372036854775807) (hr : RdS w a n f g) :
  Calls Tryz.prog 70 #[.slice a n c] w (RetB (vS f g n) w) := by
 have HR := Lh hr
 have HZ := Lh hz
 clear hr hz
 go_enter Tryz.func70, Tryz.ntmps70
 go_wp2
 go_loopw [7] (fun si wr => ∃ k : Nat, k ≤ n ∧ si = .int .i64 k ∧ Hid (vsK f g k = true) ∧ Hid (Gr w wr)) (fun si _ => n - (intOf si).toNat)
 case atStart => exact ⟨0, Nat.zero_le _, rfl, vsK_zero f g, Gr.refl w⟩
 case round =>
  obtain ⟨k, hk, rfl, hK, hG⟩ := hrel
  by_cases hlt : k < n
  ·have i1 : (k : Int) < (n : Int) := by omega
   obtain ⟨b, o, rfl, hc⟩ := (HR.out.gr hG.out).at hlt
   obtain ⟨k0, k1⟩ := hc k hlt
   have CT := Lh (fun w1 => isTokens_any (f k) (HZ.out k hlt) w1)
   unfold RetQ at CT
   have GB := Lh (hG.out.alloc (.cells #[.string (f k), .int .i64 (g k)] 58))
   obtain ⟨z0, z1⟩ := box2 wr (f k) (g k) 58
   by_cases hk0 : k = 0
   ·have E := Lh (show vsAt f g k = (isTk (f k) && btw 1 (g k) 100000) by unfold vsAt isPr; rw [decide_eq_true hk0]; simp)
    have KS := Lh (show vsAt f g k = true → vsK f g (k + 1) = true from fun h => by rw [vsK_succ, hK.out, h]; rfl)
    have KF := Lh (show vsAt f g k = false → vS f g n = false from fun h => by unfold vS; rw [vsK_stop hlt h]; rfl)
    have k00 : ¬ 0 < k := by omega
    have k01 : decide ((0 : Int) < (k : Int)) = false := by simp; omega
    clear hc hK hk0
    generalize f k = s at *
    generalize g k = m at *
    generalize isTk s = tk at *
    generalize vsAt f g k = v at *
    cases tk with
    | false =>
     have F := Lh (KF.out (by rw [E.out]; rfl))
     go_wp2_with fail
     go_quiet ((go_at_call 94; with_reducible exact Calls.quiet_of (CT.out _)))
     go_wp2_with fail
     go_ret
     rw [F.out]
     exact ⟨rfl, GB.out.drewN _⟩
    | true =>
     by_cases h1 : m < 1
     ·have F := Lh (KF.out (by rw [E.out]; unfold btw; rw [decide_eq_false (by omega)]; rfl))
      have d1 : decide (m < 1) = true := by simpa using h1
      clear h1 KF KS
      go_wp2_with fail
      go_quiet ((go_at_call 94; with_reducible exact Calls.quiet_of (CT.out _)))
      go_wp2_with fail
      go_ret
      rw [F.out]
      exact ⟨rfl, GB.out.drewN _⟩
     by_cases h2 : 100000 < m
     ·have F := Lh (KF.out (by rw [E.out]; unfold btw; rw [decide_eq_false (show ¬ m ≤ 100000 by omega)]; simp))
      have d1 : decide (m < 1) = false := by simpa using h1
      have d2 : decide (100000 < m) = true := by simpa using h2
      clear h1 h2 KF KS
      go_wp2_with fail
      go_quiet ((go_at_call 94; with_reducible exact Calls.quiet_of (CT.out _)))
      go_wp2_with fail
      go_ret
      rw [F.out]
      exact ⟨rfl, GB.out.drewN _⟩
     have F := Lh (KS.out (by rw [E.out]; unfold btw; rw [decide_eq_true (show 1 ≤ m by omega), decide_eq_true (show m ≤ 100000 by omega)]; rfl))
     have d1 : decide (m < 1) = false := by simpa using h1
     have d2 : decide (100000 < m) = false := by simpa using h2
     clear h1 h2 KF KS
     go_wp2_with fail
     go_quiet ((go_at_call 94; with_reducible exact Calls.quiet_of (CT.out _)))
     go_wp2_with fail
     go_roundw
     case rel => exact ⟨k + 1, hlt, by go_num, F, GB.out.drewN _⟩
     case measure => simp [intOf]; omega
   obtain ⟨j, hj⟩ : ∃ j, k = j + 1 := ⟨k - 1, by omega⟩
   have hjn : j < n := by omega
   have kp := (Gr.refl wr).alloc (.cells #[.string (f k), .int .i64 (g k)] 58) |>.cell (hc j hjn).1
   have E := Lh (show vsAt f g k = (isTk (f k) && btw 1 (g k) 100000 && bLt (f j) (f k)) by unfold vsAt isPr; rw [decide_eq_false hk0, show k - 1 = j by omega]; rfl)
   have KS := Lh (show vsAt f g k = true → vsK f g (k + 1) = true from fun h => by rw [vsK_succ, hK.out, h]; rfl)
   have KF := Lh (show vsAt f g k = false → vS f g n = false from fun h => by unfold vS; rw [vsK_stop hlt h]; rfl)
   have k00 : 0 < k := by omega
   have q1 : (k : Int) - 1 = (j : Int) := by omega
   have q2 : IntKind.i64.wrap ((k : Int) - 1) = (j : Int) := by rw [q1]; exact IntWalk.i64_in _ (by omega)
   have j1 : (j : Int) < (n : Int) := by omega
   have LT := bLt_cases (f j) (f k)
   unfold bLt at LT
   have EB : bLt (f j) (f k) = Op.bytesLess (f j).toList (f k).toList := rfl
   rw [EB] at E
   clear hc hK hk0 hj EB
   generalize f k = s at *
   generalize f j = p at *
   generalize g k = m at *
   generalize isTk s = tk at *
   generalize vsAt f g k = v at *
   cases tk with
   | false =>
    have F := Lh (KF.out (by rw [E.out]; rfl))
    go_wp2_with fail
    go_quiet ((go_at_call 94; with_reducible exact Calls.quiet_of (CT.out _)))
    go_wp2_with fail
    go_ret
    rw [F.out]
    exact ⟨rfl, GB.out.drewN _⟩
   | true =>
    by_cases h1 : m < 1
    ·have F := Lh (KF.out (by rw [E.out]; unfold btw; rw [decide_eq_false (by omega)]; rfl))
     have d1 : decide (m < 1) = true := by simpa using h1
     clear h1 KF KS
     go_wp2_with fail
     go_quiet ((go_at_call 94; with_reducible exact Calls.quiet_of (CT.out _)))
     go_wp2_with fail
     go_ret
     rw [F.out]
     exact ⟨rfl, GB.out.drewN _⟩
    by_cases h2 : 100000 < m
    ·have F := Lh (KF.out (by rw [E.out]; unfold btw; rw [decide_eq_false (show ¬ m ≤ 100000 by omega)]; simp))
     have d1 : decide (m < 1) = false := by simpa using h1
     have d2 : decide (100000 < m) = true := by simpa using h2
     clear h1 h2 KF KS
     go_wp2_with fail
     go_quiet ((go_at_call 94; with_reducible exact Calls.quiet_of (CT.out _)))
     go_wp2_with fail
     go_ret
     rw [F.out]
     exact ⟨rfl, GB.out.drewN _⟩
    have F := Lh (show v = Op.bytesLess p.toList s.toList by rw [E.out]; unfold btw; rw [decide_eq_true (show 1 ≤ m by omega), decide_eq_true (show m ≤ 100000 by omega)]; simp)
    have d1 : decide (m < 1) = false := by simpa using h1
    have d2 : decide (100000 < m) = false := by simpa using h2
    clear h1 h2
    rcases LT with ⟨a1, a2, a3⟩ | ⟨a1, a2, a3⟩ | ⟨a1, a2, a3⟩
    ·have F2 := Lh (KS.out (by rw [F.out, a1]))
     go_wp2_with fail
     go_quiet ((go_at_call 94; with_reducible exact Calls.quiet_of (CT.out _)))
     go_wp2_with fail
     go_roundw
     case rel => exact ⟨k + 1, hlt, by go_num, F2, GB.out.drewN _⟩
     case measure => simp [intOf]; omega
    ·have F2 := Lh (KF.out (by rw [F.out, a1]))
     go_wp2_with fail
     go_quiet ((go_at_call 94; with_reducible exact Calls.quiet_of (CT.out _)))
     go_wp2_with fail
     go_ret
     rw [F2.out]
     exact ⟨rfl, GB.out.drewN _⟩
    have F2 := Lh (KF.out (by rw [F.out, a1]))
    go_wp2_with fail
    go_quiet ((go_at_call 94; with_reducible exact Calls.quiet_of (CT.out _)))
    go_wp2_with fail
    go_ret
    rw [F2.out]
    exact ⟨rfl, GB.out.drewN _⟩
  obtain rfl : k = n := by omega
  have i1 : ¬ (k : Int) < (k : Int) := by omega
  have E := Lh (show vS f g k = decide ((k : Int) ≤ 40) by unfold vS; rw [hK.out, Bool.true_and]; congr 1; apply propext; omega)
  go_wp2_with fail
  go_ret
  rw [E.out]
  exact ⟨rfl, hG.out⟩
theorem ValidSum_any (a : Option Addr) (n c : Nat) (f : Nat → ByteArray) (g : Nat → Int) (w : World) (hn : n ≤ 9223372036854775807) (hz : ∀ i, i < n → (f i).size ≤ 9223372036854775807) (hr : RdS w a n f g) :
  Calls Tryz.prog 68 #[.slice a n c] w (RetB (vS f g n) w) := by
 have HR := Lh hr
 have HZ := Lh hz
 clear hr hz
 go_enter Tryz.func68, Tryz.ntmps68
 go_wp2
 go_loopw [7] (fun si wr => ∃ k : Nat, k ≤ n ∧ si = .int .i64 k ∧ Hid (vsK f g k = true) ∧ Hid (Gr w wr)) (fun si _ => n - (intOf si).toNat)
 case atStart => exact ⟨0, Nat.zero_le _, rfl, vsK_zero f g, Gr.refl w⟩
 case round =>
  obtain ⟨k, hk, rfl, hK, hG⟩ := hrel
  by_cases hlt : k < n
  ·have i1 : (k : Int) < (n : Int) := by omega
   obtain ⟨b, o, rfl, hc⟩ := (HR.out.gr hG.out).at hlt
   obtain ⟨k0, k1⟩ := hc k hlt
   have CP := Lh (fun w1 => isProduct_any (f k) (g k) (HZ.out k hlt) w1)
   unfold RetB at CP
   have GB := Lh (hG.out.alloc (.cells #[.string (f k), .int .i64 (g k)] 58))
   obtain ⟨z0, z1⟩ := box2 wr (f k) (g k) 58
   have KS := Lh (show vsAt f g k = true → vsK f g (k + 1) = true from fun h => by rw [vsK_succ, hK.out, h]; rfl)
   have KF := Lh (show vsAt f g k = false → vS f g n = false from fun h => by unfold vS; rw [vsK_stop hlt h]; rfl)
   by_cases hk0 : k = 0
   ·have E := Lh (show vsAt f g k = isPr (f k) (g k) by unfold vsAt; rw [decide_eq_true hk0]; simp)
    have k00 : ¬ 0 < k := by omega
    clear hc hK hk0
    generalize f k = s at *
    generalize g k = m at *
    generalize isPr s m = tk at *
    generalize vsAt f g k = v at *
    cases tk with
    | false =>
     have F2 := Lh (KF.out E.out)
     clear KS KF
     go_upto_region 4 with fail
     generalize hW : wr.alloc (.cells #[.string s, .int .i64 m] 58) = W1 at *
     generalize hX : wr.heap.size = bx at *
     clear hW hX
     refine Hg (fun w' => Gr W1 w') 18 ?_
     have hS : Gr W1 W1.drew := (Gr.refl W1).drew
     iterate 1 (first
      | (refine H1 0 (c2 z0 z1) hS ?_))
     refine Hr 1 rfl (fun K hK => ?_)
     go_simp
     refine ⟨trivial, ?_⟩
     refine (callsIn_wide.2 (CP.out _)).mono ?_
     rintro e wX ⟨rfl, gX⟩
     have hS : Gr W1 wX := hS.trans gX
     refine hK.out _ _ hS ?_
     clear hK K gX
     iterate 2 (first
      | (refine H1 2 tv hS ?_)
      | (refine H1 3 tv hS ?_))
     iterate 13 (first
      | (refine Hs1 4 hS ?_)
      | (refine Hs1 5 hS ?_)
      | (refine Hs1 6 hS ?_)
      | (refine Hs1 7 hS ?_)
      | (refine Hs1 8 hS ?_)
      | (refine Hs1 9 hS ?_)
      | (refine Hs1 10 hS ?_)
      | (refine Hs1 11 hS ?_)
      | (refine Hs1 12 hS ?_)
      | (refine Hs1 13 hS ?_)
      | (refine Hs1 14 hS ?_)
      | (refine Hs1 15 hS ?_)
      | (refine Hs1 16 hS ?_))
     iterate 1 (first
      | (refine H1 17 tv hS ?_))
     refine Hd ?_
     have GX := Lh (GB.out.trans hS)
     clear hS
     go_wp2_with fail
     go_ret
     rw [F2.out]
     exact ⟨rfl, GX.out⟩
    | true =>
     have F2 := Lh (KS.out E.out)
     clear KS KF
     go_upto_region 4 with fail
     generalize hW : wr.alloc (.cells #[.string s, .int .i64 m] 58) = W1 at *
     generalize hX : wr.heap.size = bx at *
     clear hW hX
     refine Hg (fun w' => Gr W1 w') 18 ?_
     have hS : Gr W1 W1.drew := (Gr.refl W1).drew
     iterate 1 (first
      | (refine H1 0 (c2 z0 z1) hS ?_))
     refine Hr 1 rfl (fun K hK => ?_)
     go_simp
     refine ⟨trivial, ?_⟩
     refine (callsIn_wide.2 (CP.out _)).mono ?_
     rintro e wX ⟨rfl, gX⟩
     have hS : Gr W1 wX := hS.trans gX
     refine hK.out _ _ hS ?_
     clear hK K gX
     iterate 5 (first
      | (refine H1 2 tv hS ?_)
      | (refine H1 3 tv hS ?_)
      | (refine H1 4 tv hS ?_)
      | (refine H1 5 tv hS ?_)
      | (refine H1 6 tv hS ?_))
     iterate 9 (first
      | (refine Hs1 7 hS ?_)
      | (refine Hs1 8 hS ?_)
      | (refine Hs1 9 hS ?_)
      | (refine Hs1 10 hS ?_)
      | (refine Hs1 11 hS ?_)
      | (refine Hs1 12 hS ?_)
      | (refine Hs1 13 hS ?_)
      | (refine Hs1 14 hS ?_)
      | (refine Hs1 15 hS ?_))
     iterate 2 (first
      | (refine H1 16 tv hS ?_)
      | (refine H1 17 tv hS ?_))
     refine Hd ?_
     have GX := Lh (GB.out.trans hS)
     clear hS
     go_wp2_with fail
     go_roundw
     case rel => exact ⟨k + 1, hlt, by go_num, F2, GX.out⟩
     case measure => simp [intOf]; omega
   obtain ⟨j, hj⟩ : ∃ j, k = j + 1 := ⟨k - 1, by omega⟩
   have hjn : j < n := by omega
   have kp := (Gr.refl wr).alloc (.cells #[.string (f k), .int .i64 (g k)] 58) |>.cell (hc j hjn).1
   have E := Lh (show vsAt f g k = (isPr (f k) (g k) && bLt (f j) (f k)) by unfold vsAt; rw [decide_eq_false hk0, show k - 1 = j by omega]; rfl)
   have k00 : 0 < k := by omega
   have q1 : (k : Int) - 1 = (j : Int) := by omega
   have q2 : IntKind.i64.wrap ((k : Int) - 1) = (j : Int) := by rw [q1]; exact IntWalk.i64_in _ (by omega)
   have j1 : (j : Int) < (n : Int) := by omega
   have q3 : IntKind.i64.wrap (j : Int) = (j : Int) := IntWalk.i64_in _ (by omega)
   have LT := bLt_cases (f j) (f k)
   unfold bLt at LT
   have EB : bLt (f j) (f k) = Op.bytesLess (f j).toList (f k).toList := rfl
   rw [EB] at E
   clear hc hK hk0 hj EB
   generalize f k = s at *
   generalize f j = p at *
   generalize g k = m at *
   generalize isPr s m = tk at *
   generalize vsAt f g k = v at *
   cases tk with
   | false =>
    have F2 := Lh (KF.out (by rw [E.out]; rfl))
    clear KS KF LT
    go_upto_region 4 with fail
    generalize hW : wr.alloc (.cells #[.string s, .int .i64 m] 58) = W1 at *
    generalize hX : wr.heap.size = bx at *
    clear hW hX
    refine Hg (fun w' => Gr W1 w') 18 ?_
    have hS : Gr W1 W1.drew := (Gr.refl W1).drew
    iterate 1 (first
     | (refine H1 0 (c3 z0 z1 kp) hS ?_))
    refine Hr 1 rfl (fun K hK => ?_)
    go_simp
    refine ⟨trivial, ?_⟩
    refine (callsIn_wide.2 (CP.out _)).mono ?_
    rintro e wX ⟨rfl, gX⟩
    have hS : Gr W1 wX := hS.trans gX
    refine hK.out _ _ hS ?_
    clear hK K gX
    iterate 2 (first
     | (refine H1 2 tv hS ?_)
     | (refine H1 3 tv hS ?_))
    iterate 13 (first
     | (refine Hs1 4 hS ?_)
     | (refine Hs1 5 hS ?_)
     | (refine Hs1 6 hS ?_)
     | (refine Hs1 7 hS ?_)
     | (refine Hs1 8 hS ?_)
     | (refine Hs1 9 hS ?_)
     | (refine Hs1 10 hS ?_)
     | (refine Hs1 11 hS ?_)
     | (refine Hs1 12 hS ?_)
     | (refine Hs1 13 hS ?_)
     | (refine Hs1 14 hS ?_)
     | (refine Hs1 15 hS ?_)
     | (refine Hs1 16 hS ?_))
    iterate 1 (first
     | (refine H1 17 tv hS ?_))
    refine Hd ?_
    have GX := Lh (GB.out.trans hS)
    clear hS
    go_wp2_with fail
    go_ret
    rw [F2.out]
    exact ⟨rfl, GX.out⟩
   | true =>
    rcases LT with ⟨a1, a2, a3⟩ | ⟨a1, a2, a3⟩ | ⟨a1, a2, a3⟩
    ·have F2 := Lh (KS.out (by rw [E.out, a1]; rfl))
     clear KS KF
     go_upto_region 4 with fail
     generalize hW : wr.alloc (.cells #[.string s, .int .i64 m] 58) = W1 at *
     generalize hX : wr.heap.size = bx at *
     clear hW hX
     refine Hg (fun w' => Gr W1 w') 18 ?_
     have hS : Gr W1 W1.drew := (Gr.refl W1).drew
     iterate 1 (first
      | (refine H1 0 (c3 z0 z1 kp) hS ?_))
     refine Hr 1 rfl (fun K hK => ?_)
     go_simp
     refine ⟨trivial, ?_⟩
     refine (callsIn_wide.2 (CP.out _)).mono ?_
     rintro e wX ⟨rfl, gX⟩
     have hS : Gr W1 wX := hS.trans gX
     refine hK.out _ _ hS ?_
     clear hK K gX
     iterate 5 (first
      | (refine H1 2 tv hS ?_)
      | (refine H1 3 tv hS ?_)
      | (refine H1 4 tv hS ?_)
      | (refine H1 5 tv hS ?_)
      | (refine H1 6 tv hS ?_))
     iterate 9 (first
      | (refine H1 7 (c3 z0 z1 kp) hS ?_)
      | (refine H1 8 (c3 z0 z1 kp) hS ?_)
      | (refine H1 9 (c3 z0 z1 kp) hS ?_)
      | (refine H1 10 (c3 z0 z1 kp) hS ?_)
      | (refine H1 11 (c3 z0 z1 kp) hS ?_)
      | (refine H1 12 (c3 z0 z1 kp) hS ?_)
      | (refine H1 13 (c3 z0 z1 kp) hS ?_)
      | (refine H1 14 (c3 z0 z1 kp) hS ?_)
      | (refine H1 15 (c3 z0 z1 kp) hS ?_))
     iterate 2 (first
      | (refine H1 16 tv hS ?_)
      | (refine H1 17 tv hS ?_))
     refine Hd ?_
     have GX := Lh (GB.out.trans hS)
     clear hS
     go_wp2_with fail
     go_roundw
     case rel => exact ⟨k + 1, hlt, by go_num, F2, GX.out⟩
     case measure => simp [intOf]; omega
    ·have F2 := Lh (KF.out (by rw [E.out, a1]; rfl))
     clear KS KF
     go_upto_region 4 with fail
     generalize hW : wr.alloc (.cells #[.string s, .int .i64 m] 58) = W1 at *
     generalize hX : wr.heap.size = bx at *
     clear hW hX
     refine Hg (fun w' => Gr W1 w') 18 ?_
     have hS : Gr W1 W1.drew := (Gr.refl W1).drew
     iterate 1 (first
      | (refine H1 0 (c3 z0 z1 kp) hS ?_))
     refine Hr 1 rfl (fun K hK => ?_)
     go_simp
     refine ⟨trivial, ?_⟩
     refine (callsIn_wide.2 (CP.out _)).mono ?_
     rintro e wX ⟨rfl, gX⟩
     have hS : Gr W1 wX := hS.trans gX
     refine hK.out _ _ hS ?_
     clear hK K gX
     iterate 5 (first
      | (refine H1 2 tv hS ?_)
      | (refine H1 3 tv hS ?_)
      | (refine H1 4 tv hS ?_)
      | (refine H1 5 tv hS ?_)
      | (refine H1 6 tv hS ?_))
     iterate 9 (first
      | (refine H1 7 (c3 z0 z1 kp) hS ?_)
      | (refine H1 8 (c3 z0 z1 kp) hS ?_)
      | (refine H1 9 (c3 z0 z1 kp) hS ?_)
      | (refine H1 10 (c3 z0 z1 kp) hS ?_)
      | (refine H1 11 (c3 z0 z1 kp) hS ?_)
      | (refine H1 12 (c3 z0 z1 kp) hS ?_)
      | (refine H1 13 (c3 z0 z1 kp) hS ?_)
      | (refine H1 14 (c3 z0 z1 kp) hS ?_)
      | (refine H1 15 (c3 z0 z1 kp) hS ?_))
     iterate 2 (first
      | (refine H1 16 tv hS ?_)
      | (refine H1 17 tv hS ?_))
     refine Hd ?_
     have GX := Lh (GB.out.trans hS)
     clear hS
     go_wp2_with fail
     go_ret
     rw [F2.out]
     exact ⟨rfl, GX.out⟩
    have F2 := Lh (KF.out (by rw [E.out, a1]; rfl))
    clear KS KF
    go_upto_region 4 with fail
    generalize hW : wr.alloc (.cells #[.string s, .int .i64 m] 58) = W1 at *
    generalize hX : wr.heap.size = bx at *
    clear hW hX
    refine Hg (fun w' => Gr W1 w') 18 ?_
    have hS : Gr W1 W1.drew := (Gr.refl W1).drew
    iterate 1 (first
     | (refine H1 0 (c3 z0 z1 kp) hS ?_))
    refine Hr 1 rfl (fun K hK => ?_)
    go_simp
    refine ⟨trivial, ?_⟩
    refine (callsIn_wide.2 (CP.out _)).mono ?_
    rintro e wX ⟨rfl, gX⟩
    have hS : Gr W1 wX := hS.trans gX
    refine hK.out _ _ hS ?_
    clear hK K gX
    iterate 5 (first
     | (refine H1 2 tv hS ?_)
     | (refine H1 3 tv hS ?_)
     | (refine H1 4 tv hS ?_)
     | (refine H1 5 tv hS ?_)
     | (refine H1 6 tv hS ?_))
    iterate 9 (first
     | (refine H1 7 (c3 z0 z1 kp) hS ?_)
     | (refine H1 8 (c3 z0 z1 kp) hS ?_)
     | (refine H1 9 (c3 z0 z1 kp) hS ?_)
     | (refine H1 10 (c3 z0 z1 kp) hS ?_)
     | (refine H1 11 (c3 z0 z1 kp) hS ?_)
     | (refine H1 12 (c3 z0 z1 kp) hS ?_)
     | (refine H1 13 (c3 z0 z1 kp) hS ?_)
     | (refine H1 14 (c3 z0 z1 kp) hS ?_)
     | (refine H1 15 (c3 z0 z1 kp) hS ?_))
    iterate 2 (first
     | (refine H1 16 tv hS ?_)
     | (refine H1 17 tv hS ?_))
    refine Hd ?_
    have GX := Lh (GB.out.trans hS)
    clear hS
    go_wp2_with fail
    go_ret
    rw [F2.out]
    exact ⟨rfl, GX.out⟩
  obtain rfl : k = n := by omega
  have i1 : ¬ (k : Int) < (k : Int) := by omega
  have E := Lh (show vS f g k = decide ((k : Int) ≤ 40) by unfold vS; rw [hK.out, Bool.true_and]; congr 1; apply propext; omega)
  go_wp2_with fail
  go_ret
  rw [E.out]
  exact ⟨rfl, hG.out⟩
end Go.Proofs.YtehdemcfeoiecaaGreatDoor
