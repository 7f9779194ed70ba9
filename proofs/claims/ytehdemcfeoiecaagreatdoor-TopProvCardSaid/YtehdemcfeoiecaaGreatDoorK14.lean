import Derived.Test.YtehdemcfeoiecaaGreatDoorK13
set_option maxHeartbeats 64000000
set_option maxRecDepth 100000
namespace Go.Firn
open Go.RowKit
theorem RdI.of_owns {w : World} {base e : Nat} {v : Value} {n : Nat} {f : Nat → Int} (h : w.ownsRow base e 1 v n ((List.range n).map fun i => Value.int .i64 (f i))) :
  ∃ a c, v = .slice a n c ∧ n ≤ c ∧ c ≤ maxLen ∧ RdI w a n f := by
 have h0 := h
 obtain ⟨hl, hv⟩ := h
 rcases hv with ⟨rfl, rfl⟩ | ⟨g, cap, cur, rfl, hb, hg, hnc, hcm, hcs, htake⟩
 ·exact ⟨none, 0, rfl, Nat.le_refl _, by unfold maxLen; omega, .inl rfl⟩
 refine ⟨_, _, rfl, hnc, hcm, .inr ⟨g, 0, rfl, fun i hi => ?_⟩⟩
 have hc := h0.cells (g := g) rfl i (.int .i64 (f i)) (by simp [hi])
 have hadd : (⟨g, 0, none⟩ : Addr).add i = ⟨g, 0 + i, none⟩ := by unfold Addr.add; split <;> simp_all
 rw [hadd] at hc
 exact hc
theorem range_succ_int (k : Nat) (f : Nat → Int) : ((List.range (k + 1)).map fun i => Value.int .i64 (f i)) = ((List.range k).map fun i => Value.int .i64 (f i)) ++ [Value.int .i64 (f k)] := by
 rw [List.range_succ, List.map_append]; rfl
def RetIs (n : Nat) (f : Nat → Int) (err : Int) (w : World) (e : Ending) (w' : World) : Prop :=
 ∃ a c, e = .returned (.tuple #[.slice a n c, .int .i64 err]) ∧ n ≤ c ∧ c ≤ maxLen ∧ RdI w' a n f ∧ Gr w w'
def ints (k : Nat) (f : Nat → Int) : List Value := (List.range k).map fun i => Value.int .i64 (f i)
theorem ints_succ (k : Nat) (f : Nat → Int) : ints (k + 1) f = ints k f ++ [Value.int .i64 (f k)] := range_succ_int k f
def OwnI (w0 : World) (e : TypeId) (w : World) (v : Value) (k : Nat) (f : Nat → Int) : Prop := w.ownsRow w0.heap.size e 1 v k (ints k f) ∧ Gr w0 w
theorem OwnI.nil (w : World) (e : TypeId) (f : Nat → Int) : OwnI w e w (.slice none 0 0) 0 f := ⟨World.ownsRow_nil w _ _ _, Gr.refl w⟩
theorem OwnI.nil' {w0 w : World} (g : Gr w0 w) (e : TypeId) (f : Nat → Int) : OwnI w0 e w (.slice none 0 0) 0 f := ⟨World.ownsRow_nil w _ _ _, g⟩
theorem OwnI.alloc {w0 w : World} {e : TypeId} {v : Value} {k : Nat} {f : Nat → Int} (h : OwnI w0 e w v k f) (o : Obj) : OwnI w0 e (w.alloc o) v k f := ⟨h.1.alloc o, h.2.alloc o⟩
theorem OwnI.gr {w0 w w' : World} {e : TypeId} {v : Value} {k : Nat} {f : Nat → Int} (h : OwnI w0 e w v k f) (g : Gr w w') : OwnI w0 e w' v k f :=
 ⟨h.1.kept (row := none) ⟨g.os, g.tape, g.output, Gr.size g, fun k hk _ => Below.block g k hk⟩ (by cases v.ownBlock <;> simp), h.2.trans g⟩
theorem OwnI.rd {w0 w : World} {e : TypeId} {v : Value} {k : Nat} {f : Nat → Int} (h : OwnI w0 e w v k f) : ∃ a c, v = .slice a k c ∧ k ≤ c ∧ c ≤ maxLen ∧ RdI w a k f := RdI.of_owns h.1
theorem OwnI.congr {w0 w : World} {e : TypeId} {v : Value} {k : Nat} {f g : Nat → Int} (h : OwnI w0 e w v k f) (hfg : ∀ i, i < k → f i = g i) : OwnI w0 e w v k g := by
 have : ints k f = ints k g := List.map_congr_left fun i hi => by rw [hfg i (by simpa using hi)]
 unfold OwnI at *
 rw [← this]; exact h
theorem OwnI.ret {w0 w : World} {e : TypeId} {v : Value} {k : Nat} {f : Nat → Int} (h : OwnI w0 e w v k f) (err : Int) : RetIs k f err w0 (.returned (.tuple #[v, .int .i64 err])) w := by
 obtain ⟨a, c, rfl, h1, h2, h3⟩ := h.rd
 exact ⟨a, c, rfl, h1, h2, h3, h.2⟩
theorem wp_app_int {P : Program} {o : Oper} {a : Act} {K : Act → World → Prop} {Q : Exit → Act → World → Prop} (s x : Operand) (t e : TypeId)
  (ho : o.op = .call { callee := .builtin .append, args := #[s, x], argTypes := #[t, t] })
  (ht : P.underlying t = some (.slice e)) (hinfo : (P.info? e).map (fun i => (i.zero, i.size, i.bytes)) = some (some (.int .i64 0), 1, 8))
  {w0 w : World} (v : Value) (k : Nat) (f : Nat → Int) (hs : a.eval s = v) (hown : OwnI w0 e w v k f)
  (g : Nat) (r : Int) (hx : a.eval x = .slice (some ⟨g, 0, none⟩) 1 1) (hg : w.cell? ⟨g, 0, none⟩ = some (.int .i64 r)) (hf : f k = r) (hk : k < 1000000000)
  (h : ∀ v' w', OwnI w0 e w' v' (k + 1) f → w.grownBy w' v.ownBlock → K (a.put o.dst v') w') : o.wp P a w K Q := by
 obtain ⟨i0, hi, hz0, hz1, hz2⟩ := info_int hinfo
 subst hf
 refine wp_append_own w s x t ho w0.heap.size e i0 (.int .i64 0) 1 8 ht hi hz0 hz1 hz2 rfl (by decide) v k (ints k f) hs hown.1 ⟨g, 0, none⟩ 1 1 [.int .i64 (f k)] hx rfl ?_ ?_ ?_ ?_ hown.2.size ?_
 ·intro j u hu
  cases j with
  | zero => simp at hu; subst hu; exact hg
  | succ j => simp at hu
 ·simp [Value.oneCell']
 ·unfold maxLen; omega
 ·omega
 intro v' w' h1 h2 _
 rw [← ints_succ] at h1
 exact h v' w' ⟨h1, hown.2.grown h2 fun k hk => (hown.1.lt k hk).1⟩ h2
theorem wpList_app_int {P : Program} {ops : Array Oper} {rest : List Oper} {o : Oper} {a : Act} {Q : Exit → Act → World → Prop} (hgd : o.guard = none) (s x : Operand) (t e : TypeId)
  (ho : o.op = .call { callee := .builtin .append, args := #[s, x], argTypes := #[t, t] })
  (ht : P.underlying t = some (.slice e)) (hinfo : (P.info? e).map (fun i => (i.zero, i.size, i.bytes)) = some (some (.int .i64 0), 1, 8))
  {w0 w : World} (v : Value) (k : Nat) (f : Nat → Int) (hs : a.eval s = v) (hown : OwnI w0 e w v k f)
  (g : Nat) (r : Int) (hx : a.eval x = .slice (some ⟨g, 0, none⟩) 1 1) (hg : w.cell? ⟨g, 0, none⟩ = some (.int .i64 r)) (hf : f k = r) (hk : k < 1000000000)
  (h : ∀ v' w', OwnI w0 e w' v' (k + 1) f → w.grownBy w' v.ownBlock → wpList P ops Q rest (a.put o.dst v') w') : wpList P ops Q (o :: rest) a w :=
 wpList_plain hgd fun _ hK => wp_app_int s x t e ho ht hinfo v k f hs hown g r hx hg hf hk fun v' w' h1 h2 => hK _ _ (h v' w' h1 h2)
theorem OwnI.drew {w0 w : World} {e : TypeId} {v : Value} {k : Nat} {f : Nat → Int} (h : OwnI w0 e w v k f) : OwnI w0 e w.drew v k f := h.gr ((Gr.refl w).drew)
end Go.Firn
namespace Go.Proofs.YtehdemcfeoiecaaGreatDoor
open Go.Firn
theorem nmK_zero (l : Nat → Int) (B : Int) : nmK l B 0 = true := rfl
theorem nmK_succ (l : Nat → Int) (B : Int) (k : Nat) : nmK l B (k + 1) = (nmK l B k && btw 0 (l k) B) := by
 unfold nmK
 rw [List.range_succ, List.all_append]
 simp
theorem nmK_stop {l : Nat → Int} {B : Int} {k n : Nat} (hk : k < n) (h : btw 0 (l k) B = false) : nmK l B n = false := by
 unfold nmK
 rw [List.all_eq_false]
 exact ⟨k, by simpa using hk, by rw [h]; simp⟩
def csm (l : Nat → Int) (s : ByteArray) : Nat → Int
 | 0 => 0
 | k + 1 => csm l s k + l (bt s k - 97)
theorem csm_bd {l : Nat → Int} {s : ByteArray} (hl : ∀ i, i < 8 → 0 ≤ l i ∧ l i ≤ 1000) (hs : isTk s = true) : ∀ k, k ≤ s.size → 0 ≤ csm l s k ∧ csm l s k ≤ 1000 * k
 | 0, _ => by simp [csm]
 | k + 1, hk => by
  have ih := csm_bd hl hs k (by omega)
  have a := (isTk_at hs).2 k (by omega)
  have b := hl (bt s k - 97) (by omega)
  show 0 ≤ csm l s k + l (bt s k - 97) ∧ csm l s k + l (bt s k - 97) ≤ _
  omega
def csP (l : Nat → Int) (f : Nat → ByteArray) (i : Nat) : Int := csm l (f i) (f i).size
def mnR (c : Nat → Int) : Nat → Int
 | 0 => 0
 | k + 1 => if k = 0 ∨ c k < mnR c k then c k else mnR c k
theorem mnR_min (c : Nat → Int) : ∀ n, Lib.minOf ((List.range (n + 1)).map c) = mnR c (n + 1) := by
 intro n
 unfold Lib.minOf
 have hd : ((List.range (n + 1)).map c).headD 0 = c 0 := by rw [List.range_succ_eq_map]; rfl
 rw [hd]
 induction n with
 | zero => simp [mnR]
 | succ n ih =>
  have hd : ((List.range (n + 1)).map c).headD 0 = c 0 := by rw [List.range_succ_eq_map]; rfl
  rw [List.range_succ, List.map_append, List.foldl_append, ih hd]
  show min (mnR c (n + 1)) (c (n + 1)) = if n + 1 = 0 ∨ c (n + 1) < mnR c (n + 1) then c (n + 1) else mnR c (n + 1)
  split <;> omega
end Go.Proofs.YtehdemcfeoiecaaGreatDoor
/-
 DERIVED: THE SHELF's CONTRACTS AT THIS DUMP, IN PLAIN WORDS (tools/lay-plain.mjs out of 'YtehdemcfeoiecaaGreatDoorShelf.lean', which tools/lay-shelf.mjs wrote): THE SAME DECLARATIONS UNDER THE SAME NAMES: 'import', 'namespace', 'open', 'def', 'theorem' AND NOTHING ELSE: no command of the shelf's: FOR A HAND-IN. Each laying: the table of numbers ('.._ren') and one theorem, a field a fact of the dump's own or the kernel's comparison; each contract: ONE APPLICATION.
-/
namespace Go.Proofs
open Go.Shelf
def Tryz.min114_ren : Go.Shelf.Ren := ⟨fun | 114 => 77 | n => n, fun | 28 => 23 | 3 => 3 | 4 => 4 | 9 => 9 | 20 => 20 | 0 => 0 | n => n, fun | n => n⟩
theorem Tryz.min114 : Go.Proofs.Lays.n114 Tryz.prog Tryz.min114_ren := {
 mixed := by kernel_rfl
 f114 := Tryz.func77.trans (congrArg some (by kernel_rfl))
 t0 := Tryz.underlying0
 a0 := Tryz.isAgg0
 z0 := Tryz.sizeOf0
 v0 := Tryz.zeroValue0
 t3 := Tryz.underlying3
 a3 := Tryz.isAgg3
 z3 := Tryz.sizeOf3
 v3 := Tryz.zeroValue3
 t4 := Tryz.underlying4
 a4 := Tryz.isAgg4
 z4 := Tryz.sizeOf4
 v4 := Tryz.zeroValue4
 t9 := Tryz.underlying9
 a9 := Tryz.isAgg9
 z9 := Tryz.sizeOf9
 v9 := Tryz.zeroValue9
 t20 := Tryz.underlying20
 a20 := Tryz.isAgg20
 z20 := Tryz.sizeOf20
 v20 := Tryz.zeroValue20
 t28 := Tryz.underlying23
 a28 := Tryz.isAgg23
 z28 := Tryz.sizeOf23
 v28 := Tryz.zeroValue23 }
end Go.Proofs
namespace Go.Proofs.YtehdemcfeoiecaaGreatDoor
theorem tot_append (φ : Key → Int) : ∀ A B : SL, tot φ (A ++ B) = tot φ A + tot φ B
 | [], B => by simp [tot]
 | x :: r, B => by simp only [List.cons_append, tot, tot_append φ r B]; omega
theorem tot_mul (c : Int) (φ : Key → Int) : ∀ A : SL, tot (fun k => c * φ k) A = c * tot φ A
 | [] => by simp [tot]
 | x :: r => by simp only [tot, tot_mul c φ r, Int.mul_add]; rw [Int.mul_left_comm]
theorem tot_congr {φ ψ : Key → Int} : ∀ {A : SL}, (∀ x ∈ A, φ x.1 = ψ x.1) → tot φ A = tot ψ A
 | [], _ => rfl
 | x :: r, h => by simp only [tot, tot_congr (fun y hy => h y (List.mem_cons_of_mem _ hy)), h x List.mem_cons_self]
theorem tot_zero : ∀ A : SL, tot (fun _ => 0) A = 0
 | [] => rfl
 | x :: r => by simp [tot, tot_zero r]
end Go.Proofs.YtehdemcfeoiecaaGreatDoor
namespace Go.Proofs.YtehdemcfeoiecaaGreatDoor
open Go.Firn
def wK (l : Nat → Int) (k : Key) : Int := k.foldr (fun b a => l (b.toNat - 97) * a) 1
def cK (l : Nat → Int) (k : Key) : Int := k.foldr (fun b a => l (b.toNat - 97) + a) 0
theorem wK_append (l : Nat → Int) : ∀ p q : Key, wK l (p ++ q) = wK l p * wK l q
 | [], q => by simp [wK]
 | x :: p, q => by
  have := wK_append l p q
  unfold wK at *
  simp only [List.cons_append, List.foldr_cons]
  rw [this, Int.mul_assoc]
theorem cK_append (l : Nat → Int) : ∀ p q : Key, cK l (p ++ q) = cK l p + cK l q
 | [], q => by simp [cK]
 | x :: p, q => by
  have := cK_append l p q
  unfold cK at *
  simp only [List.cons_append, List.foldr_cons]
  omega
theorem wK_perm (l : Nat → Int) {p q : Key} (h : p.Perm q) : wK l p = wK l q := by
 induction h with
 | nil => rfl
 | cons x _ ih => unfold wK at *; simp only [List.foldr_cons]; rw [ih]
 | swap x y r => unfold wK; simp only [List.foldr_cons]; rw [Int.mul_left_comm]
 | trans _ _ a b => exact a.trans b
theorem cK_perm (l : Nat → Int) {p q : Key} (h : p.Perm q) : cK l p = cK l q := by
 induction h with
 | nil => rfl
 | cons x _ ih => unfold cK at *; simp only [List.foldr_cons]; rw [ih]
 | swap x y r => unfold cK; simp only [List.foldr_cons]; omega
 | trans _ _ a b => exact a.trans b
theorem wK_mx (l : Nat → Int) (p q : Key) : wK l (mx p q) = wK l p * wK l q := by rw [wK_perm l (mx_perm p q), wK_append]
theorem cK_mx (l : Nat → Int) (p q : Key) : cK l (mx p q) = cK l p + cK l q := by rw [cK_perm l (mx_perm p q), cK_append]
theorem key_take {s : ByteArray} {k : Nat} (h : k < s.size) : ∃ b : UInt8, b.toNat = bt s k ∧ s.data.toList.take (k + 1) = s.data.toList.take k ++ [b] := by
 obtain ⟨hl, e⟩ := bt_key h
 exact ⟨_, e.symm, by rw [List.take_succ_eq_append_getElem hl]⟩
theorem prd_take (l : Nat → Int) (s : ByteArray) (m : Int) : ∀ k, k ≤ s.size → prd l s m k = m * wK l (s.data.toList.take k)
 | 0, _ => by simp [prd, wK]
 | k + 1, h => by
  obtain ⟨b, eb, et⟩ := key_take (show k < s.size by omega)
  show prd l s m k * l (bt s k - 97) = _
  rw [prd_take l s m k (by omega), et, wK_append, ← eb, ← Int.mul_assoc]
  congr 1
  simp [wK]
theorem csm_take (l : Nat → Int) (s : ByteArray) : ∀ k, k ≤ s.size → csm l s k = cK l (s.data.toList.take k)
 | 0, _ => by simp [csm, cK]
 | k + 1, h => by
  obtain ⟨b, eb, et⟩ := key_take (show k < s.size by omega)
  show csm l s k + l (bt s k - 97) = _
  rw [csm_take l s k (by omega), et, cK_append, ← eb]
  congr 1
  simp [cK]
theorem key_all (s : ByteArray) : s.data.toList.take s.size = s.data.toList := List.take_of_length_le (by rw [size_key]; omega)
theorem vlS_tot (l : Nat → Int) (f : Nat → ByteArray) (g : Nat → Int) : ∀ n, vlS l f g n = tot (wK l) (ofS f g n)
 | 0 => rfl
 | n + 1 => by
  show vlS l f g n + prd l (f n) (g n) (f n).size = _
  rw [vlS_tot l f g n, ofS_succ, tot_append, prd_take l _ _ _ (Nat.le_refl _), key_all]
  simp [tot]
theorem csP_key (l : Nat → Int) (f : Nat → ByteArray) (i : Nat) : csP l f i = cK l (f i).data.toList := by
 unfold csP
 rw [csm_take l _ _ (Nat.le_refl _), key_all]
theorem value_plus (l : Nat → Int) (s t : SL) : tot (wK l) (plusL s t) = tot (wK l) s + tot (wK l) t := tot_plus _ _ _
theorem value_times (l : Nat → Int) (s t : SL) : tot (wK l) (timesL s t) = tot (wK l) s * tot (wK l) t := by
 rw [tot_times]
 have : ∀ p : Key, tot (fun q => wK l (mx p q)) t = tot (wK l) t * wK l p := fun p => by
  rw [tot_congr (ψ := fun q => wK l p * wK l q) (fun x _ => wK_mx l p x.1), tot_mul, Int.mul_comm]
 rw [tot_congr (ψ := fun p => tot (wK l) t * wK l p) (fun x _ => this x.1), tot_mul, Int.mul_comm]
def isMn (φ : Key → Int) (L : SL) (m : Int) : Prop := (∃ k, hasK k L ∧ φ k = m) ∧ ∀ k, hasK k L → m ≤ φ k
theorem isMn.uniq {φ : Key → Int} {L : SL} {m m' : Int} (h : isMn φ L m) (h' : isMn φ L m') : m = m' := by
 obtain ⟨⟨k, hk, e⟩, hl⟩ := h
 obtain ⟨⟨k', hk', e'⟩, hl'⟩ := h'
 have := hl k' hk'
 have := hl' k hk
 omega
theorem mnR_is (c : Nat → Int) : ∀ n, 0 < n → (∃ i, i < n ∧ c i = mnR c n) ∧ ∀ i, i < n → mnR c n ≤ c i
 | n + 1, _ => by
  show (∃ i, i < n + 1 ∧ c i = if n = 0 ∨ c n < mnR c n then c n else mnR c n) ∧ ∀ i, i < n + 1 → (if n = 0 ∨ c n < mnR c n then c n else mnR c n) ≤ c i
  by_cases h : n = 0 ∨ c n < mnR c n
  ·rw [if_pos h]
   refine ⟨⟨n, by omega, rfl⟩, fun i hi => ?_⟩
   by_cases e : i = n
   ·rw [e]; exact Int.le_refl _
   rcases h with h | h
   ·omega
   have := (mnR_is c n (by omega)).2 i (by omega)
   omega
  rw [if_neg h]
  obtain ⟨⟨i, hi, e⟩, hl⟩ := mnR_is c n (by omega)
  refine ⟨⟨i, by omega, e⟩, fun j hj => ?_⟩
  by_cases ej : j = n
  ·subst ej; omega
  exact hl j (by omega)
theorem cost_is (l : Nat → Int) (f : Nat → ByteArray) (g : Nat → Int) {n : Nat} (hn : 0 < n) : isMn (cK l) (ofS f g n) (mnR (csP l f) n) := by
 obtain ⟨⟨i, hi, e⟩, hl⟩ := mnR_is (csP l f) n hn
 refine ⟨⟨(f i).data.toList, ⟨_, ofS_mem.2 ⟨i, hi, rfl⟩, rfl⟩, by rw [← csP_key, e]⟩, ?_⟩
 rintro k ⟨x, hx, rfl⟩
 obtain ⟨j, hj, rfl⟩ := ofS_mem.1 hx
 rw [← csP_key]
 exact hl j hj
theorem isMn.plus {φ : Key → Int} {s t : SL} {c d : Int} (ht : Pos t) (hc : isMn φ s c) (hd : isMn φ t d) : isMn φ (plusL s t) (min c d) := by
 obtain ⟨⟨k, hk, e⟩, hl⟩ := hc
 obtain ⟨⟨k', hk', e'⟩, hl'⟩ := hd
 refine ⟨?_, fun x hx => ?_⟩
 ·by_cases h : c ≤ d
  ·exact ⟨k, (hasK_plus ht).2 (.inl hk), by omega⟩
  exact ⟨k', (hasK_plus ht).2 (.inr hk'), by omega⟩
 rcases (hasK_plus ht).1 hx with h | h
 ·have := hl x h; omega
 have := hl' x h; omega
theorem isMn.times {l : Nat → Int} {s t : SL} {c d : Int} (hs : Pos s) (ht : Pos t) (hc : isMn (cK l) s c) (hd : isMn (cK l) t d) : isMn (cK l) (timesL s t) (c + d) := by
 obtain ⟨⟨k, hk, e⟩, hl⟩ := hc
 obtain ⟨⟨k', hk', e'⟩, hl'⟩ := hd
 refine ⟨⟨mx k k', (hasK_times hs ht).2 ⟨k, k', hk, hk', rfl⟩, by rw [cK_mx]; omega⟩, fun x hx => ?_⟩
 obtain ⟨p, q, hp, hq, rfl⟩ := (hasK_times hs ht).1 hx
 have := hl p hp
 have := hl' q hq
 rw [cK_mx]
 omega
theorem plus_nil_left {t : SL} (st : Srt t) (pt : Pos t) : plusL [] t = t := uniq (Srt.plus (by simp [Srt])) st (Pos.plus pt (by simp [Pos])) pt fun φ => by rw [tot_plus]; simp [tot]
theorem plus_nil (s : SL) : plusL s [] = s := rfl
end Go.Proofs.YtehdemcfeoiecaaGreatDoor
namespace Go.Firn.Tb
section
variable {D E : Type}
theorem map_getD {ι : D → E} (p : List (Tbl D)) (i : Nat) : (p.map (mapT ι)).getD i [] = mapT ι (p.getD i []) := by
 rw [List.getD_eq_getElem?_getD, List.getD_eq_getElem?_getD, List.getElem?_map]
 cases p[i]? <;> rfl
end
end Go.Firn.Tb
namespace Go.Proofs.YtehdemcfeoiecaaGreatDoor
open Go.Firn Go.Firn.Tb
def mulC (a b : Int) : Int := if MX / b < a then MX + 1 else a * b
def RgC : Rg Int := ⟨fun a b => min (a + b) (MX + 1), mulC, fun n => decide (0 < n), fun n => decide (n ≤ MX)⟩
theorem mulC_bd {a b : Int} (ha : 0 < a) (hb : 0 < b) : 0 < mulC a b ∧ mulC a b ≤ MX + 1 := by
 unfold mulC
 split
 ·unfold MX; omega
 rename_i h
 have h1 : a ≤ MX / b := by omega
 have h2 : a * b ≤ MX / b * b := Int.mul_le_mul_of_nonneg_right h1 (by omega)
 have h3 : MX / b * b ≤ MX := Int.ediv_mul_le _ (by omega)
 exact ⟨Int.mul_pos ha hb, by omega⟩
theorem lawC : RgL RgC GC where
 gadd := fun a b ha hb => by
  unfold GC at *
  show 0 ≤ min (a + b) (MX + 1) ∧ min (a + b) (MX + 1) ≤ MX + 1
  unfold MX at *
  omega
 gmul := fun a b ha hb sa sb _ _ => by
  have sa' : 0 < a := by simpa [RgC] using sa
  have sb' : 0 < b := by simpa [RgC] using sb
  have := mulC_bd sa' sb'
  exact ⟨Int.le_of_lt this.1, this.2⟩
 sadd := fun a b ha hb sa sb => by
  have sa' : 0 < a := by simpa [RgC] using sa
  have sb' : 0 < b := by simpa [RgC] using sb
  show decide (0 < min (a + b) (MX + 1)) = true
  rw [decide_eq_true_eq]
  unfold MX
  omega
 smul := fun a b ha hb sa sb _ _ => by
  have sa' : 0 < a := by simpa [RgC] using sa
  have sb' : 0 < b := by simpa [RgC] using sb
  show decide (0 < mulC a b) = true
  rw [decide_eq_true_eq]
  exact (mulC_bd sa' sb').1
def RgK : Rg Int := ⟨fun a b => min a b, fun a b => a + b, fun _ => true, fun n => decide (n ≤ MX)⟩
theorem lawK : RgL RgK GK where
 gadd := fun a b ha hb => by
  unfold GK at *
  show 0 ≤ min a b ∧ min a b ≤ 2 * MX
  unfold MX at *
  omega
 gmul := fun a b ha hb _ _ fa fb => by
  have fa' : a ≤ MX := by simpa [RgK] using fa
  have fb' : b ≤ MX := by simpa [RgK] using fb
  unfold GK at *
  show 0 ≤ a + b ∧ a + b ≤ 2 * MX
  unfold MX at *
  omega
 sadd := fun _ _ _ _ _ _ => rfl
 smul := fun _ _ _ _ _ _ _ _ => rfl
end Go.Proofs.YtehdemcfeoiecaaGreatDoor
namespace Go.Firn.Tb
section
variable {D E : Type}
structure RedR (R : Rg D) (S : Rg E) (φ : D → E) (G : D → Prop) : Prop where
 add : ∀ a b, G a → G b → S.add (φ a) (φ b) = φ (R.add a b)
 mul : ∀ a b, G a → G b → R.stays a = true → R.stays b = true → R.fits a = true → R.fits b = true → S.stays (φ a) = true → S.stays (φ b) = true → S.fits (φ a) = true → S.fits (φ b) = true → S.mul (φ a) (φ b) = φ (R.mul a b)
 smul : ∀ a b, G a → G b → R.stays a = true → R.stays b = true → R.fits a = true → R.fits b = true → S.stays (φ (R.mul a b)) = (S.stays (φ a) && S.stays (φ b))
 zl : ∀ a b, G a → G b → S.stays (φ a) = false → φ (R.add a b) = φ b
 zr : ∀ a b, G a → G b → S.stays (φ b) = false → φ (R.add a b) = φ a
 nz : ∀ a b, G a → G b → S.stays (φ a) = true → S.stays (φ (R.add a b)) = true
 z0 : ∀ a, G a → R.stays a = false → S.stays (φ a) = false
def red (S : Rg E) (φ : D → E) (T : Tbl D) : Tbl E := (mapT φ T).filter fun x => S.stays x.2
theorem red_cons (S : Rg E) (φ : D → E) (x : List Int × D) (r : Tbl D) : red S φ (x :: r) = if S.stays (φ x.2) = true then (x.1, φ x.2) :: red S φ r else red S φ r := by
 unfold red mapT
 rw [List.map_cons, List.filter_cons]
theorem red_app (S : Rg E) (φ : D → E) (A B : Tbl D) : red S φ (A ++ B) = red S φ A ++ red S φ B := by simp [red, mapT]
theorem red_mem {S : Rg E} {φ : D → E} {T : Tbl D} {y : List Int × E} (h : y ∈ red S φ T) : ∃ x ∈ T, y = (x.1, φ x.2) ∧ S.stays (φ x.2) = true := by
 obtain ⟨h1, h2⟩ := List.mem_filter.1 h
 obtain ⟨x, hx, rfl⟩ := List.mem_map.1 h1
 exact ⟨x, hx, rfl, h2⟩
theorem plc_first (add : E → E → E) {T : Tbl E} {v : List Int} {d : E} (h : ∀ x ∈ T, v < x.1) : plc add T v d = (v, d) :: T := by
 cases T with
 | nil => rfl
 | cons x r =>
  have := h x List.mem_cons_self
  show (if x.1 < v then _ else if x.1 = v then _ else (v, d) :: x :: r) = _
  rw [if_neg (List.lt_asymm this), if_neg (fun e => List.lt_irrefl v (by rw [e] at this; exact this))]
theorem plc_cons (add : D → D → D) (x : List Int × D) (r : Tbl D) (v : List Int) (d : D) : plc add (x :: r) v d = if x.1 < v then x :: plc add r v d else if x.1 = v then (x.1, add x.2 d) :: r else (v, d) :: x :: r := rfl
theorem red_plc {R : Rg D} {S : Rg E} {φ : D → E} {G : D → Prop} (h : RedR R S φ G) (v : List Int) (d : D) (hd : G d) : ∀ (T : Tbl D), SrT T → (∀ x ∈ T, G x.2) →
  red S φ (plc R.add T v d) = if S.stays (φ d) = true then plc S.add (red S φ T) v (φ d) else red S φ T
 | [], _, _ => by
  show red S φ [(v, d)] = _
  rw [red_cons]
  rfl
 | x :: r, hs, hg => by
  have hs' := (List.pairwise_cons.1 hs)
  have ih := red_plc h v d hd r hs'.2 fun y hy => hg y (List.mem_cons_of_mem x hy)
  have hx := hg x List.mem_cons_self
  rw [plc_cons R.add]
  split
  ·rename_i hlt
   rw [red_cons, red_cons, ih]
   by_cases hd' : S.stays (φ d) = true
   ·rw [if_pos hd', if_pos hd']
    by_cases hx' : S.stays (φ x.2) = true
    ·rw [if_pos hx', if_pos hx']
     rw [plc_cons S.add, if_pos hlt]
    rw [if_neg hx', if_neg hx']
   rw [if_neg hd', if_neg hd']
  rename_i hlt
  split
  ·rename_i he
   rw [red_cons, red_cons]
   by_cases hd' : S.stays (φ d) = true
   ·rw [if_pos hd']
    by_cases hx' : S.stays (φ x.2) = true
    ·rw [if_pos hx', if_pos (h.nz _ _ hx hd hx')]
     rw [plc_cons S.add, if_neg hlt, if_pos he, h.add _ _ hx hd]
    rw [if_neg hx', h.zl _ _ hx hd (by simpa using hx'), if_pos hd']
    rw [plc_first S.add (T := red S φ r) (v := v) (d := φ d) (fun y hy => by
     obtain ⟨z, hz, rfl, _⟩ := red_mem hy
     rw [← he]
     exact hs'.1 z hz), he]
   rw [if_neg hd', h.zr _ _ hx hd (by simpa using hd')]
  rename_i he
  rw [red_cons]
  by_cases hd' : S.stays (φ d) = true
  ·rw [if_pos hd', if_pos hd']
   rw [plc_first S.add (fun y hy => by
    obtain ⟨z, hz, rfl, _⟩ := red_mem hy
    have hvx := tri hlt he
    rcases List.mem_cons.1 hz with rfl | hz
    ·exact hvx
    exact List.lt_trans hvx (hs'.1 z hz))]
  rw [if_neg hd', if_neg hd']
theorem red_gat {R : Rg D} {S : Rg E} {φ : D → E} {G : D → Prop} (h : RedR R S φ G) (hadd : ∀ a b, G a → G b → G (R.add a b)) (L : Tbl D) : (∀ x ∈ L, G x.2) → red S φ (gat R.add L) = gat S.add (red S φ L) := by
 refine snoc_ind (p := fun L => (∀ x ∈ L, G x.2) → red S φ (gat R.add L) = gat S.add (red S φ L)) (fun _ => rfl) (fun L x ih hg => ?_) L
 have hg' : ∀ y ∈ L, G y.2 := fun y hy => hg y (List.mem_append_left _ hy)
 rw [gat_snoc, red_plc h _ _ (hg x (by simp)) _ (gat_srt _ _) (gat_all R.add hadd L hg'), ih hg', red_app, red_cons]
 split
 ·rw [show red S φ ([] : Tbl D) = [] from rfl, gat_snoc]
 rw [show red S φ ([] : Tbl D) = [] from rfl, List.append_nil]
theorem red_stay {R : Rg D} {S : Rg E} {φ : D → E} {G : D → Prop} (h : RedR R S φ G) : ∀ {T : Tbl D}, (∀ x ∈ T, G x.2) → red S φ (T.filter fun x => R.stays x.2) = red S φ T
 | [], _ => rfl
 | x :: r, hg => by
  have ih := red_stay h fun y hy => hg y (List.mem_cons_of_mem x hy)
  rw [List.filter_cons, red_cons]
  split
  ·rw [red_cons, ih]
  rename_i hx
  rw [if_neg (by rw [h.z0 _ (hg x List.mem_cons_self) (by simpa using hx)]; simp), ih]
theorem red_self (S : Rg E) (φ : D → E) (T : Tbl D) : ((red S φ T).filter fun x => S.stays x.2) = red S φ T := by
 unfold red
 rw [List.filter_filter]
 simp
theorem red_gath {R : Rg D} {S : Rg E} {φ : D → E} {G : D → Prop} (h : RedR R S φ G) (hadd : ∀ a b, G a → G b → G (R.add a b)) {L : Tbl D} (hg : ∀ x ∈ L, G x.2) : gath S (red S φ L) = red S φ (gath R L) := by
 unfold gath
 rw [← red_gat h hadd L hg, red_self, red_stay h (gat_all R.add hadd L hg)]
theorem map_srt {φ : D → E} {T : Tbl D} (h : SrT T) : SrT (mapT φ T) := by
 unfold mapT SrT
 rw [List.pairwise_map]
 exact h
theorem put_gath {R : Rg D} {S : Rg E} {φ : D → E} {G : D → Prop} (h : RedR R S φ G) {T : Tbl D} (hs : SrT T) (hg : ∀ x ∈ T, G x.2) : gath S (mapT φ T) = red S φ (gath R T) := by
 rw [gath_id S (map_srt hs), gath_id R hs, red_stay h hg]
 rfl
theorem red_filter {S : Rg E} {φ : D → E} (q : List Int → Bool) : ∀ (T : Tbl D), (red S φ T).filter (fun x => q x.1) = red S φ (T.filter fun x => q x.1)
 | [] => rfl
 | x :: r => by
  have ih := red_filter (S := S) (φ := φ) q r
  rw [red_cons, List.filter_cons]
  by_cases hx : S.stays (φ x.2) = true
  ·rw [if_pos hx, List.filter_cons]
   dsimp only
   split
   ·rw [red_cons, if_pos hx, ih]
   exact ih
  rw [if_neg hx]
  split
  ·rw [red_cons, if_neg hx, ih]
  exact ih
theorem red_cols {S : Rg E} {φ : D → E} (f : List Int → List Int) : ∀ (T : Tbl D), (red S φ T).map (fun x => (f x.1, x.2)) = red S φ (T.map fun x => (f x.1, x.2))
 | [] => rfl
 | x :: r => by
  have ih := red_cols (S := S) (φ := φ) f r
  rw [red_cons, List.map_cons, red_cons]
  split
  ·rw [List.map_cons, ih]
  exact ih
theorem red_nil {S : Rg E} {φ : D → E} : red S φ ([] : Tbl D) = [] := rfl
theorem red_getD {S : Rg E} {φ : D → E} (p : List (Tbl D)) (i : Nat) : (p.map (red S φ)).getD i [] = red S φ (p.getD i []) := by
 rw [List.getD_eq_getElem?_getD, List.getD_eq_getElem?_getD, List.getElem?_map]
 cases p[i]? <;> rfl
structure JG (R : Rg D) (S : Rg E) (φ : D → E) (G : D → Prop) (T : Tbl D) : Prop where
 g : ∀ x ∈ T, G x.2 ∧ R.stays x.2 = true ∧ R.fits x.2 = true
 f : ∀ x ∈ T, S.stays (φ x.2) = true → S.fits (φ x.2) = true
theorem red_join1 {R : Rg D} {S : Rg E} {φ : D → E} {G : D → Prop} (h : RedR R S φ G) {x : List Int × D} (hx : G x.2 ∧ R.stays x.2 = true ∧ R.fits x.2 = true) (hf : S.stays (φ x.2) = true → S.fits (φ x.2) = true) : ∀ {v : Tbl D}, JG R S φ G v →
  red S φ (join1 R.mul x v) = if S.stays (φ x.2) = true then join1 S.mul (x.1, φ x.2) (red S φ v) else []
 | [], _ => by simp [join1, red_nil]
 | y :: r, hv => by
  have ih := red_join1 h hx hf (v := r) ⟨fun z hz => hv.g z (List.mem_cons_of_mem y hz), fun z hz => hv.f z (List.mem_cons_of_mem y hz)⟩
  have hy := hv.g y List.mem_cons_self
  have hyf := hv.f y List.mem_cons_self
  unfold join1 at ih ⊢
  rw [List.filter_cons]
  by_cases he : x.1.getD 0 0 = y.1.getD 0 0
  ·rw [if_pos (by simpa using he), List.map_cons, red_cons, ih, h.smul _ _ hx.1 hy.1 hx.2.1 hy.2.1 hx.2.2 hy.2.2, red_cons]
   by_cases h1 : S.stays (φ x.2) = true
   ·rw [if_pos h1, if_pos h1, h1, Bool.true_and]
    by_cases h2 : S.stays (φ y.2) = true
    ·rw [if_pos h2, if_pos h2, List.filter_cons, if_pos (by simpa using he), List.map_cons]
     dsimp only
     rw [h.mul _ _ hx.1 hy.1 hx.2.1 hy.2.1 hx.2.2 hy.2.2 h1 h2 (hf h1) (hyf h2)]
    rw [if_neg h2, if_neg h2]
   rw [if_neg h1, if_neg h1, if_neg (by simp [h1])]
  rw [if_neg (by simpa using he), ih, red_cons]
  by_cases h1 : S.stays (φ x.2) = true
  ·rw [if_pos h1, if_pos h1]
   split
   ·rw [List.filter_cons, if_neg (by simpa using he)]
   rfl
  rw [if_neg h1, if_neg h1]
theorem red_join {R : Rg D} {S : Rg E} {φ : D → E} {G : D → Prop} (h : RedR R S φ G) {v : Tbl D} (hv : JG R S φ G v) : ∀ {u : Tbl D}, JG R S φ G u → joinL S.mul (red S φ u) (red S φ v) = red S φ (joinL R.mul u v)
 | [], _ => rfl
 | x :: r, hu => by
  have ih := red_join h hv (u := r) ⟨fun z hz => hu.g z (List.mem_cons_of_mem x hz), fun z hz => hu.f z (List.mem_cons_of_mem x hz)⟩
  have e : joinL R.mul (x :: r) v = join1 R.mul x v ++ joinL R.mul r v := rfl
  rw [e, red_app, red_join1 h (hu.g x List.mem_cons_self) (hu.f x List.mem_cons_self) hv, red_cons, ← ih]
  split
  ·rfl
  rfl
theorem red_step {R : Rg D} {S : Rg E} {φ : D → E} {G : D → Prop} {ws pw qw : List Int} {tabs p : List (Tbl D)} {w : Wd} (h : RedR R S φ G) (hL : RgL R G) (hg : GI G ws tabs) (hp : PI R G pw p) (hf : ∀ T ∈ p, ∀ x ∈ T, S.stays (φ x.2) = true → S.fits (φ x.2) = true) (hw : widW ws w pw = some qw) :
  gath S (rowsW S.mul (tabs.map (mapT φ)) w (p.map (red S φ))) = red S φ (gath R (rowsW R.mul tabs w p)) := by
 obtain ⟨W, _, htk, hri, _⟩ := rows_RI hL hg hp hw
 have l1 := hp.1
 have jg : ∀ i, i < p.length → JG R S φ G (p.getD i []) := fun i hi => by
  have k := hp.2 i (by omega)
  refine ⟨fun x hx => ⟨k.gd x hx, k.st x hx, (okT_le k.ok).2 x hx⟩, hf _ ?_⟩
  rw [List.getD_eq_getElem?_getD, List.getElem?_eq_getElem hi]
  exact List.getElem_mem hi
 cases w with
 | put n =>
  have hn : n < ws.length := by
   unfold widW at hw
   simp only [] at hw
   split at hw
   ·assumption
   cases hw
  have k := hg.2 n hn
  show gath S ((tabs.map (mapT φ)).getD n []) = _
  rw [map_getD]
  exact put_gath h k.srt k.gd
 | orr =>
  rw [← red_gath h hL.gadd hri.gd]
  congr 1
  show (p.map (red S φ)).getD ((p.map (red S φ)).length - 2) [] ++ (p.map (red S φ)).getD ((p.map (red S φ)).length - 1) [] = red S φ (p.getD (p.length - 2) [] ++ p.getD (p.length - 1) [])
  rw [red_getD, red_getD, List.length_map, red_app]
 | byy =>
  have h2 : 2 ≤ pw.length := htk
  rw [← red_gath h hL.gadd hri.gd]
  congr 1
  show joinL S.mul ((p.map (red S φ)).getD ((p.map (red S φ)).length - 2) []) ((p.map (red S φ)).getD ((p.map (red S φ)).length - 1) []) = red S φ (joinL R.mul (p.getD (p.length - 2) []) (p.getD (p.length - 1) []))
  rw [red_getD, red_getD, List.length_map]
  exact red_join h (jg _ (by omega)) (jg _ (by omega))
 | drop n =>
  rw [← red_gath h hL.gadd hri.gd]
  congr 1
  show (((p.map (red S φ)).getD ((p.map (red S φ)).length - 1) []).filter fun x => keepsW (.drop n) x.1).map (fun x => (colsW (.drop n) x.1, x.2)) = red S φ (((p.getD (p.length - 1) []).filter fun x => keepsW (.drop n) x.1).map fun x => (colsW (.drop n) x.1, x.2))
  rw [red_getD, List.length_map, red_filter (fun v => keepsW (.drop n) v), red_cols (fun v => colsW (.drop n) v)]
 | pick n m =>
  rw [← red_gath h hL.gadd hri.gd]
  congr 1
  show (((p.map (red S φ)).getD ((p.map (red S φ)).length - 1) []).filter fun x => keepsW (.pick n m) x.1).map (fun x => (colsW (.pick n m) x.1, x.2)) = red S φ (((p.getD (p.length - 1) []).filter fun x => keepsW (.pick n m) x.1).map fun x => (colsW (.pick n m) x.1, x.2))
  rw [red_getD, List.length_map, red_filter (fun v => keepsW (.pick n m) v), red_cols (fun v => colsW (.pick n m) v)]
 | same n m =>
  rw [← red_gath h hL.gadd hri.gd]
  congr 1
  show (((p.map (red S φ)).getD ((p.map (red S φ)).length - 1) []).filter fun x => keepsW (.same n m) x.1).map (fun x => (colsW (.same n m) x.1, x.2)) = red S φ (((p.getD (p.length - 1) []).filter fun x => keepsW (.same n m) x.1).map fun x => (colsW (.same n m) x.1, x.2))
  rw [red_getD, List.length_map, red_filter (fun v => keepsW (.same n m) v), red_cols (fun v => colsW (.same n m) v)]
theorem red_runs {R : Rg D} {S : Rg E} {φ : D → E} {G : D → Prop} {ws : List Int} {tabs : List (Tbl D)} (h : RedR R S φ G) (hL : RgL R G) (hg : GI G ws tabs) (hfit : ∀ a, G a → R.fits a = true → S.stays (φ a) = true → S.fits (φ a) = true) : ∀ (l : List Wd) {pw qw : List Int} {p q : List (Tbl D)}, PI R G pw p → planW ws l pw = some qw → Tb.runT R tabs l p = some q →
  Tb.runT S (tabs.map (mapT φ)) l (p.map (red S φ)) = some (q.map (red S φ))
 | [], pw, qw, p, q, hp, hw, hr => by
  simp only [Tb.runT, Option.some.injEq] at hr
  subst hr
  rfl
 | w :: r, pw, qw, p, q, hp, hw, hr => by
  unfold planW at hw
  split at hw
  ·cases hw
  rename_i p' hp'
  have hf : ∀ T ∈ p, ∀ x ∈ T, S.stays (φ x.2) = true → S.fits (φ x.2) = true := fun T hT x hx => by
   obtain ⟨i, hi, rfl⟩ := List.getElem_of_mem hT
   have k := hp.2 i (by have := hp.1; omega)
   rw [List.getD_eq_getElem?_getD (l := p), List.getElem?_eq_getElem hi] at k
   exact hfit _ (k.gd x hx) ((okT_le k.ok).2 x hx)
  have hst := red_step h hL hg hp hf hp'
  have hri := (rows_RI hL hg hp hp').choose_spec.2.2.1
  unfold Tb.runT at hr ⊢
  split at hr
  ·rename_i ho
   rw [hst]
   have hs : okT S (red S φ (gath R (rowsW R.mul tabs w p))) = true := by
    obtain ⟨o1, o2⟩ := okT_le ho
    unfold okT
    rw [Bool.and_eq_true, decide_eq_true_eq, List.all_eq_true]
    refine ⟨Nat.le_trans (List.length_filter_le _ _) (by unfold mapT; rw [List.length_map]; exact o1), fun y hy => ?_⟩
    obtain ⟨x, hx, rfl, hx'⟩ := red_mem hy
    exact hfit _ (gath_all R hL.gadd hri.gd x hx) (o2 x hx) hx'
   rw [if_pos hs]
   have := red_runs h hL hg hfit r (step_PI hL hg hp hp' ho) hw hr
   rw [List.map_append] at this
   unfold restW at this ⊢
   rw [List.length_map, ← List.map_take]
   exact this
  cases hr
end
end Go.Firn.Tb
namespace Go.Proofs.YtehdemcfeoiecaaGreatDoor
open Go.Firn Go.Firn.Tb
def valQ (l : Nat → Int) (L : SL) : Int := vlS l (sx L) (sy L) L.length
theorem valQ_tot (l : Nat → Int) (L : SL) : valQ l L = tot (wK l) L := by unfold valQ; rw [vlS_tot, ofS_sx]
def cosQ (l : Nat → Int) (L : SL) : Int := mnR (csP l (sx L)) L.length
theorem cosQ_is (l : Nat → Int) {L : SL} (h : L ≠ []) : isMn (cK l) L (cosQ l L) := by
 have := cost_is l (sx L) (sy L) (n := L.length) (List.length_pos_iff.2 h)
 rwa [ofS_sx] at this
def Nm8 (l : Nat → Int) (B : Int) : Prop := ∀ i, i < 8 → 0 ≤ l i ∧ l i ≤ B
theorem wK_pos {l : Nat → Int} (hl : ∀ i, i < 8 → 0 ≤ l i) : ∀ {k : Key}, (∀ b ∈ k, 97 ≤ b.toNat ∧ b.toNat ≤ 104) → 0 ≤ wK l k
 | [], _ => by simp [wK]
 | b :: r, h => by
  have h1 := wK_pos hl (k := r) fun c hc => h c (List.mem_cons_of_mem b hc)
  have h2 := h b List.mem_cons_self
  show 0 ≤ l (b.toNat - 97) * wK l r
  exact Int.mul_nonneg (hl _ (by omega)) h1
theorem tot_pos {l : Nat → Int} (hl : ∀ i, i < 8 → 0 ≤ l i) : ∀ {L : SL}, Pos L → (∀ x ∈ L, tkL x.1) → 0 ≤ tot (wK l) L
 | [], _, _ => by simp [tot]
 | x :: r, hp, hk => by
  have h1 := tot_pos hl (L := r) (fun y hy => hp y (List.mem_cons_of_mem x hy)) fun y hy => hk y (List.mem_cons_of_mem x hy)
  have h2 := wK_pos hl (hk x List.mem_cons_self).1
  have h3 := hp x List.mem_cons_self
  have h4 : 0 ≤ x.2 * wK l x.1 := Int.mul_nonneg (by omega) h2
  show 0 ≤ x.2 * wK l x.1 + tot (wK l) r
  omega
theorem valQ_pos {l : Nat → Int} {B : Int} (hl : Nm8 l B) {L : SL} (h : VL L) : 0 ≤ valQ l L := by
 rw [valQ_tot]
 exact tot_pos (fun i hi => (hl i hi).1) h.2.1 h.2.2
def φC (l : Nat → Int) (L : SL) : Int := min (valQ l L) (MX + 1)
theorem mulC_min {x y : Int} (_ : 0 < x) (hy : 0 < y) : mulC x y = min (x * y) (MX + 1) := by
 unfold mulC
 by_cases h : MX / y < x
 ·rw [if_pos h]
  have : MX < x * y := Int.lt_mul_of_ediv_lt hy h
  unfold MX at *
  omega
 rw [if_neg h]
 have h1 : x ≤ MX / y := by omega
 have : x * y ≤ MX := by
  have h2 : x * y ≤ MX / y * y := Int.mul_le_mul_of_nonneg_right h1 (by omega)
  have h3 : MX / y * y ≤ MX := Int.ediv_mul_le _ (by omega)
  omega
 unfold MX at *
 omega
theorem redC {l : Nat → Int} {B : Int} (hl : Nm8 l B) : RedR RgS RgC (φC l) GS where
 add := fun a b ha hb => by
  have h1 := valQ_pos hl ha.1
  have h2 := valQ_pos hl hb.1
  show min (φC l a + φC l b) (MX + 1) = φC l (plusL a b)
  unfold φC
  rw [valQ_tot l (plusL a b), value_plus, ← valQ_tot, ← valQ_tot]
  unfold MX
  omega
 mul := fun a b ha hb _ _ _ _ sa sb fa fb => by
  have h1 : 0 < φC l a := by simpa [RgC] using sa
  have h2 : 0 < φC l b := by simpa [RgC] using sb
  have h3 : φC l a ≤ MX := by simpa [RgC] using fa
  have h4 : φC l b ≤ MX := by simpa [RgC] using fb
  have e1 : φC l a = valQ l a := by unfold φC at h3 ⊢; unfold MX at *; omega
  have e2 : φC l b = valQ l b := by unfold φC at h4 ⊢; unfold MX at *; omega
  show mulC (φC l a) (φC l b) = φC l (timesL a b)
  rw [mulC_min h1 h2, e1, e2]
  unfold φC
  rw [valQ_tot l (timesL a b), value_times, ← valQ_tot, ← valQ_tot]
 smul := fun a b ha hb _ _ _ _ => by
  have h1 := valQ_pos hl ha.1
  have h2 := valQ_pos hl hb.1
  show decide (0 < φC l (timesL a b)) = (decide (0 < φC l a) && decide (0 < φC l b))
  unfold φC
  rw [valQ_tot l (timesL a b), value_times, ← valQ_tot, ← valQ_tot, ← Bool.decide_and]
  refine decide_eq_decide.2 ?_
  constructor
  ·intro h
   have h3 : 0 < valQ l a * valQ l b := by unfold MX at h; omega
   have h4 : valQ l a ≠ 0 := fun e => by rw [e, Int.zero_mul] at h3; omega
   have h5 : valQ l b ≠ 0 := fun e => by rw [e, Int.mul_zero] at h3; omega
   unfold MX
   omega
  rintro ⟨h3, h4⟩
  have h5 : 0 < valQ l a := by unfold MX at *; omega
  have h6 : 0 < valQ l b := by unfold MX at *; omega
  have := Int.mul_pos h5 h6
  unfold MX
  omega
 zl := fun a b ha hb h => by
  have h1 := valQ_pos hl ha.1
  have h2 : ¬ 0 < φC l a := by simpa [RgC] using h
  have h3 : valQ l a = 0 := by unfold φC at h2; unfold MX at h2; omega
  show φC l (plusL a b) = φC l b
  unfold φC
  rw [valQ_tot l (plusL a b), value_plus, ← valQ_tot, ← valQ_tot, h3, Int.zero_add]
 zr := fun a b ha hb h => by
  have h1 := valQ_pos hl hb.1
  have h2 : ¬ 0 < φC l b := by simpa [RgC] using h
  have h3 : valQ l b = 0 := by unfold φC at h2; unfold MX at h2; omega
  show φC l (plusL a b) = φC l a
  unfold φC
  rw [valQ_tot l (plusL a b), value_plus, ← valQ_tot, ← valQ_tot, h3, Int.add_zero]
 nz := fun a b ha hb h => by
  have h1 := valQ_pos hl hb.1
  have h2 : 0 < φC l a := by simpa [RgC] using h
  show decide (0 < φC l (plusL a b)) = true
  rw [decide_eq_true_eq]
  unfold φC at h2 ⊢
  rw [valQ_tot l (plusL a b), value_plus, ← valQ_tot, ← valQ_tot]
  unfold MX at *
  omega
 z0 := fun a ha h => by
  have : a = [] := by simpa [RgS] using h
  exact absurd this ha.2.2
theorem cK_bd {l : Nat → Int} {B : Int} (hl : Nm8 l B) (hB : 0 ≤ B) : ∀ {k : Key}, (∀ b ∈ k, 97 ≤ b.toNat ∧ b.toNat ≤ 104) → 0 ≤ cK l k ∧ cK l k ≤ B * k.length
 | [], _ => by simp [cK]
 | b :: r, h => by
  have h1 := cK_bd hl hB (k := r) fun c hc => h c (List.mem_cons_of_mem b hc)
  have h2 := h b List.mem_cons_self
  have h3 := hl (b.toNat - 97) (by omega)
  show 0 ≤ l (b.toNat - 97) + cK l r ∧ l (b.toNat - 97) + cK l r ≤ B * ((r.length + 1 : Nat) : Int)
  rw [Int.natCast_add, Int.mul_add]
  omega
theorem cosQ_bd {l : Nat → Int} (hl : Nm8 l 1000) {L : SL} (h : VL L) (hne : L ≠ []) {N : Nat} (hN : ∀ x ∈ L, x.1.length ≤ N) : 0 ≤ cosQ l L ∧ cosQ l L ≤ 1000 * N := by
 obtain ⟨⟨k, ⟨x, hx, rfl⟩, e⟩, _⟩ := cosQ_is l hne
 have h1 := cK_bd hl (by decide) (h.2.2 x hx).1
 have h2 := hN x hx
 rw [← e]
 omega
theorem redK {l : Nat → Int} : RedR RgS RgK (cosQ l) GS where
 add := fun a b ha hb => by
  have hne : plusL a b ≠ [] := fun e => ha.2.2 ((plus_empty hb.1.2.1).1 e).1
  exact ((cosQ_is l ha.2.2).plus hb.1.2.1 (cosQ_is l hb.2.2)).uniq (cosQ_is l hne)
 mul := fun a b ha hb _ _ _ _ _ _ _ _ => by
  have hne : timesL a b ≠ [] := fun e => by
   rcases (times_empty ha.1.2.1 hb.1.2.1).1 e with e | e
   ·exact ha.2.2 e
   exact hb.2.2 e
  exact ((cosQ_is l ha.2.2).times ha.1.2.1 hb.1.2.1 (cosQ_is l hb.2.2)).uniq (cosQ_is l hne)
 smul := fun _ _ _ _ _ _ _ _ => rfl
 zl := fun _ _ _ _ h => by cases h
 zr := fun _ _ _ _ h => by cases h
 nz := fun _ _ _ _ _ => rfl
 z0 := fun a ha h => by
  have : a = [] := by simpa [RgS] using h
  exact absurd this ha.2.2
theorem fitK {l : Nat → Int} (hl : Nm8 l 1000) (a : SL) (ha : GS a) (h : RgS.fits a = true) : RgK.fits (cosQ l a) = true := by
 have h1 : overL a = false := by simpa [RgS] using h
 have := cosQ_bd hl ha.1 ha.2.2 (N := 12) fun x hx => ((over_iff.1 h1).1 x hx).2
 show decide (cosQ l a ≤ MX) = true
 rw [decide_eq_true_eq]
 unfold MX
 omega
def sprL (c : UInt8) (L : SL) : SL := L.filter fun x => !x.1.contains c
theorem sprL_cons (c : UInt8) (x : Key × Int) (r : SL) : sprL c (x :: r) = if x.1.contains c = true then sprL c r else x :: sprL c r := by
 unfold sprL
 rw [List.filter_cons]
 cases x.1.contains c <;> simp
def offK (c : UInt8) (φ : Key → Int) (k : Key) : Int := if k.contains c = true then 0 else φ k
theorem tot_spr (c : UInt8) (φ : Key → Int) : ∀ L : SL, tot φ (sprL c L) = tot (offK c φ) L
 | [] => rfl
 | x :: r => by
  have ih := tot_spr c φ r
  rw [sprL_cons]
  show _ = x.2 * offK c φ x.1 + tot (offK c φ) r
  unfold offK at ih ⊢
  split
  ·rw [ih]; simp
  show x.2 * φ x.1 + tot φ (sprL c r) = _
  rw [ih]
theorem VL.spr {c : UInt8} {L : SL} (h : VL L) : VL (sprL c L) := ⟨h.1.filter _, fun x hx => h.2.1 x (List.mem_filter.1 hx).1, fun x hx => h.2.2 x (List.mem_filter.1 hx).1⟩
theorem mx_has {c : UInt8} {p q : Key} : (mx p q).contains c = (p.contains c || q.contains c) := by
 rw [Bool.eq_iff_iff, Bool.or_eq_true]
 simp only [List.contains_iff_mem]
 exact mx_mem
theorem spr_plus {c : UInt8} {a b : SL} (ha : VL a) (hb : VL b) : plusL (sprL c a) (sprL c b) = sprL c (plusL a b) :=
 uniq ((VL.spr ha).plus (VL.spr hb)).1 (VL.spr (ha.plus hb)).1 ((VL.spr ha).plus (VL.spr hb)).2.1 (VL.spr (ha.plus hb)).2.1 fun φ => by
  rw [tot_plus, tot_spr, tot_spr, tot_spr, tot_plus]
theorem spr_times {c : UInt8} {a b : SL} (ha : VL a) (hb : VL b) : timesL (sprL c a) (sprL c b) = sprL c (timesL a b) :=
 uniq ((VL.spr ha).times (VL.spr hb)).1 (VL.spr (ha.times hb)).1 ((VL.spr ha).times (VL.spr hb)).2.1 (VL.spr (ha.times hb)).2.1 fun φ => by
  rw [tot_times, tot_spr, tot_spr, tot_times]
  refine tot_congr fun x _ => ?_
  show offK c (fun p => tot (fun q => φ (mx p q)) (sprL c b)) x.1 = tot (fun q => offK c φ (mx x.1 q)) b
  by_cases h : x.1.contains c = true
  ·have e : offK c (fun p => tot (fun q => φ (mx p q)) (sprL c b)) x.1 = 0 := by unfold offK; rw [if_pos h]
   rw [e]
   refine (tot_zero b).symm.trans (tot_congr fun y _ => ?_)
   unfold offK
   rw [if_pos (by rw [mx_has, h]; rfl)]
  have e : offK c (fun p => tot (fun q => φ (mx p q)) (sprL c b)) x.1 = tot (fun q => φ (mx x.1 q)) (sprL c b) := by unfold offK; rw [if_neg h]
  rw [e, tot_spr]
  refine tot_congr fun y _ => ?_
  unfold offK
  rw [mx_has]
  simp only [Bool.not_eq_true] at h
  rw [h, Bool.false_or]
theorem spr_over {c : UInt8} {L : SL} (h : overL L = false) : overL (sprL c L) = false := by
 obtain ⟨h1, h2⟩ := over_iff.1 h
 exact over_iff.2 ⟨fun x hx => h1 x (List.mem_filter.1 hx).1, Nat.le_trans (List.length_filter_le _ _) h2⟩
theorem redP (c : UInt8) : RedR RgS RgS (sprL c) GS where
 add := fun a b ha hb => spr_plus ha.1 hb.1
 mul := fun a b ha hb _ _ _ _ _ _ _ _ => spr_times ha.1 hb.1
 smul := fun a b ha hb _ _ _ _ => by
  show decide (sprL c (timesL a b) ≠ []) = (decide (sprL c a ≠ []) && decide (sprL c b ≠ []))
  rw [← spr_times ha.1 hb.1, ← Bool.decide_and]
  refine decide_eq_decide.2 ?_
  rw [ne_eq, times_empty (VL.spr ha.1).2.1 (VL.spr hb.1).2.1, not_or]
 zl := fun a b ha hb h => by
  have h1 : sprL c a = [] := by simpa [RgS] using h
  show sprL c (plusL a b) = sprL c b
  rw [← spr_plus ha.1 hb.1, h1, plus_nil_left (VL.spr hb.1).1 (VL.spr hb.1).2.1]
 zr := fun a b ha hb h => by
  have h1 : sprL c b = [] := by simpa [RgS] using h
  show sprL c (plusL a b) = sprL c a
  rw [← spr_plus ha.1 hb.1, h1, plus_nil]
 nz := fun a b ha hb h => by
  have h1 : sprL c a ≠ [] := by simpa [RgS] using h
  show decide (sprL c (plusL a b) ≠ []) = true
  rw [decide_eq_true_eq, ← spr_plus ha.1 hb.1]
  exact fun e => h1 ((plus_empty (VL.spr hb.1).2.1).1 e).1
 z0 := fun a ha h => by
  have : a = [] := by simpa [RgS] using h
  exact absurd this ha.2.2
theorem fitP (c : UInt8) (a : SL) (_ : GS a) (h : RgS.fits a = true) : RgS.fits (sprL c a) = true := by
 have h1 : overL a = false := by simpa [RgS] using h
 show (!overL (sprL c a)) = true
 rw [spr_over h1]
 rfl
end Go.Proofs.YtehdemcfeoiecaaGreatDoor
/-
 DERIVED: THE SHELF's CONTRACTS AT THIS DUMP, IN PLAIN WORDS (tools/lay-plain.mjs out of 'YtehdemcfeoiecaaGreatDoorShelf.lean', which tools/lay-shelf.mjs wrote): THE SAME DECLARATIONS UNDER THE SAME NAMES: 'import', 'namespace', 'open', 'def', 'theorem' AND NOTHING ELSE: no command of the shelf's: FOR A HAND-IN. Each laying: the table of numbers ('.._ren') and one theorem, a field a fact of the dump's own or the kernel's comparison; each contract: ONE APPLICATION.
-/
namespace Go.Proofs
open Go.Shelf
def Tryz.grow130_ren : Go.Shelf.Ren := ⟨fun | 4 => 130 | n => n, fun | 22 => 65 | 25 => 98 | 3 => 3 | 4 => 4 | 9 => 9 | 20 => 20 | 0 => 0 | n => n, fun | n => n⟩
theorem Tryz.grow130 : Go.Proofs.Lays8.n4 Tryz.prog Tryz.grow130_ren := {
 mixed := by kernel_rfl
 f4 := ⟨Tryz.f130.name, by decide, Tryz.func130.trans (congrArg some (by kernel_rfl))⟩
 t0 := Tryz.underlying0
 a0 := Tryz.isAgg0
 z0 := Tryz.sizeOf0
 v0 := Tryz.zeroValue0
 t3 := Tryz.underlying3
 a3 := Tryz.isAgg3
 z3 := Tryz.sizeOf3
 v3 := Tryz.zeroValue3
 t4 := Tryz.underlying4
 a4 := Tryz.isAgg4
 z4 := Tryz.sizeOf4
 v4 := Tryz.zeroValue4
 t9 := Tryz.underlying9
 a9 := Tryz.isAgg9
 z9 := Tryz.sizeOf9
 v9 := Tryz.zeroValue9
 t20 := Tryz.underlying20
 a20 := Tryz.isAgg20
 z20 := Tryz.sizeOf20
 v20 := Tryz.zeroValue20
 t22 := Tryz.underlying65
 a22 := Tryz.isAgg65
 z22 := Tryz.sizeOf65
 v22 := Tryz.zeroValue65 }
end Go.Proofs
namespace Go.Proofs.YtehdemcfeoiecaaGreatDoor
open Go.RowKit Go.Firn Go.Firn.Tb
theorem OwnL.other {w0 w w' : World} {v v2 : Value} {L : List Int} (h : OwnL w0 w v L) {e2 : TypeId} {base s2 n2 : Nat} {X : List Value} (h2 : w.ownsRow base e2 s2 v2 n2 X) (hne : 3 ≠ e2) (hb : w0.heap.size ≤ base) (g : w.grownBy w' v2.ownBlock) : OwnL w0 w' v L := by
 have g0 : Gr w0 w' := h.2.grown g fun k hk => Nat.le_trans hb (h2.lt k hk).1
 refine ⟨h.1.kept g ?_, g0⟩
 obtain ⟨_, hv⟩ := h.1
 obtain ⟨_, hv2⟩ := h2
 rcases hv with ⟨rfl, _⟩ | ⟨b, cap, cur, rfl, _, hg, _⟩
 ·exact .inl rfl
 rcases hv2 with ⟨rfl, _⟩ | ⟨b2, cap2, cur2, rfl, _, hg2, _⟩
 ·exact .inr (by simp [Value.ownBlock])
 refine .inr fun k => ?_
 simp only [Value.ownBlock, Option.some.injEq] at k
 subst k
 rw [hg] at hg2
 simp only [Option.some.injEq, Obj.cells.injEq] at hg2
 exact hne hg2.2.1
abbrev Sl := Option Addr × Nat × Nat
def pkl (raw : List Sl) : List Value := raw.map fun x => .slice x.1 x.2.1 x.2.2
def DatL (w0 w : World) (raw : List Sl) (LL : List (List Int)) : Prop := raw.length = LL.length ∧ ∀ (i : Nat) (x : Sl) (L : List Int), raw[i]? = some x → LL[i]? = some L → Rd3 w x.1 x.2.1 x.2.2 L ∧ Old w0 w 3 x.2.1 x.1
theorem DatL.gr {w0 w w' : World} {raw : List Sl} {LL : List (List Int)} (h : DatL w0 w raw LL) (g : Gr w w') : DatL w0 w' raw LL := ⟨h.1, fun i x L hx hL => by
 obtain ⟨h1, h2⟩ := h.2 i x L hx hL
 exact ⟨h1.gr g, h2.gr g⟩⟩
theorem DatL.wr {w0 w w' : World} {raw : List Sl} {LL : List (List Int)} (h : DatL w0 w raw LL) {b : Nat} {cur : Array Value} {e : TypeId} {fz : Nat × Nat} (hb : w.heap[b]? = some (.cells cur e fz)) (hne : 3 ≠ e) (h0 : w0.heap.size ≤ b) (g : Wr b w w') : DatL w0 w' raw LL := ⟨h.1, fun i x L hx hL => by
 obtain ⟨h1, h2⟩ := h.2 i x L hx hL
 have ho := h2.off h0 hb hne
 exact ⟨h1.wr g ho, h2.wr g ho⟩⟩
theorem DatL.nil (w0 w : World) : DatL w0 w [] [] := ⟨rfl, fun i x L hx _ => by simp at hx⟩
theorem DatL.snoc {w0 w : World} {raw : List Sl} {LL : List (List Int)} (h : DatL w0 w raw LL) {x : Sl} {L : List Int} (h1 : Rd3 w x.1 x.2.1 x.2.2 L) (h2 : Old w0 w 3 x.2.1 x.1) : DatL w0 w (raw ++ [x]) (LL ++ [L]) := by
 refine ⟨by simp [h.1], fun i y M hy hM => ?_⟩
 rcases Nat.lt_or_ge i raw.length with k | k
 ·rw [List.getElem?_append_left k] at hy
  rw [List.getElem?_append_left (by have := h.1; omega)] at hM
  exact h.2 i y M hy hM
 rw [List.getElem?_append_right k] at hy
 rw [List.getElem?_append_right (by have := h.1; omega)] at hM
 have hi : i - raw.length = 0 := by
  rcases Nat.eq_zero_or_pos (i - raw.length) with q | q
  ·exact q
  rw [List.getElem?_eq_none (by simp; omega)] at hy; cases hy
 rw [hi] at hy
 rw [← h.1, hi] at hM
 simp at hy hM
 subst hy; subst hM
 exact ⟨h1, h2⟩
def RdLs (w : World) (a : Option Addr) (n c : Nat) (LL : List (List Int)) : Prop := n = LL.length ∧ n ≤ c ∧ c ≤ 9223372036854775807 ∧ (a = none → c = 0) ∧ (n = 0 ∨ ∃ b o, a = some ⟨b, o, none⟩ ∧ ∀ i L, LL[i]? = some L → ∃ a1 n1 c1, w.cell? ⟨b, o + i, none⟩ = some (.slice a1 n1 c1) ∧ Rd3 w a1 n1 c1 L)
theorem RdLs.gr {w w' : World} {a : Option Addr} {n c : Nat} {LL : List (List Int)} (h : RdLs w a n c LL) (g : Gr w w') : RdLs w' a n c LL := by
 obtain ⟨h1, h2, h3, h4, h5⟩ := h
 refine ⟨h1, h2, h3, h4, ?_⟩
 rcases h5 with h5 | ⟨b, o, ha, hc⟩
 ·exact .inl h5
 refine .inr ⟨b, o, ha, fun i L hL => ?_⟩
 obtain ⟨a1, n1, c1, k1, k2⟩ := hc i L hL
 exact ⟨a1, n1, c1, g.cell k1, k2.gr g⟩
theorem RdLs.at {w : World} {a : Option Addr} {n c : Nat} {LL : List (List Int)} (h : RdLs w a n c LL) {k : Nat} (hk : k < n) : ∃ b o L a1 n1 c1, a = some ⟨b, o, none⟩ ∧ LL[k]? = some L ∧ w.cell? ⟨b, o + k, none⟩ = some (.slice a1 n1 c1) ∧ Rd3 w a1 n1 c1 L := by
 obtain ⟨h1, h2, h3, h4, h5⟩ := h
 rcases h5 with h5 | ⟨b, o, ha, hc⟩
 ·omega
 have hr : LL[k]? = some (LL[k]'(by omega)) := List.getElem?_eq_getElem (by omega)
 obtain ⟨a1, n1, c1, k1, k2⟩ := hc k _ hr
 exact ⟨b, o, _, a1, n1, c1, ha, hr, k1, k2⟩
def OwnLs (w0 w : World) (v : Value) (raw : List Sl) : Prop := w.ownsRow w0.heap.size 23 1 v raw.length (pkl raw) ∧ Gr w0 w
theorem OwnLs.nil' {w0 w : World} (g : Gr w0 w) : OwnLs w0 w (.slice none 0 0) [] := ⟨World.ownsRow_nil w _ _ _, g⟩
theorem OwnLs.gr {w0 w w' : World} {v : Value} {raw : List Sl} (h : OwnLs w0 w v raw) (g : Gr w w') : OwnLs w0 w' v raw :=
 ⟨h.1.kept (row := none) ⟨g.os, g.tape, g.output, Gr.size g, fun k hk _ => Below.block g k hk⟩ (by cases v.ownBlock <;> simp), h.2.trans g⟩
theorem OwnLs.other {w0 w w' : World} {v v2 : Value} {raw : List Sl} (h : OwnLs w0 w v raw) {e2 : TypeId} {base s2 n2 : Nat} {X : List Value} (h2 : w.ownsRow base e2 s2 v2 n2 X) (hne : 23 ≠ e2) (hb : w0.heap.size ≤ base) (g : w.grownBy w' v2.ownBlock) : OwnLs w0 w' v raw := by
 have g0 : Gr w0 w' := h.2.grown g fun k hk => Nat.le_trans hb (h2.lt k hk).1
 refine ⟨h.1.kept g ?_, g0⟩
 obtain ⟨_, hv⟩ := h.1
 obtain ⟨_, hv2⟩ := h2
 rcases hv with ⟨rfl, _⟩ | ⟨b, cap, cur, rfl, _, hg, _⟩
 ·exact .inl rfl
 rcases hv2 with ⟨rfl, _⟩ | ⟨b2, cap2, cur2, rfl, _, hg2, _⟩
 ·exact .inr (by simp [Value.ownBlock])
 refine .inr fun k => ?_
 simp only [Value.ownBlock, Option.some.injEq] at k
 subst k
 rw [hg] at hg2
 simp only [Option.some.injEq, Obj.cells.injEq] at hg2
 exact hne hg2.2.1
theorem OwnLs.rd {w0 w : World} {v : Value} {raw : List Sl} {LL : List (List Int)} (h : OwnLs w0 w v raw) (hd : DatL w0 w raw LL) : ∃ a c, v = .slice a raw.length c ∧ RdLs w a raw.length c LL := by
 have h0 := h.1
 obtain ⟨hl, hv⟩ := h.1
 rcases hv with ⟨rfl, hz⟩ | ⟨g, cap, cur, rfl, hb, hg, hnc, hcm, hcs, htake⟩
 ·exact ⟨none, 0, by rw [hz], hd.1, by omega, by omega, fun _ => rfl, .inl hz⟩
 refine ⟨_, _, rfl, hd.1, hnc, by unfold maxLen at hcm; omega, (fun k => by cases k), .inr ⟨g, 0, rfl, fun i L hL => ?_⟩⟩
 have hi : i < raw.length := by
  rw [hd.1]
  rcases Nat.lt_or_ge i LL.length with q | q
  ·exact q
  rw [List.getElem?_eq_none q] at hL; cases hL
 have hx := List.getElem?_eq_getElem hi
 have c0 := h0.cells (g := g) rfl i (.slice raw[i].1 raw[i].2.1 raw[i].2.2) (by unfold pkl; rw [List.getElem?_map, hx]; rfl)
 rw [add_flat rfl] at c0
 exact ⟨_, _, _, c0, (hd.2 i _ L hx hL).1⟩
theorem DatL.grown {w0 w w' : World} {raw : List Sl} {LL : List (List Int)} (h : DatL w0 w raw LL) {v2 : Value} {e2 : TypeId} {base s2 n2 : Nat} {X : List Value} (h2 : w.ownsRow base e2 s2 v2 n2 X) (hne : 3 ≠ e2) (hb : w0.heap.size ≤ base) (g : w.grownBy w' v2.ownBlock) : DatL w0 w' raw LL := by
 obtain ⟨_, hv2⟩ := h2
 rcases hv2 with ⟨rfl, _⟩ | ⟨b2, cap2, cur2, rfl, hb2, hg2, _⟩
 ·exact h.gr ((Gr.refl w).grown g fun k hk => by cases hk)
 exact h.wr hg2 hne (Nat.le_trans hb hb2) g
section
variable {ops : Array Oper} {rest : List Oper} {o : Oper} {a : Act} {Q : Exit → Act → World → Prop}
theorem infoIs : (Tryz.prog.info? 23).map (fun i => (i.zero, i.size, i.bytes)) = some (some (.slice none 0 0), 1, 24) := by kernel_rfl
theorem info_ints : ∃ i, Tryz.prog.info? 23 = some i ∧ i.zero = some (.slice none 0 0) ∧ i.size = 1 ∧ i.bytes = 24 := by
 have h := infoIs
 cases hi : Tryz.prog.info? 23 with
 | none => rw [hi] at h; cases h
 | some i => rw [hi] at h; simp at h; exact ⟨i, rfl, h.1, h.2.1, h.2.2⟩
theorem wp_app_sl {o : Oper} {a : Act} {K : Act → World → Prop} {Q : Exit → Act → World → Prop} (s x : Operand) (t : TypeId)
  (ho : o.op = .call { callee := .builtin .append, args := #[s, x], argTypes := #[t, t] }) (ht : Tryz.prog.underlying t = some (.slice 23))
  {w0 w : World} (v : Value) (raw : List Sl) (hs : a.eval s = v) (hown : OwnLs w0 w v raw)
  (g : Nat) (r : Sl) (hx : a.eval x = .slice (some ⟨g, 0, none⟩) 1 1) (hg : w.cell? ⟨g, 0, none⟩ = some (.slice r.1 r.2.1 r.2.2)) (hk : raw.length < 999999)
  (h : ∀ v' w', OwnLs w0 w' v' (raw ++ [r]) → w.grownBy w' v.ownBlock → K (a.put o.dst v') w') : o.wp Tryz.prog a w K Q := by
 obtain ⟨i0, hi, hz0, hz1, hz2⟩ := info_ints
 refine wp_append_own w s x t ho w0.heap.size 23 i0 _ 1 24 ht hi hz0 hz1 hz2 rfl (by decide) v raw.length (pkl raw) hs hown.1 ⟨g, 0, none⟩ 1 1 (pkl [r]) hx rfl ?_ ?_ ?_ ?_ hown.2.size ?_
 ·intro j u hu
  rw [add_flat rfl, Nat.zero_add]
  rcases j with _ | j
  ·cases hu; exact hg
  simp [pkl] at hu
 ·intro u hu
  simp [pkl] at hu
  subst hu
  rfl
 ·unfold maxLen; omega
 ·omega
 intro v' w' h1 h2 _
 have e : pkl raw ++ pkl [r] = pkl (raw ++ [r]) := by simp [pkl]
 rw [e] at h1
 refine h v' w' ⟨?_, hown.2.grown h2 fun k hk => (hown.1.lt k hk).1⟩ h2
 rw [List.length_append]
 exact h1
theorem wpList_app_sl (hgd : o.guard = none) (s x : Operand) (t : TypeId)
  (ho : o.op = .call { callee := .builtin .append, args := #[s, x], argTypes := #[t, t] }) (ht : Tryz.prog.underlying t = some (.slice 23))
  {w0 w : World} (v : Value) (raw : List Sl) (hs : a.eval s = v) (hown : OwnLs w0 w v raw)
  (g : Nat) (r : Sl) (hx : a.eval x = .slice (some ⟨g, 0, none⟩) 1 1) (hg : w.cell? ⟨g, 0, none⟩ = some (.slice r.1 r.2.1 r.2.2)) (hk : raw.length < 999999)
  (h : ∀ v' w', OwnLs w0 w' v' (raw ++ [r]) → w.grownBy w' v.ownBlock → wpList Tryz.prog ops Q rest (a.put o.dst v') w') : wpList Tryz.prog ops Q (o :: rest) a w :=
 wpList_plain hgd fun _ hK => wp_app_sl s x t ho ht v raw hs hown g r hx hg hk fun v' w' h1 h2 => hK _ _ (h v' w' h1 h2)
end
end Go.Proofs.YtehdemcfeoiecaaGreatDoor
namespace Go.Proofs.YtehdemcfeoiecaaGreatDoor
open Go.RowKit Go.Firn Go.Shelf
theorem Tryz.info3 : (Tryz.prog.info? 3).map (fun i => (i.zero, i.size, i.bytes)) = some (some (.int .i64 0), 1, 8) := by kernel_rfl
theorem refvalue_any (a a' : Option Addr) (n c c' : Nat) (f : Nat → ByteArray) (g : Nat → Int) (l : Nat → Int) (w : World) (hS : vS f g n = true) (hr : RdS w a n f g) (hl : RdI w a' 8 l) (hb : ∀ i, i < 8 → 0 ≤ l i ∧ l i ≤ 10) :
  Calls Tryz.prog 99 #[.slice a n c, .slice a' 8 c'] w fun e w' => e = .returned (.int .i64 (vlS l f g n)) ∧ Gr w w' := by
 have HR := Lh hr
 have HL := Lh hl
 have HB := Lh hb
 have VS := Lh (fun i (hi : i < n) => (vS_at hS).2 i hi)
 have n40 := (vS_at hS).1
 have VB := Lh (fun k (hk : k ≤ n) => vlS_bd hb hS k hk)
 have VN := Lh (fun k => show vlS l f g (k + 1) = vlS l f g k + prd l (f k) (g k) (f k).size from rfl)
 clear hr hl hb hS
 go_enter Tryz.func99, Tryz.ntmps99
 go_wp2
 go_loopw [5, 12] (fun so si wr => ∃ k : Nat, k ≤ n ∧ so = .int .i64 (vlS l f g k) ∧ si = .int .i64 k ∧ Hid (Gr w wr)) (fun _ si _ => n - (intOf si).toNat)
 case atStart => exact ⟨0, Nat.zero_le _, rfl, rfl, Gr.refl w⟩
 case round =>
  obtain ⟨k, hk, rfl, rfl, hG⟩ := hrel
  by_cases hlt : k < n
  ·have i1 : (k : Int) < (n : Int) := by omega
   obtain ⟨b, o, rfl, hc⟩ := (HR.out.gr hG.out).at hlt
   obtain ⟨k0, k1⟩ := hc k hlt
   obtain ⟨t1, t2, t3⟩ := VS.out k hlt
   have GB := Lh (hG.out.alloc (.cells #[.string (f k), .int .i64 (g k)] 58))
   obtain ⟨z0, z1⟩ := box2 wr (f k) (g k) 58
   have LI := Lh (fun i (hi : i < (f k).size) => (isTk_at t1).2 i hi)
   have SZ := (isTk_at t1).1
   clear hc
   have BD := Lh (fun q (hq : q ≤ (f k).size) => prd_top (m := g k) HB.out t1 ⟨t2, t3⟩ hq)
   have vb := VB.out k (by omega)
   have VK := Lh (VN.out k)
   generalize f k = s at *
   generalize g k = m at *
   generalize hv : vlS l f g k = v at *
   clear hv t1 t2 t3
   go_wp2_with fail
   generalize hW : wr.alloc (.cells #[.string s, .int .i64 m] 58) = W1 at *
   generalize hX : wr.heap.size = bx at *
   clear hW hX k0 k1
   go_loopw [8, 21] (fun sn sq wx => ∃ q : Nat, q ≤ s.size ∧ sn = .int .i64 (prd l s m q) ∧ sq = .int .i64 q ∧ wx = W1) (fun _ sq _ => s.size - (intOf sq).toNat)
   case atStart => exact ⟨0, Nat.zero_le _, rfl, rfl, rfl⟩
   case round =>
    obtain ⟨q, hq, rfl, rfl, hw⟩ := hrel
    subst hw
    by_cases hlq : q < s.size
    ·have i2 : (q : Int) < (s.size : Int) := by omega
     have l1 := bt_get hlq
     have l2 := LI.out q hlq
     have b1 := BD.out q (by omega)
     have b2 := BD.out (q + 1) hlq
     have E := Lh (show prd l s m (q + 1) = prd l s m q * l (bt s q - 97) from rfl)
     rw [E.out] at b2
     generalize bt s q = x at *
     obtain ⟨y, hy⟩ : ∃ y, x = y + 97 := ⟨x - 97, by omega⟩
     have hy8 : y < 8 := by omega
     have e1 : IntKind.u8.wrap ((x : Int) - 97) = (y : Int) := by rw [IntKind.wrap_u8']; omega
     have y8 : (y : Int) < 8 := by omega
     obtain ⟨bn, on, rfl, hn⟩ := (HL.out.gr GB.out).at (show 0 < 8 by omega)
     have cn := hn y hy8
     rw [show x - 97 = y by omega] at b2 E
     generalize l y = ly at *
     generalize prd l s m q = pq at *
     have e2 : IntKind.i64.wrap (pq * ly) = pq * ly := IntWalk.i64_in _ (by omega)
     have e3 : wrap64 (pq * ly) = pq * ly := IntWalk.wrap64_in _ (by omega)
     clear b1 b2 hn hy l2
     go_wp2_with fail
     go_roundw
     case rel => exact ⟨q + 1, hlq, by rw [← E.out], by go_num, by trivial⟩
     case measure => simp [intOf]; omega
    obtain rfl : q = s.size := by omega
    have i2 : ¬ (s.size : Int) < (s.size : Int) := by omega
    have b1 := BD.out s.size (Nat.le_refl _)
    have VK2 := Lh VK.out
    clear VK
    generalize prd l s m s.size = pq at *
    have e2 : IntKind.i64.wrap (v + pq) = v + pq := IntWalk.i64_in _ (by omega)
    have e3 : wrap64 (v + pq) = v + pq := IntWalk.wrap64_in _ (by omega)
    clear b1 vb
    go_wp2_with fail
    go_roundw
    case rel => exact ⟨k + 1, hlt, by rw [← VK2.out], by go_num, GB⟩
    case measure => simp [intOf]; omega
  obtain rfl : k = n := by omega
  have i1 : ¬ (k : Int) < (k : Int) := by omega
  go_wp2_with fail
  go_ret
  exact ⟨rfl, hG.out⟩
theorem cost_any (a a' : Option Addr) (n c c' : Nat) (f : Nat → ByteArray) (g : Nat → Int) (l : Nat → Int) (w : World) (hp : 1 ≤ n) (hS : vS f g n = true) (hr : RdS w a n f g) (hl : RdI w a' 8 l) (hb : ∀ i, i < 8 → 0 ≤ l i ∧ l i ≤ 1000) :
  Calls Tryz.prog 50 #[.slice a n c, .slice a' 8 c'] w fun e w' => e = .returned (.int .i64 (mnR (csP l f) n)) ∧ Gr w w' := by
 have HR := Lh hr
 have HL := Lh hl
 have HB := Lh hb
 have VS := Lh (fun i (hi : i < n) => (vS_at hS).2 i hi)
 have n40 := (vS_at hS).1
 clear hr hl hb hS
 go_enter Tryz.func50, Tryz.ntmps50
 go_wp2
 go_loopw [5, 12] (fun so si wr => ∃ k : Nat, k ≤ n ∧ si = .int .i64 k ∧ Hid (OwnI w 3 wr so k (csP l f))) (fun _ si _ => n - (intOf si).toNat)
 case atStart => exact ⟨0, Nat.zero_le _, rfl, Lh (OwnI.nil w 3 _)⟩
 case round =>
  obtain ⟨k, hk, rfl, hO⟩ := hrel
  have hG := Lh hO.out.2
  by_cases hlt : k < n
  ·have i1 : (k : Int) < (n : Int) := by omega
   obtain ⟨b, o, rfl, hc⟩ := (HR.out.gr hG.out).at hlt
   obtain ⟨k0, k1⟩ := hc k hlt
   obtain ⟨t1, t2, t3⟩ := VS.out k hlt
   have GB := Lh (hG.out.alloc (.cells #[.string (f k), .int .i64 (g k)] 58))
   obtain ⟨z0, z1⟩ := box2 wr (f k) (g k) 58
   have LI := Lh (fun i (hi : i < (f k).size) => (isTk_at t1).2 i hi)
   have SZ := (isTk_at t1).1
   clear hc
   have BD := Lh (fun q (hq : q ≤ (f k).size) => show 0 ≤ csm l (f k) q ∧ csm l (f k) q ≤ 1000000 from by have := csm_bd HB.out t1 q hq; omega)
   have CK := Lh (show csP l f k = csm l (f k) (f k).size from rfl)
   have OB := Lh (hO.out.alloc (.cells #[.string (f k), .int .i64 (g k)] 58))
   have KK := Lh (show k < 1000000000 by omega)
   generalize f k = s at *
   generalize g k = m at *
   clear t1 t2 t3
   go_wp2_with fail
   generalize hW : wr.alloc (.cells #[.string s, .int .i64 m] 58) = W1 at *
   generalize hX : wr.heap.size = bx at *
   clear hW hX k0 k1
   go_loopw [8, 19] (fun sn sq wx => ∃ q : Nat, q ≤ s.size ∧ sn = .int .i64 (csm l s q) ∧ sq = .int .i64 q ∧ wx = W1) (fun _ sq _ => s.size - (intOf sq).toNat)
   case atStart => exact ⟨0, Nat.zero_le _, rfl, rfl, rfl⟩
   case round =>
    obtain ⟨q, hq, rfl, rfl, hw⟩ := hrel
    subst hw
    by_cases hlq : q < s.size
    ·have i2 : (q : Int) < (s.size : Int) := by omega
     have l1 := bt_get hlq
     have l2 := LI.out q hlq
     have b1 := BD.out q (by omega)
     have b2 := BD.out (q + 1) hlq
     have E := Lh (show csm l s (q + 1) = csm l s q + l (bt s q - 97) from rfl)
     rw [E.out] at b2
     generalize bt s q = x at *
     obtain ⟨y, hy⟩ : ∃ y, x = y + 97 := ⟨x - 97, by omega⟩
     have hy8 : y < 8 := by omega
     have e1 : IntKind.u8.wrap ((x : Int) - 97) = (y : Int) := by rw [IntKind.wrap_u8']; omega
     have y8 : (y : Int) < 8 := by omega
     obtain ⟨bn, on, rfl, hn⟩ := (HL.out.gr GB.out).at (show 0 < 8 by omega)
     have cn := hn y hy8
     rw [show x - 97 = y by omega] at b2 E
     generalize l y = ly at *
     generalize csm l s q = pq at *
     have e2 : IntKind.i64.wrap (pq + ly) = pq + ly := IntWalk.i64_in _ (by omega)
     have e3 : wrap64 (pq + ly) = pq + ly := IntWalk.wrap64_in _ (by omega)
     clear b1 b2 hn hy l2
     go_wp2_with fail
     go_roundw
     case rel => exact ⟨q + 1, hlq, by rw [← E.out], by go_num, by trivial⟩
     case measure => simp [intOf]; omega
    obtain rfl : q = s.size := by omega
    have i2 : ¬ (s.size : Int) < (s.size : Int) := by omega
    clear LI BD
    rw [← CK.out]
    generalize hz : csP l f k = z at *
    have CZ := Lh hz
    clear hz CK
    go_wp2_with (at_builtin; go_must (refine wpList_app_int rfl _ _ 23 3 rfl Tryz.underlying23 Tryz.info3 _ _ _ rfl (OB.out.alloc _) _ _ rfl (cell_new1 _ _ _) CZ.out KK.out ?_); intro v1 w4 hown1 _)
    go_roundw
    case rel => exact ⟨k + 1, hlt, by go_num, Lh hown1⟩
    case measure => simp [intOf]; omega
  obtain rfl : k = n := by omega
  have i1 : ¬ (k : Int) < (k : Int) := by omega
  obtain ⟨ao, co, rfl, h1, h2, h3⟩ := hO.out.rd
  obtain ⟨bo, oo, rfl, hcx⟩ := h3.at (show 0 < k by omega)
  have C := Lh (show Calls Tryz.prog 77 #[.slice (some ⟨bo, oo, none⟩) k co] wr fun e w' => e = .returned (.int .i64 (Lib.minOf (((List.range k).map (csP l f)).take k))) ∧ w' = wr from Any.slices_Min_int Tryz.min114 bo oo k co ((List.range k).map (csP l f)) wr hp (by simp) (by omega) (fun j hj => by
   have hj' : j < k := by simpa using hj
   rw [hcx j hj']
   simp [List.getD_eq_getElem?_getD, hj']))
  have EM := Lh (show Lib.minOf (((List.range k).map (csP l f)).take k) = mnR (csP l f) k by
   obtain ⟨j, rfl⟩ : ∃ j, k = j + 1 := ⟨k - 1, by omega⟩
   rw [List.take_of_length_le (by simp), mnR_min])
  clear hcx h1 h2 h3
  go_wp2_with (go_at_call 77; (with_reducible refine C.out.mono ?_); rintro e w5 ⟨rfl, hw5⟩)
  go_ret
  subst hw5
  exact ⟨by first | rfl | (rw [← EM.out]; rfl) | exact congrArg (fun x => Ending.returned (Value.int .i64 x)) EM.out, hG.out⟩
theorem refcost_any (a a' : Option Addr) (n c c' : Nat) (f : Nat → ByteArray) (g : Nat → Int) (l : Nat → Int) (w : World) (hS : vS f g n = true) (hr : RdS w a n f g) (hl : RdI w a' 8 l) (hb : ∀ i, i < 8 → 0 ≤ l i ∧ l i ≤ 1000) :
  Calls Tryz.prog 71 #[.slice a n c, .slice a' 8 c'] w fun e w' => e = .returned (.int .i64 (mnR (csP l f) n)) ∧ Gr w w' := by
 have HR := Lh hr
 have HL := Lh hl
 have HB := Lh hb
 have VS := Lh (fun i (hi : i < n) => (vS_at hS).2 i hi)
 have n40 := (vS_at hS).1
 clear hr hl hb hS
 go_enter Tryz.func71, Tryz.ntmps71
 go_wp2
 go_loopw [5, 12] (fun so si wr => ∃ k : Nat, k ≤ n ∧ so = .int .i64 (mnR (csP l f) k) ∧ si = .int .i64 k ∧ Hid (Gr w wr)) (fun _ si _ => n - (intOf si).toNat)
 case atStart => exact ⟨0, Nat.zero_le _, rfl, rfl, Gr.refl w⟩
 case round =>
  obtain ⟨k, hk, rfl, rfl, hG⟩ := hrel
  by_cases hlt : k < n
  ·have i1 : (k : Int) < (n : Int) := by omega
   obtain ⟨b, o, rfl, hc⟩ := (HR.out.gr hG.out).at hlt
   obtain ⟨k0, k1⟩ := hc k hlt
   obtain ⟨t1, t2, t3⟩ := VS.out k hlt
   have GB := Lh (hG.out.alloc (.cells #[.string (f k), .int .i64 (g k)] 58))
   obtain ⟨z0, z1⟩ := box2 wr (f k) (g k) 58
   have LI := Lh (fun i (hi : i < (f k).size) => (isTk_at t1).2 i hi)
   have SZ := (isTk_at t1).1
   clear hc
   have BD := Lh (fun q (hq : q ≤ (f k).size) => show 0 ≤ csm l (f k) q ∧ csm l (f k) q ≤ 1000000 from by have := csm_bd HB.out t1 q hq; omega)
   have CK := Lh (show csP l f k = csm l (f k) (f k).size from rfl)
   have MK := Lh (show mnR (csP l f) (k + 1) = if k = 0 ∨ csP l f k < mnR (csP l f) k then csP l f k else mnR (csP l f) k from rfl)
   generalize f k = s at *
   generalize g k = m at *
   generalize mnR (csP l f) k = mk at *
   clear t1 t2 t3
   go_wp2_with fail
   generalize hW : wr.alloc (.cells #[.string s, .int .i64 m] 58) = W1 at *
   generalize hX : wr.heap.size = bx at *
   clear hW hX k0 k1
   go_loopw [8, 20] (fun sn sq wx => ∃ q : Nat, q ≤ s.size ∧ sn = .int .i64 (csm l s q) ∧ sq = .int .i64 q ∧ wx = W1) (fun _ sq _ => s.size - (intOf sq).toNat)
   case atStart => exact ⟨0, Nat.zero_le _, rfl, rfl, rfl⟩
   case round =>
    obtain ⟨q, hq, rfl, rfl, hw⟩ := hrel
    subst hw
    by_cases hlq : q < s.size
    ·have i2 : (q : Int) < (s.size : Int) := by omega
     have l1 := bt_get hlq
     have l2 := LI.out q hlq
     have b1 := BD.out q (by omega)
     have b2 := BD.out (q + 1) hlq
     have E := Lh (show csm l s (q + 1) = csm l s q + l (bt s q - 97) from rfl)
     rw [E.out] at b2
     generalize bt s q = x at *
     obtain ⟨y, hy⟩ : ∃ y, x = y + 97 := ⟨x - 97, by omega⟩
     have hy8 : y < 8 := by omega
     have e1 : IntKind.u8.wrap ((x : Int) - 97) = (y : Int) := by rw [IntKind.wrap_u8']; omega
     have y8 : (y : Int) < 8 := by omega
     obtain ⟨bn, on, rfl, hn⟩ := (HL.out.gr GB.out).at (show 0 < 8 by omega)
     have cn := hn y hy8
     rw [show x - 97 = y by omega] at b2 E
     generalize l y = ly at *
     generalize csm l s q = pq at *
     have e2 : IntKind.i64.wrap (pq + ly) = pq + ly := IntWalk.i64_in _ (by omega)
     have e3 : wrap64 (pq + ly) = pq + ly := IntWalk.wrap64_in _ (by omega)
     clear b1 b2 hn hy l2
     go_wp2_with fail
     go_roundw
     case rel => exact ⟨q + 1, hlq, by rw [← E.out], by go_num, by trivial⟩
     case measure => simp [intOf]; omega
    obtain rfl : q = s.size := by omega
    have i2 : ¬ (s.size : Int) < (s.size : Int) := by omega
    clear LI BD
    rw [← CK.out]
    generalize csP l f k = z at *
    clear CK
    by_cases h0 : k = 0
    ·have E2 := Lh (MK.out.trans (if_pos (.inl h0)))
     have c0 : ((k : Int) == 0) = true := by simp [h0]
     clear MK h0
     go_wp2_with fail
     go_roundw
     case rel => exact ⟨k + 1, hlt, by rw [E2.out], by go_num, GB⟩
     case measure => simp [intOf]; omega
    have c0 : ((k : Int) == 0) = false := by simp; omega
    by_cases h1 : z < mk
    ·have E2 := Lh (MK.out.trans (if_pos (.inr h1)))
     clear MK h0
     go_wp2_with fail
     go_roundw
     case rel => exact ⟨k + 1, hlt, by rw [E2.out], by go_num, GB⟩
     case measure => simp [intOf]; omega
    have E2 := Lh (MK.out.trans (if_neg (fun h => h.elim h0 h1)))
    clear MK h0
    go_wp2_with fail
    go_roundw
    case rel => exact ⟨k + 1, hlt, by rw [E2.out], by go_num, GB⟩
    case measure => simp [intOf]; omega
  obtain rfl : k = n := by omega
  have i1 : ¬ (k : Int) < (k : Int) := by omega
  go_wp2_with fail
  go_ret
  exact ⟨rfl, hG.out⟩
end Go.Proofs.YtehdemcfeoiecaaGreatDoor
