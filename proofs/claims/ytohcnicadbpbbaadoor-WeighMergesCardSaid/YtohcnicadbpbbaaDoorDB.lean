/- Appends inside a fence; slices.SortFunc at the cuts of all sets. -/
import Derived.Test.YtohcnicadbpbbaaDoorDA
import Derived.Test.YtohcnicadbpbbaaDoorP15
import Derived.Test.YtohcnicadbpbbaaDoorCow
import Derived.Maps.OwnIn
namespace Go.Firn
open Go.RowKit
section
variable {F : Fence} {n : Nat} {P : Program}
/-- append(v, r) inside a fence: the row with one int more. -/
theorem wpListIn_app_int {ops : Array Oper} {rest : List Oper} {o : Oper} {a : Act} {Q : Exit → Act → World → Prop} (hgd : o.guard = none) (s x : Operand) (t e : TypeId)
    (ho : o.op = .call { callee := .builtin .append, args := #[s, x], argTypes := #[t, t] })
    (ht : P.underlying t = some (.slice e)) (hinfo : (P.info? e).map (fun i => (i.zero, i.size, i.bytes)) = some (some (.int .i64 0), 1, 8))
    {w0 w : World} (v : Value) (k : Nat) (f : Nat → Int) (hs : a.eval s = v) (hown : OwnI w0 e w v k f)
    (g : Nat) (r : Int) (hx : a.eval x = .slice (some ⟨g, 0, none⟩) 1 1) (hg : w.cell? ⟨g, 0, none⟩ = some (.int .i64 r)) (hf : f k = r) (hk : k < 1000000000)
    (h : ∀ v' w', OwnI w0 e w' v' (k + 1) f → w.grownBy w' v.ownBlock → wpListIn F n P ops Q rest (a.put o.dst v') w') : wpListIn F n P ops Q (o :: rest) a w := by
  obtain ⟨i0, hi, hz0, hz1, hz2⟩ := info_int hinfo
  subst hf
  refine wpListIn_append_own w hgd s x t ho w0.heap.size e i0 (.int .i64 0) 1 8 ht hi hz0 hz1 hz2 rfl (by decide) v k (ints k f) hs hown.1 ⟨g, 0, none⟩ 1 1 [.int .i64 (f k)] hx rfl ?_ ?_ ?_ ?_ hown.2.size ?_
  · intro j u hu
    cases j with
    | zero => simp at hu; subst hu; exact hg
    | succ j => simp at hu
  · simp [Value.oneCell']
  · unfold maxLen; omega
  · omega
  · intro v' w' h1 h2 _
    rw [← ints_succ] at h1
    exact h v' w' ⟨h1, hown.2.grown h2 fun k hk => (hown.1.lt k hk).1⟩ h2
/-- append(v, l) inside a fence: the table with one list more. -/
theorem wpListIn_app_list {ops : Array Oper} {rest : List Oper} {o : Oper} {a : Act} {Q : Exit → Act → World → Prop} (hgd : o.guard = none) (s x : Operand) (t : TypeId)
    (ho : o.op = .call { callee := .builtin .append, args := #[s, x], argTypes := #[t, t] })
    (ht : P.underlying t = some (.slice 22)) (hinfo : (P.info? 22).map (fun i => (i.zero, i.size, i.bytes)) = some (some (.slice none 0 0), 1, 24))
    {w0 w : World} {base : Nat} (f : List Nat → Nat → Int) (v : Value) (tb : List (List Nat)) (hs : a.eval s = v) (hown : OwnT w0 base f w v tb)
    (g : Nat) (y : Value) (l : List Nat) (hx : a.eval x = .slice (some ⟨g, 0, none⟩) 1 1) (hg : w.cell? ⟨g, 0, none⟩ = some y) (hy : Holds base w v f y l) (hk : tb.length < 1000000)
    (h : ∀ v' w', OwnT w0 base f w' v' (tb ++ [l]) → w.grownBy w' v.ownBlock → wpListIn F n P ops Q rest (a.put o.dst v') w') : wpListIn F n P ops Q (o :: rest) a w := by
  obtain ⟨h0, xs, h1, h2⟩ := hown
  obtain ⟨i0, hi, hz0, hz1, hz2⟩ := info_slice hinfo
  have hone : y.oneCell' = true := by obtain ⟨a', c', rfl, _⟩ := hy; rfl
  refine wpListIn_append_own_at w hgd s x t ho base 22 i0 (.slice none 0 0) 1 24 ht hi hz0 hz1 hz2 rfl (by decide) v tb.length xs hs h1 ⟨g, 0, none⟩ 1 1 [y] hx rfl ?_ ?_ ?_ ?_ h0.2.2 ?_
  · intro j u hu
    cases j with
    | zero => simp at hu; subst hu; exact hg
    | succ j => simp at hu
  · intro u hu; simp at hu; subst hu; exact hone
  · unfold maxLen; omega
  · omega
  · intro v' w' k1 k2 _ k4
    refine h v' w' ⟨⟨h0.1.grown k2 fun k hk => Nat.le_trans h0.2.1 (h1.lt k hk).1, h0.2.1, Nat.le_trans h0.2.2 k2.size⟩, xs ++ [y], by rw [List.length_append]; exact k1, fun i hi => ?_⟩ k2
    have hxl : xs.length = tb.length := by have := h1.1; omega
    have keep : ∀ z l', Holds base w v f z l' → Holds base w' v' f z l' := by
      rintro z l' ⟨a', c', e1, e2, e3, e4, e5⟩
      refine ⟨a', c', e1, e2, e3, ?_, ?_⟩
      · rcases e5 with e5 | ⟨b, o, rfl, e6, e7, e10⟩
        · exact .inl e5
        · rcases e4 with e4 | ⟨b', o', e8, e9⟩
          · exact .inl e4
          · cases e8
            exact .inr ⟨b, o, rfl, fun j hj => k2.cell (e9 j hj) e7⟩
      · rcases e5 with e5 | ⟨b, o, rfl, e6, e7, e10⟩
        · exact .inl e5
        · refine .inr ⟨b, o, rfl, Nat.lt_of_lt_of_le e6 k2.size, ?_, e10⟩
          rcases k4 with k4 | k4
          · rw [k4]; exact e7
          · rw [k4]; intro e; cases e; omega
    rw [List.length_append] at hi
    by_cases e : i < tb.length
    · obtain ⟨z, hz, hh⟩ := h2 i e
      refine ⟨z, by rw [List.getElem?_append_left (by omega)]; exact hz, ?_⟩
      have : (tb ++ [l]).getD i [] = tb.getD i [] := by rw [List.getD, List.getD, List.getElem?_append_left e]
      rw [this]
      exact keep _ _ hh
    · have ei : i = tb.length := by simp at hi; omega
      subst ei
      refine ⟨y, by rw [List.getElem?_append_right (by omega), hxl]; simp, ?_⟩
      have : (tb ++ [l]).getD tb.length [] = l := by rw [List.getD, List.getElem?_append_right (by omega)]; simp
      rw [this]
      exact keep _ _ hy
end
end Go.Firn
namespace Go.Proofs.YtohcnicadbpbbaaDoor
open Go.RowKit Go.Firn Go.Sort Go.Shelf

/-- A slice that holds the list l, in a block behind base. -/
def LiB (w : World) (base : Nat) (l : List Nat) (x : Value) : Prop := ∃ a c, x = .slice a l.length c ∧ l.length ≤ c ∧ c ≤ maxLen ∧ (l.length = 0 ∨ ∃ b o, a = some ⟨b, o, none⟩ ∧ base ≤ b ∧ ∀ j, j < l.length → w.cell? ⟨b, o + j, none⟩ = some (.int .i64 (nf l j)))
theorem LiB.gr {w w' : World} {base : Nat} {l : List Nat} {x : Value} (h : LiB w base l x) (g : Gr w w') : LiB w' base l x := by
  obtain ⟨a, c, h1, h2, h3, h4⟩ := h
  refine ⟨a, c, h1, h2, h3, h4.imp id ?_⟩
  rintro ⟨b, o, k1, k2, k3⟩
  exact ⟨b, o, k1, k2, fun j hj => g.cell (k3 j hj)⟩
theorem LiB.low {w : World} {base base' : Nat} {l : List Nat} {x : Value} (h : LiB w base l x) (hb : base' ≤ base) : LiB w base' l x := by
  obtain ⟨a, c, h1, h2, h3, h4⟩ := h
  refine ⟨a, c, h1, h2, h3, h4.imp id ?_⟩
  rintro ⟨b, o, k1, k2, k3⟩
  exact ⟨b, o, k1, by omega, k3⟩
theorem LiB.kc {K : Nat → Prop} {w w' : World} {base : Nat} {l : List Nat} {x : Value} (h : LiB w base l x) (g : Kc K w w') (hK : ∀ k, base ≤ k → K k) : LiB w' base l x := by
  obtain ⟨a, c, h1, h2, h3, h4⟩ := h
  refine ⟨a, c, h1, h2, h3, h4.imp id ?_⟩
  rintro ⟨b, o, k1, k2, k3⟩
  exact ⟨b, o, k1, k2, fun j hj => g _ _ (hK b k2) (k3 j hj)⟩
theorem LiB.rd {w : World} {base : Nat} {l : List Nat} {x : Value} (h : LiB w base l x) : ∃ a c, x = .slice a l.length c ∧ l.length ≤ c ∧ c ≤ maxLen ∧ RdI w a l.length (nf l) := by
  obtain ⟨a, c, h1, h2, h3, h4⟩ := h
  refine ⟨a, c, h1, h2, h3, h4.imp id ?_⟩
  rintro ⟨b, o, k1, k2, k3⟩
  exact ⟨b, o, k1, k3⟩
theorem grown_sort1 {α : Type} [Inhabited α] {enc : α → Value} {w : World} {g n : Nat} {os : Array Obj} (d : Array α) : w.grownBy (sortWorld enc w g 0 n d os) (some g) := by
  unfold sortWorld
  refine ⟨rfl, rfl, rfl, by simp, fun k hk hne => ?_⟩
  rw [heap_grow_old _ _ (by simpa using hk)]
  have : g ≠ k := fun e => hne (by rw [e])
  simp [putRow, mapBlock, Sort.ahead, Array.getElem?_modify, this]

/-- The table of the cuts of all sets. -/
def tabC (n : Nat) : List (List Nat) := (List.range (2 ^ n)).map (cS n)
theorem tabC_len (n : Nat) : (tabC n).length = 2 ^ n := by simp [tabC]
theorem tabC_at {n s : Nat} (hs : s < 2 ^ n) : (tabC n).getD s [] = cS n s := by simp [tabC, hs]
theorem cS_len {n : Nat} (s : Nat) : (cS n s).length ≤ n := onL_len _ n

set_option maxHeartbeats 1000000 in
theorem SortFunc_any {n : Nat} (hn : n ≤ 10) {base : Nat} {W w : World} {v : Value} (h : OwnT W base nf w v (tabC n)) :
    Calls Tryd.prog 100 #[v, .func (.func 101) #[] #[]] w fun e w' => e = .returned (.tuple #[]) ∧ ∃ (C : Nat → Nat) (A : Nat → Value) (g cap : Nat), OrdC n C ∧ v = .slice (some ⟨g, 0, none⟩) (2 ^ n) cap ∧ 2 ^ n ≤ cap ∧ cap ≤ maxLen ∧ base ≤ g ∧ w.grownBy w' (some g) ∧
      (∀ i, i < 2 ^ n → w'.cell? ⟨g, i, none⟩ = some (A (C i))) ∧ ∀ s, s < 2 ^ n → LiB w' base (cS n s) (A s) := by
  obtain ⟨h0, xs, h1, h2⟩ := h
  have h1' := h1
  obtain ⟨hl, hv⟩ := h1'
  rw [tabC_len] at h2 h1
  have h10 := two_pow_le hn
  have hpos := Nat.two_pow_pos n
  rcases hv with ⟨rfl, hz⟩ | ⟨g, cap, cur, rfl, hb, hg, hnc, hcm, hcs, htake⟩
  · rw [tabC_len] at hz; omega
  · rw [tabC_len] at hnc ⊢
    obtain ⟨A, hA⟩ : ∃ A : Nat → Value, ∀ s, s < 2 ^ n → xs[s]? = some (A s) ∧ Firn.Holds base w (.slice (some ⟨g, 0, none⟩) (2 ^ n) cap) nf (A s) (cS n s) := by
      refine ⟨fun s => xs.getD s (.slice none 0 0), fun s hs => ?_⟩
      obtain ⟨x, hx, hh⟩ := h2 s hs
      rw [tabC_at hs, tabC_len] at hh
      have : xs.getD s (.slice none 0 0) = x := by rw [List.getD_eq_getElem?_getD, hx]; rfl
      exact ⟨by show xs[s]? = some (xs.getD s (.slice none 0 0)); rw [this]; exact hx, by show Firn.Holds _ _ _ _ (xs.getD s (.slice none 0 0)) _; rw [this]; exact hh⟩
    have hblk : g < w.heap.size := (Array.getElem?_eq_some_iff.1 hg).1
    have hlib : ∀ s, s < 2 ^ n → ∀ w', w.grownBy w' (some g) → LiB w' base (cS n s) (A s) := fun s hs w' hw => by
      obtain ⟨a, c, e1, e2, e3, e4, e5⟩ := (hA s hs).2
      refine ⟨a, c, e1, e2, e3, ?_⟩
      rcases e5 with e5 | ⟨b, o, rfl, e6, e7, e8⟩
      · exact .inl e5
      · refine .inr ⟨b, o, rfl, e8, fun j hj => ?_⟩
        rcases e4 with e4 | ⟨b', o', e9, e10⟩
        · omega
        · cases e9
          exact hw.cell (e10 j hj) (by simpa [Value.ownBlock] using e7)
    have enc1 : OneCell (fun x : Cs n => A x.v) := fun x => by
      obtain ⟨a, c, e1, _⟩ := (hA x.v x.lt).2
      show (A x.v).oneCell' = true
      rw [e1]; rfl
    have hH : Sort.Holds (fun x : Cs n => A x.v) w g 0 (allC n) := fun j hj => by
      rw [allC_size] at hj
      have c0 := h1.cells (g := g) rfl _ _ (hA j hj).1
      rw [add_flat rfl] at c0
      rw [allC_at hj]
      refine ⟨c0, ?_⟩
      simp [World.frozen?, hg]
    have hcmp : CmpLays1 Tryd.prog 101 #[] (fun x : Cs n => A x.v) (cfC n) g 0 (allC n).size w := fun m os dk _ x y => by
      obtain ⟨a, c, e1, e2, e3, e4⟩ := (hlib x.v x.lt _ (grown_sort1 (enc := fun x : Cs n => A x.v) (n := m) (os := os) dk)).rd
      obtain ⟨a', c', k1, k2, k3, k4⟩ := (hlib y.v y.lt _ (grown_sort1 (enc := fun x : Cs n => A x.v) (n := m) (os := os) dk)).rd
      have l1 := cS_len (n := n) x.v
      have l2 := cS_len (n := n) y.v
      have := cuts11_any a a' c c' (cS n x.v) (cS n y.v) _ (by omega) (by omega) e4 k4
      show Calls Tryd.prog 101 (#[A x.v, A y.v] ++ #[]) _ _
      rw [e1, k1]
      exact this
    have hs : Calls Tryd.prog 100 #[.slice (some ⟨g, 0, none⟩) (allC n).size cap, .func (.func 101) #[] #[]] w _ := Any.slices_SortFunc Tryd.sortF (fun x : Cs n => A x.v) enc1 (cfC n) (swoC n) 101 #[] g 0 cap (allC n) w (enters_of Tryd.func101 (by kernel_rfl) rfl) hcmp hH hblk (by rw [allC_size]; omega)
    rw [allC_size] at hs
    refine hs.mono ?_
    rintro e w' ⟨rfl, d', m, os, hp, ho, rfl⟩
    have hsz : d'.size = (allC n).size := hp.1
    have H2 := holds_putRow (fun x : Cs n => A x.v) (Sort.ahead w m) g 0 _ d' (holds_ahead (fun x : Cs n => A x.v) w m g 0 _ hH) hsz
    refine ⟨rfl, fun i => d'[i]!.v, A, g, cap, ordC_of hp ho, rfl, hnc, hcm, hb, grown_sort1 d', fun i hi => ?_, fun s hs => hlib s hs _ (grown_sort1 d')⟩
    have k := H2 i (by rw [hsz, allC_size]; exact hi)
    rw [Nat.zero_add] at k
    have hb2 : g < (putRow (fun x : Cs n => A x.v) (Sort.ahead w m) g 0 d').heap.size := World.block_lt_of_cell? _ _ k.1
    show (grow (putRow (fun x : Cs n => A x.v) (Sort.ahead w m) g 0 d') os).cell? _ = _
    rw [cell?_grow _ _ _ hb2, k.1]

end Go.Proofs.YtohcnicadbpbbaaDoor
