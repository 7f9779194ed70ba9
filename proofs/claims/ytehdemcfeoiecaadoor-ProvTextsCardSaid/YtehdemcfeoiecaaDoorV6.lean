/- Contracts of chapter 9: whether a sum is too much; a copy; the reference's sum of two. -/
import Derived.Test.YtehdemcfeoiecaaDoorV5
namespace Go.Proofs.YtehdemcfeoiecaaDoor
open Go.RowKit Go.Firn Go.Shelf Go.Maps Go.WideMaps Go.Deep

def bigP (x : Key × Int) : Bool := decide (100000 < x.2) || decide (12 < x.1.length)
theorem overL_is (L : SL) : overL L = (L.any bigP || decide (40 < L.length)) := rfl

set_option maxRecDepth 100000 in
set_option maxHeartbeats 4000000 in
theorem over_any (a : Option Addr) (n c : Nat) (f : Nat → ByteArray) (g : Nat → Int) (w : World) (hn : n ≤ 9223372036854775807) (hz : ∀ i, i < n → (f i).size ≤ 9223372036854775807) (hr : RdS w a n f g) :
    Calls Tryd.prog 63 #[.slice a n c] w (RetB (overL (ofS f g n)) w) := by
  have HR := Lib.hid hr
  have HZ := Lib.hid hz
  have HT := Lib.hid (show ∀ k, k < n → bigP ((f k).data.toList, g k) = true → overL (ofS f g n) = true from fun k hk h => by
    rw [overL_is, List.any_eq_true.2 ⟨_, ofS_mem.2 ⟨k, hk, rfl⟩, h⟩]; rfl)
  have HF := Lib.hid (show (ofS f g n).any bigP = false → overL (ofS f g n) = decide (40 < n) from fun h => by
    rw [overL_is, h, ofS_length]; rfl)
  clear hr hz
  go_enter Tryd.func63, Tryd.ntmps63
  go_wp2
  go_loopw [7] (fun si wr => ∃ k : Nat, k ≤ n ∧ si = .int .i64 k ∧ Hid ((ofS f g k).any bigP = false) ∧ Hid (Gr w wr)) (fun si _ => n - (intOf si).toNat)
  case atStart => exact ⟨0, Nat.zero_le _, rfl, Lib.hid rfl, Gr.refl w⟩
  case round =>
    obtain ⟨k, hk, rfl, HK, HG⟩ := hrel
    by_cases hlt : k < n
    · have i1 : (k : Int) < (n : Int) := by omega
      obtain ⟨b, o, rfl, hc⟩ := (HR.out.gr HG.out).at hlt
      obtain ⟨k0, k1⟩ := hc k hlt
      obtain ⟨z0, z1⟩ := box2 wr (f k) (g k) 34
      have GB := Lib.hid (HG.out.alloc (.cells #[.string (f k), .int .i64 (g k)] 34))
      have HT1 := Lib.hid (show 100000 < g k ∨ 12 < (f k).size → overL (ofS f g n) = true from fun h => HT.out k hlt (by
        unfold bigP
        rw [size_key]
        rcases h with h | h
        · rw [decide_eq_true h]; rfl
        · rw [decide_eq_true h, Bool.or_true]))
      have HS1 := Lib.hid (show ¬ 100000 < g k → ¬ 12 < (f k).size → (ofS f g (k + 1)).any bigP = false from fun h1 h2 => by
        rw [ofS_succ, List.any_append, HK.out]
        simp only [List.any_cons, List.any_nil, Bool.false_or, Bool.or_false]
        unfold bigP
        rw [size_key, decide_eq_false h1, decide_eq_false h2]; rfl)
      have hz := HZ.out k hlt
      clear hc
      generalize f k = s at *
      generalize g k = m at *
      by_cases h1 : 100000 < m
      · have F := Lib.hid (HT1.out (.inl h1))
        have d1 : decide (100000 < m) = true := by simpa using h1
        clear HT1 HS1 HK HT HF
        go_wp2
        go_ret
        rw [F.out]
        exact ⟨rfl, GB.out⟩
      · have d1 : decide (100000 < m) = false := by simpa using h1
        by_cases h2 : 12 < s.size
        · have F := Lib.hid (HT1.out (.inr h2))
          have h2' : (12 : Int) < (s.size : Int) := by omega
          clear HT1 HS1 HK HT HF
          go_wp2
          go_ret
          rw [F.out]
          exact ⟨rfl, GB.out⟩
        · have F := Lib.hid (HS1.out h1 h2)
          have h2' : ¬ (12 : Int) < (s.size : Int) := by omega
          clear HT1 HS1 HK HT
          go_wp2
          exact ⟨⟨k + 1, hlt, by go_num, F, GB.out⟩, by simp [intOf]; omega⟩
    · obtain rfl : k = n := by omega
      have i1 : ¬ (k : Int) < (k : Int) := by omega
      have E := Lib.hid (HF.out HK.out)
      clear HT HF HK
      by_cases h : 40 < k
      · have h' : (40 : Int) < (k : Int) := by omega
        go_wp2
        go_ret
        rw [E.out, decide_eq_true h]
        exact ⟨rfl, HG.out⟩
      · have h' : ¬ (40 : Int) < (k : Int) := by omega
        go_wp2
        go_ret
        rw [E.out, decide_eq_false h]
        exact ⟨rfl, HG.out⟩

/-- The slice's address is none, or there is one. -/
def SlA (a : Option Addr) (n c : Nat) : Prop := (a = none ∧ n = 0 ∧ c = 0) ∨ ∃ ad, a = some ad
theorem SlA.of_trod {H : Type} {enc : TypeId × Value → H} {P : Program} {w : World} {base : Nat} {spare : Nat → Bool} {held : Bool} {t e S E : TypeId} {f0 f1 : Field} {fuel : Nat} {a : Option Addr} {len cap : Nat} {x : DataW H × List MemPlace} (ht : P.underlying t = some (.slice e)) (he : P.underlying e = some (.struct #[f0, f1]))
    (ce : P.cellsOf e = 2) (h0 : f0.offset = 0 ∧ f0.type = S) (h1 : f1.offset = 1 ∧ f1.type = E) (cS : P.cellsOf S = 1) (cE : P.cellsOf E = 1)
    (h : DataW.trod enc P w base spare held fuel t [.slice a len cap] = some x) : SlA a len cap := by
  obtain ⟨o0, t0⟩ := h0
  obtain ⟨o1, t1⟩ := h1
  rcases open_slice_pairs ht he ce o0 o1 (by rw [t0]; exact cS) (by rw [t1]; exact cE) h with ⟨hcs, _⟩ | ⟨ad, l, c, m, n, V0, V1, D0, D1, P0, P1, hcs, _, hl, hm, hmm, _, hx⟩
  · simp only [List.cons.injEq, and_true, Value.slice.injEq] at hcs
    exact .inl ⟨hcs.1, hcs.2.1, hcs.2.2⟩
  · simp only [List.cons.injEq, and_true, Value.slice.injEq] at hcs
    exact .inr ⟨_, hcs.1⟩
theorem wpList_zero_prod {P : Program} {ops : Array Oper} {rest : List Oper} {o : Oper} {a : Act} {Q : Exit → Act → World → Prop} (hgd : o.guard = none) (s x : Operand) (t e : TypeId)
    (ho : o.op = .call { callee := .builtin .append, args := #[s, x], argTypes := #[t, t] })
    (ht : P.underlying t = some (.slice e)) (hinfo : (P.info? e).map (fun i => (i.zero, i.size, i.bytes)) = some (some (.agg #[.string ⟨#[]⟩, .int .i64 0]), 2, 24))
    {w0 w : World} (v : Value) (L : SL) (hs : a.eval s = v) (hown : OwnS w0 e w v L) (ad : Addr) (c : Nat) (hx : a.eval x = .slice (some ad) 0 c) (hk : L.length ≤ 1000000)
    (h : ∀ v' w', OwnS w0 e w' v' L → wpList P ops Q rest (a.put o.dst v') w') : wpList P ops Q (o :: rest) a w := by
  obtain ⟨i0, hi, hz0, hz1, hz2⟩ := info_prod hinfo
  refine wpList_append_own w hgd s x t ho w0.heap.size e i0 _ 2 24 ht hi hz0 hz1 hz2 rfl (by decide) v L.length (pk L) hs hown.1 ad 0 c [] hx rfl (fun j u hu => by simp at hu) (fun u hu => by simp at hu) (by unfold maxLen; omega) (by omega) hown.2.size ?_
  intro v' w' h1 h2 _
  rw [List.append_nil, Nat.add_zero] at h1
  exact h v' w' ⟨h1, hown.2.grown h2 fun k hk => (hown.1.lt k hk).1⟩
set_option maxHeartbeats 1000000 in
theorem copied_any (a : Option Addr) (n c : Nat) (f : Nat → ByteArray) (g : Nat → Int) (w : World) (hn : n ≤ 900000) (ha : SlA a n c) (hr : RdS w a n f g) :
    Calls Tryd.prog 64 #[.slice a n c] w (RetO w (ofS f g n)) := by
  rcases ha with ⟨rfl, rfl, rfl⟩ | ⟨ad, rfl⟩
  · go_enter Tryd.func64, Tryd.ntmps64
    have H3 := Lib.hid (OwnS.made (Gr.refl w) 34)
    go_wp2_with (at_builtin; refine wpList_none_prod rfl _ _ 22 34 rfl Tryd.underlying22 info34 _ [] rfl H3.out rfl ?_)
    go_ret
    exact ⟨_, rfl, H3.out⟩
  · rcases hr with rfl | ⟨b, o, e, hc⟩
    · go_enter Tryd.func64, Tryd.ntmps64
      go_wp2_with (at_builtin; refine wpList_zero_prod rfl _ _ 22 34 rfl Tryd.underlying22 info34 _ [] rfl (OwnS.made (Gr.refl w) 34) ad c rfl (by simp) ?_; intro v1 w1 hown; have H1 := Lib.hid hown; clear hown)
      go_ret
      exact ⟨_, rfl, H1.out⟩
    · cases e
      have HR := Lib.hid hc
      clear hc
      go_enter Tryd.func64, Tryd.ntmps64
      go_wp2_with (at_builtin; refine wpList_cat_prod rfl _ _ 22 34 rfl Tryd.underlying22 info34 _ [] rfl (OwnS.made (Gr.refl w) 34) b o n c f g rfl (fun i hi => ⟨((Gr.refl w).alloc _).cell (HR.out i hi).1, ((Gr.refl w).alloc _).cell (HR.out i hi).2⟩) (by simp; omega) ?_; intro v1 w1 hown _; have H1 := Lib.hid hown; clear hown)
      go_ret
      exact ⟨_, rfl, by have := H1.out; rwa [List.nil_append] at this⟩

end Go.Proofs.YtehdemcfeoiecaaDoor
