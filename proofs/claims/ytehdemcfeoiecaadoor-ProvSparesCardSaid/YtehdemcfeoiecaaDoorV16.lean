/- Contracts of chapter 9: spared, isToken at a token, Spared. -/
import Derived.Test.YtehdemcfeoiecaaDoorV15
namespace Go.Proofs.YtehdemcfeoiecaaDoor
open Go.RowKit Go.Firn Go.Shelf Go.Maps Go.WideMaps

theorem del_own (w0 : World) (v : Value) (L : SL) (c : UInt8) (bx : Nat) (w : World) (hn : L.length ≤ 900000) (ho : OwnS w0 34 w v L) (hb : w0.cell? ⟨bx, 0, none⟩ = some (.string ⟨#[c]⟩)) :
    Calls Tryd.prog 70 #[v, .func (.func 72) #[] #[.pointer (some ⟨bx, 0, none⟩)]] w (RetS (sparedL c L) w0) := by
  have hlt := World.block_lt_of_cell? w0 _ hb
  have G := ho.2
  rcases PRow.of_own ho with ⟨rfl, rfl⟩ | ⟨g, cp, rfl, h1, h2, h3, h4, h5⟩
  · have CI := Lib.hid (show Calls Tryd.prog 95 #[.slice none 0 0, .func (.func 72) #[] #[.pointer (some ⟨bx, 0, none⟩)]] w _ from index_any none 0 [] c bx w (by simp) (.inl rfl) (G.cell hb))
    have HG := Lib.hid G
    clear ho hb hlt G
    go_enter Tryd.func70, Tryd.ntmps70
    go_upto_region 2 with (go_at_call 95; (with_reducible refine CI.out.mono ?_); rintro e w1 ⟨⟨z, rfl, hz⟩, g1⟩; have HZ := Lib.hid hz; have G1 := Lib.hid g1; clear hz g1 CI)
    rcases HZ.out with ⟨rfl, ha⟩ | ⟨k, hk, _⟩
    · clear ha HZ
      go_wp2_with fail
      go_ret
      exact ⟨none, 0, rfl, Nat.le_refl _, by unfold maxLen; omega, .inl rfl, HG.out.trans G1.out⟩
    · exact absurd hk (by simp)
  · refine (delete_any g cp L c bx w hn h1 (by unfold maxLen at h2; omega) h3 (G.cell hb) (fun e => by subst e; exact absurd hlt (Nat.not_lt.2 h4)) h5).mono ?_
    rintro e w' ⟨rfl, k1, k2⟩
    exact ⟨_, _, rfl, Nat.le_trans (spared_le c L) h1, h2, k2, k1.gr G h4⟩

set_option maxHeartbeats 1000000 in
theorem spared_any (a : Option Addr) (cp : Nat) (L : SL) (c : UInt8) (w : World) (hn : L.length ≤ 900000) (ha : SlA a L.length cp) (hr : RdS w a L.length (sx L) (sy L)) :
    Calls Tryd.prog 46 #[.slice a L.length cp, .string ⟨#[c]⟩] w (RetS (sparedL c L) w) := by
  have hmf : ∀ (fn : Fn) (first cap : Array Value) (w : World), (Instr.makeFunc fn first cap).run Tryd.prog w = .ok (.func fn first cap) w := fun _ _ _ _ => rfl
  have gA : Gr w (w.alloc (.cells #[.string ⟨#[c]⟩] 9)) := (Gr.refl w).alloc _
  have C1 := Lib.hid (clone_any a L.length cp (sx L) (sy L) (w.alloc (.cells #[.string ⟨#[c]⟩] 9)) hn ha (hr.gr gA))
  have C2 := Lib.hid (fun v wx (k : OwnS (w.alloc (.cells #[.string ⟨#[c]⟩] 9)) 34 wx v L) => del_own (w.alloc (.cells #[.string ⟨#[c]⟩] 9)) v L c w.heap.size wx hn k (cell_new1 w _ 9))
  rw [ofS_sx] at C1
  have HGA := Lib.hid gA
  clear gA ha hr hn
  go_enter Tryd.func46, Tryd.ntmps46
  go_wp2_with (first
    | (go_at_call 71; (with_reducible refine C1.out.mono ?_); rintro e w1 ⟨v, rfl, h1⟩; have H1 := Lib.hid h1; clear h1 C1)
    | (go_at_call 70; (with_reducible refine (C2.out _ _ H1.out).mono ?_); rintro e w2 ⟨a2, c2, rfl, q1, q2, q3, g2⟩; have R := Lib.hid (And.intro q1 (And.intro q2 q3)); have G2 := Lib.hid (HGA.out.trans g2); clear q1 q2 q3 g2))
  go_ret
  exact ⟨a2, c2, rfl, R.out.1, R.out.2.1, R.out.2.2, G2.out⟩

/-- A token. -/
def tok (c : UInt8) : Prop := 97 ≤ c.toNat ∧ c.toNat ≤ 104
theorem isToken_tok (c : UInt8) (h : tok c) (w : World) : Calls Tryd.prog 45 #[.string ⟨#[c]⟩] w fun e w' => e = .returned (.bool true) ∧ w = w' := by
  have C := Lib.hid (fun wx => show Calls Tryd.prog 69 #[.string ⟨#[97, 98, 99, 100, 101, 102, 103, 104]⟩, .string ⟨#[c]⟩] wx fun e w' => e = .returned (.bool true) ∧ wx = w' by
    have h := Any.strings_Contains_one Tryd.has69 tokB c wx
    refine Calls.mono h ?_
    rintro e w' ⟨rfl, rfl⟩
    refine ⟨?_, rfl⟩
    rw [← Lib.contains_iff_indexByte, tok_has]
    unfold tok at *
    simp [*])
  clear h
  go_enter Tryd.func45, Tryd.ntmps45
  go_wp2_with (go_at_call 69; (with_reducible refine (C.out _).mono ?_); rintro e w1 ⟨rfl, rfl⟩)
  go_ret
  exact ⟨rfl, rfl⟩

set_option maxHeartbeats 1000000 in
theorem Spared_list (a : Option Addr) (cp : Nat) (L : SL) (c : UInt8) (w : World) (hL : vL L = true) (ht : tok c) (ha : SlA a L.length cp) (hr : RdS w a L.length (sx L) (sy L)) :
    Calls Tryd.prog 25 #[.slice a L.length cp, .string ⟨#[c]⟩] w (RetSE (sparedL c L) 0 w) := by
  have C1 := Lib.hid (ValidSum_any a L.length cp (sx L) (sy L) w (vL_len hL) (vL_size hL) hr)
  rw [show vS (sx L) (sy L) L.length = true from hL] at C1
  have C2 := Lib.hid (fun wx => isToken_tok c ht wx)
  have C3 := Lib.hid (fun wx (k : Gr w wx) => spared_any a cp L c wx (by have := (vL_ok hL).le; omega) ha (hr.gr k))
  clear hL ht ha hr
  generalize sparedL c L = F at *
  go_enter Tryd.func25, Tryd.ntmps25
  go_wp2_with (first
    | (go_at_call 19; (with_reducible refine C1.out.mono ?_); rintro e w1 ⟨rfl, g1⟩; have G1 := Lib.hid g1; clear g1 C1)
    | (go_at_call 45; (with_reducible refine (C2.out _).mono ?_); rintro e w2 ⟨rfl, rfl⟩)
    | (go_at_call 46; (with_reducible refine (C3.out _ G1.out).mono ?_); rintro e w3 ⟨a3, c3, rfl, q1, q2, q3, g3⟩; have R := Lib.hid (And.intro q1 (And.intro q2 q3)); have G3 := Lib.hid (G1.out.trans g3); clear q1 q2 q3 g3))
  refine bodyPost_ret (v := .tuple #[.slice a3 F.length c3, .int .i64 0]) (by simp [results, Tryd.results25, go_sem]) rfl ?_
  exact ⟨a3, c3, rfl, R.out.1, R.out.2.1, R.out.2.2, G3.out⟩
end Go.Proofs.YtehdemcfeoiecaaDoor
