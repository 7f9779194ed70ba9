/- Proved: ProvCounts returns true at every input, and its arguments read afterwards as before, tied to the program's text. Conditions: none. -/
import Derived.Test.YtehdemcfeoiecaaGreatDoorCards
import Derived.Test.YtehdemcfeoiecaaGreatDoorTie
import Derived.OpenShut
import Derived.ShutString
import Derived.ChangeOld
import Derived.Below
import Derived.Deep.DeepHandedRow
import Derived.Lib.LaidTab
import Derived.Stop.LaidErr
import Derived.LaidSub
import Derived.Test.YtehdemcfeoiecaaGreatDoorA23
set_option maxHeartbeats 64000000
set_option maxRecDepth 100000
namespace Go.Proofs.YtehdemcfeoiecaaGreatDoor
open Go.RowKit Go.Firn Go.Firn.Tb RE
theorem run_app1 {w0 w : World} (ty : TypeId) (v : Value) (L : List Int) (y : Int) (hown : OwnL w0 w v L) (b : Nat) (hc : w.cell? ⟨b, 0, none⟩ = some (.int .i64 y)) (hk : L.length + 1 ≤ 1000000) :
  ∃ v' w', (Builtin.append_ #[23, 23] ty #[v, .slice (some ⟨b, 0, none⟩) 1 1]).run Tryz.prog w = .ok v' w' ∧ OwnL w0 w' v' (L ++ [y]) ∧ w.grownBy w' v.ownBlock ∧ (v'.ownBlock = v.ownBlock ∨ ∀ k, v'.ownBlock = some k → w.heap.size ≤ k) := by
 obtain ⟨i0, hi, hz0, hz1, hz2⟩ := info_int info3
 have hnews : ∀ (j : Nat) (u : Value), [Value.int .i64 y][j]? = some u → w.cell? ((⟨b, 0, none⟩ : Addr).add j) = some u := fun j u hu => by
  rw [add_flat rfl, Nat.zero_add]
  rcases j with _ | j
  ·cases hu; exact hc
  simp at hu
 have h1u : ∀ u ∈ [Value.int .i64 y], u.oneCell' = true := fun u hu => by
  simp at hu; subst hu; rfl
 obtain ⟨v', w', hr, h1, h2, _⟩ := run_append_own (P := Tryz.prog) w w0.heap.size 23 ty 3 i0 (.int .i64 0) 1 8 Tryz.underlying23 hi hz0 hz1 hz2 rfl (by decide) v L.length (L.map (Value.int .i64)) hown.1 ⟨b, 0, none⟩ 1 1 [.int .i64 y] rfl hnews h1u
  (by unfold maxLen; omega) (by omega) hown.2.size
 refine ⟨v', w', hr, ⟨by rw [List.map_append, List.length_append]; exact h1, hown.2.grown h2 fun k hk => (hown.1.lt k hk).1⟩, h2, ?_⟩
 obtain ⟨hlen, hv⟩ := hown.1
 rcases hv with ⟨rfl, hz⟩ | ⟨g, cap, cur, rfl, hbg, hg, hnc, hcm, hcs, htake⟩
 ·have hr2 := run_append_nil (P := Tryz.prog) w 23 ty 3 i0 (.int .i64 0) Tryz.underlying23 hi hz0 ⟨b, 0, none⟩ 1 1 [.int .i64 y] (by rw [hz1]; rfl) hnews (by omega) (by omega) (by rw [hz2]; omega)
  have e : (Value.slice none L.length 0) = .slice none 0 0 := by rw [hz]
  rw [hr] at hr2
  cases hr2
  refine .inr fun k hk => ?_
  simp only [Value.ownBlock, Option.some.injEq] at hk
  omega
 by_cases hroom : L.length + 1 ≤ cap
 ·have hr2 := run_append_room (P := Tryz.prog) w 23 ty 3 i0 Tryz.underlying23 hi g L.length cap cur hg ⟨b, 0, none⟩ 1 1 [.int .i64 y] (by rw [hz1]; rfl) hnews h1u hroom (by rw [hz1]; simp; omega)
  rw [hr] at hr2
  cases hr2
  exact .inl rfl
 have hr2 := run_append_grow (P := Tryz.prog) w 23 ty 3 i0 (.int .i64 0) Tryz.underlying23 hi hz0 ⟨g, 0, none⟩ L.length cap (L.map (Value.int .i64)) (by rw [hz1]; simp) (hown.1.cells (g := g) rfl) ⟨b, 0, none⟩ 1 1 [.int .i64 y] (by rw [hz1]; rfl) hnews (by omega) (by omega) (growslice_fits (by unfold maxLen at hcm; omega) (by rw [hz2]; omega))
 rw [hr] at hr2
 cases hr2
 refine .inr fun k hk => ?_
 simp only [Value.ownBlock, Option.some.injEq] at hk
 omega
section
variable {ops : Array Oper} {rest : List Oper} {o : Oper} {a : Act} {Q : Exit → Act → World → Prop}
theorem wpList_app1 (hgd : o.guard = none) (s x : Operand)
  (ho : o.op = .call { callee := .builtin .append, args := #[s, x], argTypes := #[23, 23] })
  {w0 w : World} (v : Value) (L : List Int) (y : Int) (hs : a.eval s = v) (hown : OwnL w0 w v L) (b : Nat) (hx : a.eval x = .slice (some ⟨b, 0, none⟩) 1 1) (hc : w.cell? ⟨b, 0, none⟩ = some (.int .i64 y)) (hk : L.length + 1 ≤ 1000000)
  (h : ∀ v' w', OwnL w0 w' v' (L ++ [y]) → w.grownBy w' v.ownBlock → (v'.ownBlock = v.ownBlock ∨ ∀ k, v'.ownBlock = some k → w.heap.size ≤ k) → wpList Tryz.prog ops Q rest (a.put o.dst v') w') : wpList Tryz.prog ops Q (o :: rest) a w :=
 wpList_plain hgd fun _ hK => by
  obtain ⟨v', w', hr, h1, h2, h3⟩ := run_app1 o.type v L y hown b hc hk
  unfold Oper.wp execOp
  simp only [ho, resolve, invoke, builtin, Sem.run_bind, Sem.run_pure, Result.andThen_ok, List.map_toArray, List.map_cons, List.map_nil, hs, hx, hr]
  exact hK _ _ (h v' w' h1 h2 h3)
end
theorem qryPlan {ws : List Int} {q : Key} {x : List Wd × Int} (h : qry ws q = some x) : ∃ pw, planW ws x.1 [] = some pw ∧ pw.length = 1 ∧ x.1.length ≤ 12 := by
 unfold qry at h
 split at h
 ·cases h
 rename_i y hy
 split at h
 ·rename_i hl
  cases h
  exact ⟨_, planQ_planW hy, hl.2, hl.1⟩
 cases h
def SepL (v : Value) (raw : List Sl) : Prop := ∀ x ∈ raw, x.2.1 = 0 ∨ ∀ ad, x.1 = some ad → v.ownBlock ≠ some ad.block
theorem rd3_grown {w w' : World} {a : Option Addr} {n c : Nat} {L : List Int} (h : Rd3 w a n c L) {r : Option Nat} (hne : n = 0 ∨ ∀ ad, a = some ad → r ≠ some ad.block) (g : w.grownBy w' r) : Rd3 w' a n c L := by
 refine ⟨h.1, h.2.1, h.2.2.1, h.2.2.2.1, ?_⟩
 rcases hne with h0 | hne
 ·exact .inl h0
 rcases h.2.2.2.2 with h0 | ⟨b, o, ha, hc⟩
 ·exact .inl h0
 exact .inr ⟨b, o, ha, fun i hi => g.cell (hc i hi) fun e => hne _ ha e.symm⟩
theorem old_grown {w0 w w' : World} {e : TypeId} {a : Option Addr} {n : Nat} (h : Old w0 w e n a) {r : Option Nat} (hne : n = 0 ∨ ∀ ad, a = some ad → r ≠ some ad.block) (g : w.grownBy w' r) : Old w0 w' e n a := by
 rcases hne with h0 | hne
 ·exact .inl h0
 rcases h with h0 | h
 ·exact .inl h0
 refine .inr fun ad ha => ?_
 rcases h ad ha with k | ⟨cur, fz, k⟩
 ·exact .inl k
 exact .inr ⟨cur, fz, (g.block _ (Array.getElem?_eq_some_iff.1 k).1 fun e => hne _ ha e.symm).trans k⟩
theorem DatL.sep {w0 w w' : World} {raw : List Sl} {LL : List (List Int)} (h : DatL w0 w raw LL) {v : Value} (hs : SepL v raw) (g : w.grownBy w' v.ownBlock) : DatL w0 w' raw LL := ⟨h.1, fun i x L hx hL =>
 ⟨rd3_grown (h.2 i x L hx hL).1 (hs x (List.mem_of_getElem? hx)) g, old_grown (h.2 i x L hx hL).2 (hs x (List.mem_of_getElem? hx)) g⟩⟩
theorem DatL.below {w0 w : World} {raw : List Sl} {LL : List (List Int)} (h : DatL w0 w raw LL) : ∀ x ∈ raw, x.2.1 = 0 ∨ ∀ ad, x.1 = some ad → ad.block < w.heap.size := fun x hx => by
 obtain ⟨i, hi, rfl⟩ := List.getElem_of_mem hx
 have hr : raw[i]? = some raw[i] := List.getElem?_eq_getElem hi
 have := (h.2 i _ _ hr (List.getElem?_eq_getElem (by have := h.1; omega))).1
 rcases this.2.2.2.2 with h0 | ⟨b, o, ha, hc⟩
 ·exact .inl h0
 rcases Nat.eq_zero_or_pos raw[i].2.1 with k | k
 ·exact .inl k
 refine .inr fun ad e => ?_
 rw [ha] at e
 cases e
 exact World.block_lt_of_cell? w _ (hc 0 k)
theorem SepL.app {w0 w : World} {v v' : Value} {raw : List Sl} {LL : List (List Int)} (h : SepL v raw) (hd : DatL w0 w raw LL) (hb : v'.ownBlock = v.ownBlock ∨ ∀ k, v'.ownBlock = some k → w.heap.size ≤ k) : SepL v' raw := fun x hx => by
 rcases hb with hb | hb
 ·rw [hb]; exact h x hx
 rcases hd.below x hx with k | k
 ·exact .inl k
 refine .inr fun ad e e2 => ?_
 have h1 := k ad e
 have h2 := hb _ e2
 omega
theorem SepL.snoc {wr wA w5 w3 : World} {v : Value} {raw : List Sl} {L M : List Int} {a : Option Addr} {n c : Nat} (h : SepL v raw) (ho : OwnL w3 wr v L) (g : wr.heap.size ≤ wA.heap.size) (hn : OwnL wA w5 (.slice a n c) M) : SepL v (raw ++ [(a, n, c)]) := fun x hx => by
 rcases List.mem_append.1 hx with hx | hx
 ·exact h x hx
 simp only [List.mem_singleton] at hx
 subst hx
 refine .inr fun ad e e2 => ?_
 have h1 := (ho.1.lt _ e2).2
 simp only at e
 subst e
 have h2 := (hn.1.lt ad.block rfl).1
 omega
def ansX (o : Option (Tbl (SL × Int))) (W : Int) : Except Int (Tbl (SL × Int) × Int) := match o with
 | none => .error 4
 | some T => .ok (T, W)
def RetCt (r : Except Int (Tbl (SL × Int) × Int)) (w : World) (e : Ending) (w' : World) : Prop := match r with
 | .error E => e = .returned (.tuple #[.slice none 0 0, .slice none 0 0, .int .i64 E]) ∧ Gr w w'
 | .ok x => ∃ va vn vc na nn nc, e = .returned (.tuple #[.slice va vn vc, .slice na nn nc, .int .i64 0]) ∧ RdLs w' va vn vc (x.1.map (·.1)) ∧ Rd3 w' na nn nc (x.1.map (·.2.2)) ∧ Gr w w'
theorem RunOk.gr {how : Int} {l : Nat → Int} {la : Option Addr} {ln lc : Nat} {Ts : List (Int × Tbl SL)} {R : Rg (SL × Int)} {G : SL × Int → Prop} {tabs : List (Tbl (SL × Int))} {w w' : World} (h : RunOk how l la ln lc Ts R G tabs w) (g : Gr w w') : RunOk how l la ln lc Ts R G tabs w' :=
 { h with beg := fun n hn W k => h.beg n hn W (g.trans k) }
theorem counted_any (how gr : Int) (l : Nat → Int) (la : Option Addr) (ln lc : Nat) (Ts : List (Int × Tbl SL)) (mul : SL × Int → SL × Int → SL × Int) (st : SL × Int → Bool) (G : SL × Int → Prop) (tabs : List (Tbl (SL × Int))) (ta : Option Addr) (tn tc : Nat) (q : ByteArray) (w : World)
  (hr : RdWs w ta tn tc Ts) (hz : SzWs Ts) (hq : q.size ≤ 1000000) (hl : RdI w la ln l) (hln : ln ≤ 9223372036854775807) (hK : vTabs Ts = true → nmB l ln gr = true → RunOk how l la ln lc Ts (RgH how mul st) G tabs w) :
  Calls Tryz.prog 45 #[.slice ta tn tc, .string q, .int .i64 how, .slice la ln lc, .int .i64 gr] w (RetCt (resR how l (nmB l ln gr) Ts q.data.toList) w) := by
 have C52 := Lh (asked_any ta tn tc Ts q w hr hz hq)
 have C30 := Lh (fun W (k : Gr w W) => AreNumbers_any la ln lc l gr W hln (hl.gr k))
 have HTs := Lh hr
 have HK := Lh hK
 clear hr hz hq hl hln hK
 cases hv : vTabs Ts with
 | false =>
  have hres : resR how l (nmB l ln gr) Ts q.data.toList = .error 90 := by
   unfold resR
   rw [if_neg (by rw [hv]; decide)]
  rw [hres]
  rw [hv] at C52
  clear hres hv
  go_enter Tryz.func45, Tryz.ntmps45
  go_wp2_with (go_at_call 52; (refine C52.out.mono ?_); rintro e w1 ⟨a, n, c, W, er, rfl, g1, rfl⟩; have G1 := Lh g1; clear g1)
  refine bodyPost_ret (v := .tuple #[.slice none 0 0, .slice none 0 0, .int .i64 90]) (by simp [results, Tryz.results45, go_sem]) rfl ?_
  exact ⟨rfl, G1.out⟩
 | true =>
  rw [hv] at C52
  cases hQ : qry (wsOf Ts) q.data.toList with
  | none =>
   have hres : resR how l (nmB l ln gr) Ts q.data.toList = .error 91 := by
    unfold resR
    rw [if_pos hv, hQ]
   rw [hres]
   rw [hQ] at C52
   clear hres hv hQ
   go_enter Tryz.func45, Tryz.ntmps45
   go_wp2_with (go_at_call 52; (refine C52.out.mono ?_); rintro e w1 ⟨a, n, c, W, er, rfl, g1, rfl⟩; have G1 := Lh g1; clear g1)
   refine bodyPost_ret (v := .tuple #[.slice none 0 0, .slice none 0 0, .int .i64 91]) (by simp [results, Tryz.results45, go_sem]) rfl ?_
   exact ⟨rfl, G1.out⟩
  | some x =>
   obtain ⟨ms, Wx⟩ := x
   rw [hQ] at C52
   cases hnm : nmB l ln gr with
   | false =>
    have hres : resR how l false Ts q.data.toList = .error 2 := by
     unfold resR
     rw [if_pos hv, hQ]
     rfl
    rw [hres]
    rw [hnm] at C30
    clear hres hv hQ hnm HK
    go_enter Tryz.func45, Tryz.ntmps45
    go_wp2_with (first
     | (go_at_call 52; (refine C52.out.mono ?_); rintro e w1 ⟨a, n, c, W, er, rfl, g1, rfl, rfl, rfl, h1⟩; have G1 := Lh g1; clear g1 h1)
     | (go_at_call 30; (refine (C30.out _ G1.out).mono ?_); rintro e w2 ⟨rfl, g2⟩; have G2 := Lh g2; clear g2))
    refine bodyPost_ret (v := .tuple #[.slice none 0 0, .slice none 0 0, .int .i64 2]) (by simp [results, Tryz.results45, go_sem]) rfl ?_
    exact ⟨rfl, G1.out.trans G2.out⟩
   | true =>
    have hK := HK.out hv hnm
    rw [hnm] at C30
    obtain ⟨pz, hpz, hz1, h12⟩ := qryPlan hQ
    obtain ⟨RS, hRS⟩ : ∃ r, (Tb.runR (RgH how mul st) (mulH how) (Ts.map fun y => begH how l y.2) ms []).map (fun p => p.getD 0 []) = r := ⟨_, rfl⟩
    have hres : resR how l true Ts q.data.toList = ansX RS Wx := by
     unfold resR
     rw [if_pos hv, hQ]
     show ansX (ansR (RgH how (mulH how) fun _ => true) (mulH how) (Ts.map fun y => begH how l y.2) ms) Wx = _
     rw [ansR_H (m2 := mul) (s2 := st)]
     unfold ansR
     rw [hRS]
    have HTI := Lh (show ∀ T, RS = some T → T.length ≤ 60 ∧ ∀ z ∈ T, 1 ≤ z.1.length ∧ z.1.length ≤ 1000 from fun T hT => by
     rw [← hRS] at hT
     cases hrun : Tb.runR (RgH how mul st) (mulH how) (Ts.map fun y => begH how l y.2) ms [] with
     | none => rw [hrun] at hT; cases hT
     | some p =>
      rw [hrun] at hT
      cases hT
      rw [run_is hK.hL hK.hm hK.hg hK.hb ms (pw := []) (qw := pz) ⟨rfl, fun i hi => absurd hi (Nat.not_lt_zero i)⟩ hpz] at hrun
      have hpi := run_PI hK.hL hK.hg ms (pw := []) (qw := pz) (p := []) ⟨rfl, fun i hi => absurd hi (Nat.not_lt_zero i)⟩ hpz hrun
      have ht := hpi.2 0 (by omega)
      refine ⟨(okT_le ht.ok).1, fun z hz => ?_⟩
      have h1 := ht.wd z hz
      have h2 := ht.w1
      omega)
    rw [hres]
    have C53 := Lh (fun W (k : Gr w W) wa wc (h : Rd33 W wa ms.length wc (ms.map rwd)) => run_any how l la ln lc Ts (RgH how mul st) G tabs W (hK.gr k) ta tn tc (HTs.out.gr k) wa ms.length wc ms h h12 pz hpz hz1)
    rw [hRS] at C53
    clear hres hv hQ hnm HK hK hpz hz1 h12 hRS
    cases RS with
    | none =>
     go_enter Tryz.func45, Tryz.ntmps45
     go_wp2_with (first
      | (go_at_call 52; (refine C52.out.mono ?_); rintro e w1 ⟨a, n, c, W, er, rfl, g1, rfl, rfl, rfl, h1⟩; have G1 := Lh g1; have HH1 := Lh h1; clear g1 h1)
      | (go_at_call 30; (refine (C30.out _ G1.out).mono ?_); rintro e w2 ⟨rfl, g2⟩; have G2 := Lh (G1.out.trans g2); have HH2 := Lh (HH1.out.gr g2); clear g2)
      | (go_at_call 53; (refine (C53.out _ G2.out _ _ HH2.out).mono ?_); rintro e w3 ⟨rfl, g3⟩; have G3 := Lh g3; clear g3))
     refine bodyPost_ret (v := .tuple #[.slice none 0 0, .slice none 0 0, .int .i64 4]) (by simp [results, Tryz.results45, go_sem]) rfl ?_
     exact ⟨rfl, G2.out.trans G3.out⟩
    | some T =>
     have HT := Lh (HTI.out T rfl)
     clear HTI
     go_enter Tryz.func45, Tryz.ntmps45
     go_wp2_with (first
      | (go_at_call 52; (refine C52.out.mono ?_); rintro e w1 ⟨a, n, c, W, er, rfl, g1, rfl, rfl, rfl, h1⟩; have G1 := Lh g1; have HH1 := Lh h1; clear g1 h1)
      | (go_at_call 30; (refine (C30.out _ G1.out).mono ?_); rintro e w2 ⟨rfl, g2⟩; have G2 := Lh (G1.out.trans g2); have HH2 := Lh (HH1.out.gr g2); clear g2)
      | (go_at_call 53; (refine (C53.out _ G2.out _ _ HH2.out).mono ?_); rintro e w3 ⟨ra, rn, rc, rfl, h3, g3⟩; have G3 := Lh (G2.out.trans g3); have HH3 := Lh h3; clear g3 h3 C52 C53 C30 HH1 HH2))
     obtain ⟨rawT, hR, hD⟩ := HH3.out
     have HR := Lh hR
     have HD := Lh hD
     have HNn := Lh (show rn = T.length ∧ rn ≤ 60 by have := hR.1; have := hD.1; have := HT.out.1; omega)
     clear hR hD
     go_loopw [48, 17, 18] (fun si s17 s18 wr => ∃ (i : Nat) (raw : List Sl), i ≤ rn ∧ si = .int .i64 i ∧ Hid (OwnLs w3 wr s17 raw) ∧ Hid (DatL w3 wr raw ((T.take i).map (·.1))) ∧ Hid (OwnL w3 wr s18 ((T.take i).map (·.2.2))) ∧ Hid (SepL s18 raw)) (fun si _ _ _ => rn - (intOf si).toNat)
     case atStart => exact ⟨0, [], Nat.zero_le _, rfl, Lh (OwnLs.nil' (Gr.refl _)), Lh (DatL.nil _ _), Lh (OwnL.nil _), Lh fun x hx => by cases hx⟩
     case round =>
      obtain ⟨i, raw, hi, rfl, HO1, HD1, HO2, HS⟩ := hrel
      by_cases hlt : i < rn
      ·have i1 : (i : Int) < (rn : Int) := by omega
       obtain ⟨b, o, x, hab, hx, z0, z1, z2⟩ := (HR.out.gr HO1.out.2).at hlt
       obtain ⟨q1, hq1, d1, d2, d3⟩ := HD.out.at hx
       subst hab
       have HQ := Lh (HT.out.2 q1 (List.mem_of_getElem? hq1))
       have Hy := Lh (show x.y = q1.2.2 from d3.2.2)
       obtain ⟨vb, vo, hva, hvc⟩ := (d1.gr HO1.out.2).2.2.2.2.at (show 0 < x.n by have := d1.1; have := HQ.out.1; omega)
       have HXn := Lh d1.1
       have HVc := Lh hvc
       have HTk := Lh (show T.take (i + 1) = T.take i ++ [q1] by rw [List.take_add_one, hq1]; rfl)
       have HRl := Lh (show raw.length < 999999 ∧ ((T.take i).map (·.2.2)).length + 1 ≤ 1000000 by
        have h1 := HD1.out.1
        rw [List.length_map, List.length_take] at h1
        rw [List.length_map, List.length_take]
        have := HNn.out
        omega)
       have HKb := Lh (show ([] : List Int).length + x.n ≤ 1000000 by have := d1.1; have := HQ.out.2; simp; omega)
       have Hlt := Lh hlt
       have w9 := Lh (show wrap64 ((i : Int) + 1) = ((i + 1 : Nat) : Int) by rw [IntWalk.wrap64_in _ (by have := HNn.out; omega)]; omega)
       rw [hva] at z0
       obtain ⟨wA, hwA⟩ : ∃ wA, wr.alloc (.cells #[.slice (some ⟨vb, vo, none⟩) x.n x.c, .slice x.fa x.fn x.fc, .int .i64 x.y] 81) = wA := ⟨_, rfl⟩
       have gA : Gr wr wA := hwA ▸ (Gr.refl wr).alloc _
       obtain ⟨y0, y1, y2⟩ : wA.cell? ⟨wr.heap.size, 0, none⟩ = some (.slice (some ⟨vb, vo, none⟩) x.n x.c) ∧ wA.cell? ⟨wr.heap.size, 1, none⟩ = some (.slice x.fa x.fn x.fc) ∧ wA.cell? ⟨wr.heap.size, 2, none⟩ = some (.int .i64 x.y) := by rw [← hwA]; exact row_box wr _ _ _ _ _ _ _ 81
       have HGA := Lh gA
       have HL0 := Lh (OwnL.lit0 wA)
       have HC := Lh (fun j (hj : j < x.n) => ((Gr.refl wA).alloc (.cells #[] 3)).cell (gA.cell (HVc.out j hj)))
       have hbs : wr.heap.size < wA.heap.size := by rw [← hwA]; simp
       have t0 := ((Gr.refl wA).alloc (.cells #[] 3)).cell y0
       have t2 := ((Gr.refl wA).alloc (.cells #[] 3)).cell y2
       have HBs := Lh hbs
       clear hx hq1 d1 d2 d3 hlt hvc hva gA y1
       generalize x.y = yy at *
       go_wp2_with (first
        | (at_builtin; refine wpList_cat_ints rfl _ _ rfl _ [] q1.1 rfl HL0.out vb vo x.n x.c rfl HXn.out HC.out HKb.out ?_; intro v5 w5 h5 _; obtain ⟨b7, cc7, rfl, hr7, _⟩ := h5.rd; generalize hn7 : ([] ++ q1.1).length = n7 at *; have HN7 := Lh hn7; have HH5 := Lh h5; have HR7 := Lh hr7; have u2 := h5.2.cell y2; clear h5 hr7 HL0 t0 t2 y0 y2 hn7)
        | (at_builtin; refine wpList_app_sl rfl _ _ 27 rfl Tryz.underlying27 _ raw rfl (HO1.out.gr (HGA.out.trans (HH5.out.2.trans ((Gr.refl w5).alloc (.cells #[.slice b7 n7 cc7] 23))))) w5.heap.size (b7, n7, cc7) rfl (box_of w5 _ 23) HRl.out.1 ?_; intro v6 w6 h6 g6; have H6 := Lh h6; have G6 := Lh g6; have u3 := OwnLs.keep HO1.out g6 (Nat.le_refl _) (((Gr.refl w5).alloc (.cells #[.slice b7 n7 cc7] 23)).cell u2); have HN6 := Lh ((HO2.out.gr (HGA.out.trans (HH5.out.2.trans ((Gr.refl w5).alloc (.cells #[.slice b7 n7 cc7] 23))))).other (HO1.out.gr (HGA.out.trans (HH5.out.2.trans ((Gr.refl w5).alloc (.cells #[.slice b7 n7 cc7] 23))))).1 (by decide) (Nat.le_refl _) g6); clear h6 g6 u2)
        | (at_builtin; refine wpList_app1 rfl _ _ rfl _ _ yy rfl (HN6.out.gr ((Gr.refl w6).alloc (.cells #[.int .i64 yy] 3))) w6.heap.size rfl (cell_new1 w6 _ 3) HRl.out.2 ?_; intro v7 w7 h7 g7 n7'; have H7 := Lh h7; have G7 := Lh g7; have N7 := Lh n7'; have e9 := w9.out; clear h7 g7 n7' u3 i1))
       have gX : Gr wr (w5.alloc (.cells #[.slice b7 n7 cc7] 23)) := HGA.out.trans (HH5.out.2.trans ((Gr.refl w5).alloc _))
       have HDn : DatL w3 w6 (raw ++ [(b7, n7, cc7)]) ((T.take (i + 1)).map (·.1)) := by
        rw [HTk.out, List.map_append]
        have hnew : Old w3 w5 3 n7 b7 := OwnL.old HH5.out (by rw [← HN7.out]) w3
        have h0 := ((HD1.out.gr gX).snoc (x := (b7, n7, cc7)) (L := q1.1) (HR7.out.gr ((Gr.refl w5).alloc _)) (hnew.gr ((Gr.refl w5).alloc _)))
        exact h0.grown (HO1.out.gr gX).1 (by decide) (Nat.le_refl _) G6.out
       have HSn : SepL u18 (raw ++ [(b7, n7, cc7)]) := HS.out.snoc HO2.out HGA.out.size HH5.out
       have HDm := HDn.gr ((Gr.refl w6).alloc (.cells #[.int .i64 yy] 3))
       go_roundw
       case rel => exact ⟨i + 1, _, Hlt.out, by first | (rw [e9]) | rfl, Lh ((H6.out.gr ((Gr.refl w6).alloc (.cells #[.int .i64 yy] 3))).other (HN6.out.gr ((Gr.refl w6).alloc (.cells #[.int .i64 yy] 3))).1 (by decide) (Nat.le_refl _) G7.out), Lh (HDm.sep HSn G7.out), Lh (by rw [HTk.out, List.map_append]; show OwnL _ _ _ (_ ++ [q1.2.2]); rw [← Hy.out]; exact H7.out), Lh (HSn.app HDm N7.out)⟩
       case measure => first | (rw [e9]; exact fallX Hlt.out) | exact fallX Hlt.out
      obtain rfl : i = rn := by omega
      have i1 : ¬ (i : Int) < (i : Int) := by omega
      have hT : T.take i = T := List.take_of_length_le (by have := HNn.out; omega)
      obtain ⟨va, vc, rfl, hv⟩ := HO1.out.rd HD1.out
      obtain ⟨na, nc, rfl, hnn, _⟩ := HO2.out.rd
      generalize hnl : (List.map (fun x => x.2.2) (List.take i T)).length = nl at *
      rw [hT] at hv hnn
      have HV := Lh hv
      have HNl := Lh hnn
      have HG := Lh (G3.out.trans HO1.out.2)
      clear hv hnn hT hlt HD1 HO1 HO2 HS
      generalize raw.length = rl at *
      clear hnl
      go_wp2_with fail
      refine bodyPost_ret (v := .tuple #[.slice va rl vc, .slice na nl nc, .int .i64 0]) (by simp [results, Tryz.results45, go_sem]) rfl ?_
      exact ⟨_, _, _, _, _, _, rfl, HV.out, HNl.out, HG.out⟩
theorem begH_at_len {how : Int} {l : Nat → Int} {Ts : List (Int × Tbl SL)} (hv : vTabs Ts = true) (n : Nat) : ((Ts.map fun y => begH how l y.2).getD n []).length ≤ 60 := by
 rcases Nat.lt_or_ge n Ts.length with h | h
 ·rw [beg_at h]
  refine Nat.le_trans (begR_len how l _) ?_
  have := (vTabs_iff.1 hv).1 _ (List.getElem_mem h)
  unfold vTab at this
  simp only [Bool.and_eq_true, decide_eq_true_eq] at this
  omega
 rw [List.getD_eq_getElem?_getD, List.getElem?_eq_none (by simpa using h)]
 exact Nat.zero_le _
theorem runOk2 {l : Nat → Int} {la : Option Addr} {lc : Nat} {Ts : List (Int × Tbl SL)} {w : World} (hv : vTabs Ts = true) (hl : RdI w la 8 l) (hb : Nm8 l 10) :
  RunOk 2 l la 8 lc Ts (RgH 2 mulR2 stays2) G2 ((tabsOf (φC l) Ts).map (mapT ι2)) w where
 hL := law2
 hm := mulR_2
 hg := GI_map (tabs_GI (φ := φC l) (G' := GC) hv fun L h => φC_GC hb h) fun x hx => ⟨rfl, hx⟩
 hb := fun n hn => by
  have hn' : n < Ts.length := by simpa [wsOf] using hn
  rw [beg_at hn', tabs_at hn', mapT_mapT, gath_id _ (map_srt (vTab_TG ((vTabs_iff.1 hv).1 _ (List.getElem_mem hn'))).1.srt)]
  rfl
 hl := fun n => begH_at_len hv n
 beg := fun n hn W g a1 n1 cc1 hr => begun2_any _ a1 n1 cc1 _ la lc l W hr ((vTabs_iff.1 hv).1 _ (List.getElem_mem hn)) (hl.gr g) hb
 make := fun hp hw hn W ua un uc va vn vc h1 h2 => done_any 2 (.inl rfl) (fun T W' hT q hq => by
  have h := (hT.gd q hq).2
  have hs := hT.st q hq
  have hf := (okT_le hT.ok).2 q hq
  unfold GC MX at h
  simp only [RgH, stays2, decide_eq_true_eq] at hs
  refine ⟨⟨h.1, by omega⟩, fun _ => by omega⟩) hp hw hn _ W ua un uc va vn vc h1 h2
 much := fun w0 W v raw T hO hD hT => tooMuch_any 2 (.inl rfl) w0 W v raw T hO hD hT
theorem runOk3 {l : Nat → Int} {la : Option Addr} {lc : Nat} {Ts : List (Int × Tbl SL)} {w : World} (hv : vTabs Ts = true) (hl : RdI w la 8 l) (hb : Nm8 l 1000) :
  RunOk 3 l la 8 lc Ts (RgH 3 mulR3 fun _ => true) G3 ((tabsOf (cosQ l) Ts).map (mapT ι2)) w where
 hL := law3
 hm := mulR_3
 hg := GI_map (tabs_GI (φ := cosQ l) (G' := GK) hv fun L h => cosQ_GK hb h) fun x hx => ⟨rfl, hx⟩
 hb := fun n hn => by
  have hn' : n < Ts.length := by simpa [wsOf] using hn
  rw [beg_at hn', tabs_at hn', mapT_mapT, gath_id _ (map_srt (vTab_TG ((vTabs_iff.1 hv).1 _ (List.getElem_mem hn'))).1.srt)]
  rfl
 hl := fun n => begH_at_len hv n
 beg := fun n hn W g a1 n1 cc1 hr => begun3_any _ a1 n1 cc1 _ la lc l W hr ((vTabs_iff.1 hv).1 _ (List.getElem_mem hn)) (hl.gr g) hb
 make := fun hp hw hn W ua un uc va vn vc h1 h2 => done_any 3 (.inr rfl) (fun T W' hT q hq => by
  have h := (hT.gd q hq).2
  have hf := (okT_le hT.ok).2 q hq
  have hf2 : q.2.2 ≤ MX := by
   simp only [RgH, fitsH] at hf
   simpa using hf
  unfold MX at hf2
  unfold GK at h
  refine ⟨⟨h.1, by omega⟩, fun h => absurd h (by decide)⟩) hp hw hn _ W ua un uc va vn vc h1 h2
 much := fun w0 W v raw T hO hD hT => tooMuch_any 3 (.inr rfl) w0 W v raw T hO hD hT
theorem nmB_8 {l : Nat → Int} {m : Nat} {B : Int} (h : nmB l m B = true) : m = 8 ∧ Nm8 l B := by
 exact nmB_at h
theorem map_ct (r : Except Int (Tbl Int × Int)) (w : World) (e : Ending) (w' : World) (h : RetCt (r.map fun x => (mapT ι2 x.1, x.2)) w e w') : RetCn r w e w' := by
 cases r with
 | error E => exact h
 | ok x =>
  obtain ⟨va, vn, vc, na, nn, nc, h1, h2, h3, h4⟩ := h
  have e1 : (mapT ι2 x.1).map (·.1) = x.1.map (·.1) := by simp [mapT]
  have e2 : (mapT ι2 x.1).map (·.2.2) = x.1.map (·.2) := by simp [mapT, ι2]
  refine ⟨va, vn, vc, na, nn, nc, h1, ?_, ?_, h4⟩
  ·rw [← e1]; exact h2
  rw [← e2]; exact h3
theorem refCounts_any (a : Option Addr) (n c : Nat) (Ts : List (Int × Tbl SL)) (q : ByteArray) (la : Option Addr) (m lc : Nat) (l : Nat → Int) (w : World) (hr : RdWs w a n c Ts) (hz : SzWs Ts) (hq : q.size ≤ 1000000) (hm : m ≤ 9223372036854775807) (hl : RdI w la m l) :
  Calls Tryz.prog 13 #[.slice a n c, .string q, .slice la m lc] w (RetCn (resQ RgC (φC l) (nmB l m 10) Ts q.data.toList) w) := by
 have C45 := Lh ((counted_any 2 10 l la m lc Ts mulR2 stays2 G2 ((tabsOf (φC l) Ts).map (mapT ι2)) a n c q w hr hz hq hl hm fun hv hn => by
  obtain ⟨rfl, hb⟩ := nmB_8 hn
  exact runOk2 hv hl hb).mono fun e w' h => map_ct _ w e w' (by rw [← res2 (fun hn => (nmB_8 hn).2)]; exact h))
 clear hr hz hq hm hl
 cases hres : resQ RgC (φC l) (nmB l m 10) Ts q.data.toList with
 | error E =>
  rw [hres] at C45
  go_enter Tryz.func13, Tryz.ntmps13
  go_wp2_with (go_at_call 45; (refine C45.out.mono ?_); rintro e w1 ⟨rfl, g1⟩; have G1 := Lh g1; clear g1)
  refine bodyPost_ret (v := .tuple #[.slice none 0 0, .slice none 0 0, .int .i64 E]) (by simp [results, Tryz.results13, go_sem]) rfl ?_
  exact ⟨rfl, G1.out⟩
 | ok x =>
  rw [hres] at C45
  go_enter Tryz.func13, Tryz.ntmps13
  go_wp2_with (go_at_call 45; (refine C45.out.mono ?_); rintro e w1 ⟨va, vn, vc, na, nn, nc, rfl, h1, h2, g1⟩; have G1 := Lh g1; have HH1 := Lh h1; have HH2 := Lh h2; clear g1 h1 h2)
  refine bodyPost_ret (v := .tuple #[.slice va vn vc, .slice na nn nc, .int .i64 0]) (by simp [results, Tryz.results13, go_sem]) rfl ?_
  exact ⟨va, vn, vc, na, nn, nc, rfl, HH1.out, HH2.out, G1.out⟩
theorem refCosts_any (a : Option Addr) (n c : Nat) (Ts : List (Int × Tbl SL)) (q : ByteArray) (la : Option Addr) (m lc : Nat) (l : Nat → Int) (w : World) (hr : RdWs w a n c Ts) (hz : SzWs Ts) (hq : q.size ≤ 1000000) (hm : m ≤ 9223372036854775807) (hl : RdI w la m l) :
  Calls Tryz.prog 17 #[.slice a n c, .string q, .slice la m lc] w (RetCn (resQ RgK (cosQ l) (nmB l m 1000) Ts q.data.toList) w) := by
 have C45 := Lh ((counted_any 3 1000 l la m lc Ts mulR3 (fun _ => true) G3 ((tabsOf (cosQ l) Ts).map (mapT ι2)) a n c q w hr hz hq hl hm fun hv hn => by
  obtain ⟨rfl, hb⟩ := nmB_8 hn
  exact runOk3 hv hl hb).mono fun e w' h => map_ct _ w e w' (by rw [← res3 (fun hn => (nmB_8 hn).2)]; exact h))
 clear hr hz hq hm hl
 cases hres : resQ RgK (cosQ l) (nmB l m 1000) Ts q.data.toList with
 | error E =>
  rw [hres] at C45
  go_enter Tryz.func17, Tryz.ntmps17
  go_wp2_with (go_at_call 45; (refine C45.out.mono ?_); rintro e w1 ⟨rfl, g1⟩; have G1 := Lh g1; clear g1)
  refine bodyPost_ret (v := .tuple #[.slice none 0 0, .slice none 0 0, .int .i64 E]) (by simp [results, Tryz.results17, go_sem]) rfl ?_
  exact ⟨rfl, G1.out⟩
 | ok x =>
  rw [hres] at C45
  go_enter Tryz.func17, Tryz.ntmps17
  go_wp2_with (go_at_call 45; (refine C45.out.mono ?_); rintro e w1 ⟨va, vn, vc, na, nn, nc, rfl, h1, h2, g1⟩; have G1 := Lh g1; have HH1 := Lh h1; have HH2 := Lh h2; clear g1 h1 h2)
  refine bodyPost_ret (v := .tuple #[.slice va vn vc, .slice na nn nc, .int .i64 0]) (by simp [results, Tryz.results17, go_sem]) rfl ?_
  exact ⟨va, vn, vc, na, nn, nc, rfl, HH1.out, HH2.out, G1.out⟩
end Go.Proofs.YtehdemcfeoiecaaGreatDoor
namespace Go.Proofs.YtehdemcfeoiecaaGreatDoor
open Go.RowKit Go.Firn Go.Firn.Tb
theorem fallY {j n : Nat} (h : j < n) : n - (intOf (.int .i64 ((j + 1 : Nat) : Int))).toNat < n - (intOf (.int .i64 (j : Int))).toNat := by simp only [intOf]; omega
theorem SameInts_eq (a : Option Addr) (n c : Nat) (a' : Option Addr) (n' c' : Nat) (L : List Int) (w : World) (h : Rd3 w a n c L) (h' : Rd3 w a' n' c' L) : Calls Tryz.prog 15 #[.slice a n c, .slice a' n' c'] w (RetB true w) := by
 obtain rfl : n' = n := by have := h.1; have := h'.1; omega
 have HH1 := Lh h.2.2.2.2
 have HH2 := Lh h'.2.2.2.2
 have HN := Lh (show n' ≤ 9223372036854775807 by have := h.2.1; have := h.2.2.1; omega)
 clear h h'
 go_enter Tryz.func15, Tryz.ntmps15
 go_wp2_with fail
 go_loopw [13] (fun si wr => ∃ i : Nat, i ≤ n' ∧ si = .int .i64 i ∧ Hid (Gr w wr)) (fun si _ => n' - (intOf si).toNat)
 case atStart => exact ⟨0, Nat.zero_le _, rfl, Lh (Gr.refl w)⟩
 case round =>
  obtain ⟨i, hi, rfl, HG⟩ := hrel
  by_cases hlt : i < n'
  ·have i1 : (i : Int) < (n' : Int) := by omega
   obtain ⟨b, o, rfl, hc⟩ := HH1.out.at hlt
   obtain ⟨b2, o2, rfl, hc2⟩ := HH2.out.at hlt
   have z0 := HG.out.cell (hc i hlt)
   have z1 := HG.out.cell (hc2 i hlt)
   have Hlt := Lh hlt
   have w9 := Lh (show wrap64 ((i : Int) + 1) = ((i + 1 : Nat) : Int) by rw [IntWalk.wrap64_in _ (by have := HN.out; omega)]; omega)
   generalize iv L i = u at *
   clear hc hc2
   go_upto_region 6 with fail
   refine Hg (fun w' => Gr wr w') 9 ?_
   have hS : Gr wr wr.drew := (Gr.refl wr).drew
   obtain ⟨wT, hw9⟩ : ∃ W9, wr.drew = W9 := ⟨_, rfl⟩
   rw [hw9] at hS ⊢
   clear hw9
   refine H5 0 1 2 3 4 (c2 z0 z1) hS ?_; refine H4 5 6 7 8 (c2 z0 z1) hS ?_
   refine Hd ?_
   have HG2 := Lh (HG.out.trans hS)
   have e9 := w9.out
   clear hS z0 z1 i1
   go_wp2_with fail
   go_roundw
   case rel => exact ⟨i + 1, Hlt.out, by first | rw [e9] | rfl, HG2⟩
   case measure => first | (rw [e9]; exact fallY Hlt.out) | exact fallY Hlt.out
  obtain rfl : i = n' := by omega
  have i1 : ¬ (i : Int) < (i : Int) := by omega
  clear hlt
  go_wp2_with fail
  go_ret
  exact ⟨rfl, HG.out⟩
theorem SameLists_eq (a : Option Addr) (n c : Nat) (a' : Option Addr) (n' c' : Nat) (L : List (List Int)) (w : World) (h : RdLs w a n c L) (h' : RdLs w a' n' c' L) : Calls Tryz.prog 14 #[.slice a n c, .slice a' n' c'] w (RetB true w) := by
 obtain rfl : n' = n := by have := h.1; have := h'.1; omega
 have HN := Lh (show n' ≤ 9223372036854775807 by have := h.2.1; have := h.2.2.1; omega)
 have HH1 := Lh h
 have HH2 := Lh h'
 clear h h'
 go_enter Tryz.func14, Tryz.ntmps14
 go_wp2_with fail
 go_loopw [13] (fun si wr => ∃ i : Nat, i ≤ n' ∧ si = .int .i64 i ∧ Hid (Gr w wr)) (fun si _ => n' - (intOf si).toNat)
 case atStart => exact ⟨0, Nat.zero_le _, rfl, Lh (Gr.refl w)⟩
 case round =>
  obtain ⟨i, hi, rfl, HG⟩ := hrel
  by_cases hlt : i < n'
  ·have i1 : (i : Int) < (n' : Int) := by omega
   obtain ⟨b, o, M, a1, n1, cc1, rfl, hM, k0, r0⟩ := HH1.out.at hlt
   obtain ⟨b2, o2, M2, a2, n2, cc2, rfl, hM2, k1, r1⟩ := HH2.out.at hlt
   obtain rfl : M = M2 := by rw [hM] at hM2; exact Option.some.inj hM2
   have z0 := HG.out.cell k0
   have z1 := HG.out.cell k1
   have CS := Lh (fun W (g : Gr w W) => SameInts_eq a1 n1 cc1 a2 n2 cc2 M W (r0.gr g) (r1.gr g))
   have Hlt := Lh hlt
   have w9 := Lh (show wrap64 ((i : Int) + 1) = ((i + 1 : Nat) : Int) by rw [IntWalk.wrap64_in _ (by have := HN.out; omega)]; omega)
   clear hM hM2 k0 k1 r0 r1
   go_upto_region 6 with fail
   refine Hg (fun w' => Gr wr w') 10 ?_
   have hS : Gr wr wr.drew := (Gr.refl wr).drew
   obtain ⟨wT, hw9⟩ : ∃ W9, wr.drew = W9 := ⟨_, rfl⟩
   rw [hw9] at hS ⊢
   clear hw9
   refine H5 0 1 2 3 4 (c2 z0 z1) hS ?_; refine H3 5 6 7 (c2 z0 z1) hS ?_
   refine Hr 8 rfl (fun K hK => ?_)
   go_simp
   refine ⟨trivial, ?_⟩
   refine (callsIn_wide.2 (CS.out _ (HG.out.trans hS))).mono ?_
   rintro e w4 ⟨rfl, g4⟩
   have hS : Gr wr w4 := hS.trans g4
   refine hK.out _ _ hS ?_
   clear hK K g4 CS
   refine H1 9 tv hS ?_
   refine Hd ?_
   have HG2 := Lh (HG.out.trans hS)
   have e9 := w9.out
   clear hS i1
   go_wp2_with fail
   go_roundw
   case rel => exact ⟨i + 1, Hlt.out, by first | rw [e9] | rfl, HG2⟩
   case measure => first | (rw [e9]; exact fallY Hlt.out) | exact fallY Hlt.out
  obtain rfl : i = n' := by omega
  have i1 : ¬ (i : Int) < (i : Int) := by omega
  clear hlt
  go_wp2_with fail
  go_ret
  exact ⟨rfl, HG.out⟩
def RetSome (w : World) (e : Ending) (w' : World) : Prop := ∃ b, e = .returned (.bool b) ∧ Gr w w'
theorem Wide_some (a : Option Addr) (n c : Nat) (Ts : List (Int × Tbl SL)) (w : World) (h : RdWs w a n c Ts) : Calls Tryz.prog 9 #[.slice a n c] w (RetSome w) := by
 have HT := Lh h
 have HN := Lh (show n ≤ 9223372036854775807 by have := h.2.1; have := h.2.2.1; omega)
 clear h
 go_enter Tryz.func9, Tryz.ntmps9
 go_wp2_with fail
 go_loopw [14, 3] (fun si s3 wr => ∃ (i : Nat) (z : Int), i ≤ n ∧ si = .int .i64 i ∧ s3 = .int .i64 z ∧ Hid (Gr w wr)) (fun si _ _ => n - (intOf si).toNat)
 case atStart => exact ⟨0, _, Nat.zero_le _, rfl, rfl, Lh (Gr.refl w)⟩
 case round =>
  obtain ⟨i, z, hi, rfl, rfl, HG⟩ := hrel
  by_cases hlt : i < n
  ·have i1 : (i : Int) < (n : Int) := by omega
   obtain ⟨b, o, r, a1, n1, cc1, rfl, hr, k0, k1, hw⟩ := (HT.out.gr HG.out).at hlt
   have HW := Lh hw
   have HN1 := Lh (show n1 ≤ 9223372036854775807 by have := hw.2.1; have := hw.2.2.1; omega)
   have Hlt := Lh hlt
   have w9 := Lh (show wrap64 ((i : Int) + 1) = ((i + 1 : Nat) : Int) by rw [IntWalk.wrap64_in _ (by have := HN.out; omega)]; omega)
   obtain ⟨r1, r2⟩ := r
   simp only at k0
   clear hr hw
   go_wp2_with fail
   go_loopw [21, 3] (fun si s3 W => ∃ (j : Nat) (z : Int), j ≤ n1 ∧ si = .int .i64 j ∧ s3 = .int .i64 z ∧ Hid (Gr wr W)) (fun si _ _ => n1 - (intOf si).toNat)
   case atStart => exact ⟨0, _, Nat.zero_le _, rfl, rfl, Lh ((Gr.refl _).alloc _)⟩
   case round =>
    obtain ⟨j, z, hj, rfl, rfl, HG1⟩ := hrel
    by_cases hlj : j < n1
    ·have i1 : (j : Int) < (n1 : Int) := by omega
     obtain ⟨b, o, r, a2, n2, cc2, a3, n3, cc3, rfl, hr, k0, k1, _, hp⟩ := (HW.out.gr HG1.out).at hlj
     have HP := Lh hp.2.2.2.2
     have HN2 := Lh (show n3 ≤ 9223372036854775807 by have := hp.2.1; have := hp.2.2.1; omega)
     have Hlj := Lh hlj
     have w8 := Lh (show wrap64 ((j : Int) + 1) = ((j + 1 : Nat) : Int) by rw [IntWalk.wrap64_in _ (by have := HN1.out; omega)]; omega)
     clear hr hp
     go_wp2_with fail
     go_loopw [39, 3] (fun si s3 W => ∃ (j : Nat) (z : Int), j ≤ n3 ∧ si = .int .i64 j ∧ s3 = .int .i64 z ∧ Hid (Gr wr W)) (fun si _ _ => n3 - (intOf si).toNat)
     case atStart => exact ⟨0, _, Nat.zero_le _, rfl, rfl, Lh ((Gr.refl _).alloc _)⟩
     case round =>
      obtain ⟨k, z, hk, rfl, rfl, HG2⟩ := hrel
      by_cases hlk : k < n3
      ·have i1 : (k : Int) < (n3 : Int) := by omega
       obtain ⟨b, o, rfl, hc⟩ := (HP.out.gr HG2.out).at hlk
       obtain ⟨y0, y1⟩ := hc k hlk
       have Hlk := Lh hlk
       have w7 := Lh (show wrap64 ((k : Int) + 1) = ((k + 1 : Nat) : Int) by rw [IntWalk.wrap64_in _ (by have := HN2.out; omega)]; omega)
       have e9 := w7.out
       clear hc
       go_wp2_with fail
       go_roundw
       case rel => exact ⟨k + 1, _, Hlk.out, by first | rw [e9] | rfl, rfl, Lh (HG2.out.alloc _)⟩
       case measure => first | (rw [e9]; exact fallY Hlk.out) | exact fallY Hlk.out
      obtain rfl : k = n3 := by omega
      have i1 : ¬ (k : Int) < (k : Int) := by omega
      have e9 := w8.out
      clear hlk
      go_wp2_with fail
      go_roundw
      case rel => exact ⟨j + 1, _, Hlj.out, by first | rw [e9] | rfl, rfl, Lh (HG1.out.trans HG2.out)⟩
      case measure => first | (rw [e9]; exact fallY Hlj.out) | exact fallY Hlj.out
    obtain rfl : j = n1 := by omega
    have i1 : ¬ (j : Int) < (j : Int) := by omega
    have e9 := w9.out
    clear hlj
    go_wp2_with fail
    go_roundw
    case rel => exact ⟨i + 1, _, Hlt.out, by first | rw [e9] | rfl, rfl, Lh (HG.out.trans HG1.out)⟩
    case measure => first | (rw [e9]; exact fallY Hlt.out) | exact fallY Hlt.out
  obtain rfl : i = n := by omega
  have i1 : ¬ (i : Int) < (i : Int) := by omega
  clear hlt
  go_wp2_with fail
  go_ret
  exact ⟨_, rfl, HG.out⟩
theorem many_any (q : ByteArray) (a : Option Addr) (m c : Nat) (w : World) : Calls Tryz.prog 10 #[.string q, .slice a m c] w (RetB (decide (300 < q.size) || decide (100 < m)) w) := by
 by_cases h : 300 < q.size
 ·have h1 : (300 : Int) < (q.size : Int) := by omega
  have h2 : decide ((300 : Int) < (q.size : Int)) = true := decide_eq_true h1
  have HD := Lh (show (decide (300 < q.size) || decide (100 < m)) = true by rw [decide_eq_true h]; rfl)
  rw [HD.out]
  clear HD
  go_enter Tryz.func10, Tryz.ntmps10
  go_wp2_with fail
  go_ret
  exact ⟨rfl, Gr.refl w⟩
 have h1 : ¬ (300 : Int) < (q.size : Int) := by omega
 have h2 : decide ((300 : Int) < (q.size : Int)) = false := decide_eq_false h1
 have HD := Lh (show (decide (300 < q.size) || decide (100 < m)) = decide ((100 : Int) < (m : Int)) by
  rw [decide_eq_false h, Bool.false_or]
  exact decide_eq_decide.2 (by omega))
 rw [HD.out]
 clear HD
 go_enter Tryz.func10, Tryz.ntmps10
 go_wp2_with fail
 go_ret
 exact ⟨by simp, Gr.refl w⟩
def vvC (r : Except Int (Tbl Int × Int)) : List (List Int) := match r with
 | .error _ => []
 | .ok x => x.1.map (·.1)
def nnC (r : Except Int (Tbl Int × Int)) : List Int := match r with
 | .error _ => []
 | .ok x => x.1.map (·.2)
def erC (r : Except Int (Tbl Int × Int)) : Int := match r with
 | .error E => E
 | .ok _ => 0
theorem rdLs_nil (w : World) : RdLs w none 0 0 [] := ⟨rfl, Nat.le_refl _, by omega, fun _ => rfl, .inl rfl⟩
theorem rd3_nil (w : World) : Rd3 w none 0 0 [] := ⟨rfl, Nat.le_refl _, by omega, fun _ => rfl, .inl rfl⟩
def RetU (V : List (List Int)) (N : List Int) (E : Int) (w : World) (e : Ending) (w' : World) : Prop := ∃ va vn vc na nn nc, e = .returned (.tuple #[.slice va vn vc, .slice na nn nc, .int .i64 E]) ∧ RdLs w' va vn vc V ∧ Rd3 w' na nn nc N ∧ Gr w w'
theorem cn_u {r : Except Int (Tbl Int × Int)} {w : World} {e : Ending} {w' : World} (h : RetCn r w e w') : RetU (vvC r) (nnC r) (erC r) w e w' := by
 cases r with
 | error E => exact ⟨none, 0, 0, none, 0, 0, h.1, rdLs_nil _, rd3_nil _, h.2⟩
 | ok x =>
  obtain ⟨va, vn, vc, na, nn, nc, h1, h2, h3, h4⟩ := h
  exact ⟨va, vn, vc, na, nn, nc, h1, h2, h3, h4⟩
namespace provCounts
def RetOk (w : World) (e : Ending) (w' : World) : Prop := e = .returned (.bool true) ∧ Gr w w'
theorem walk (a : Option Addr) (n c : Nat) (Ts : List (Int × Tbl SL)) (q : ByteArray) (la : Option Addr) (m lc : Nat) (l : Nat → Int) (w : World) (hr : RdWs w a n c Ts) (hz : SzWs Ts) (hq : q.size ≤ 9223372036854775807) (hm : m ≤ 9223372036854775807) (_hmc : m ≤ lc) (hl : RdI w la m l) (hT : Pow10 w) (hE : Errs w) :
  Calls Tryz.prog 3 #[.slice a n c, .string q, .slice la m lc] w (RetOk w) := by
 have C9 := Lh (Wide_some a n c Ts w hr)
 have C10 := Lh (fun W => many_any q la m lc W)
 have C11 := Lh Awake_any
 have C12 := Lh (fun W (k : Gr w W) => (Counts_any a n c Ts q la m lc l W (hr.gr k) hz hq hm (hl.gr k) (hT.gr k) (hE.gr k)).mono fun _ _ => cn_u)
 have C16 := Lh (fun W (k : Gr w W) => (Costs_any a n c Ts q la m lc l W (hr.gr k) hz hq hm (hl.gr k) (hT.gr k) (hE.gr k)).mono fun _ _ => cn_u)
 have C13 := Lh (fun (h : q.size ≤ 1000000) W (k : Gr w W) => (refCounts_any a n c Ts q la m lc l W (hr.gr k) hz h hm (hl.gr k)).mono fun _ _ => cn_u)
 have C17 := Lh (fun (h : q.size ≤ 1000000) W (k : Gr w W) => (refCosts_any a n c Ts q la m lc l W (hr.gr k) hz h hm (hl.gr k)).mono fun _ _ => cn_u)
 have HQ := Lh (show (decide (300 < q.size) || decide (100 < m)) = false → q.size ≤ 1000000 from fun h => by
  simp only [Bool.or_eq_false_iff, decide_eq_false_iff_not] at h
  omega)
 generalize (decide (300 < q.size) || decide (100 < m)) = bm at *
 generalize vvC (resQ RgC (φC l) (nmB l m 10) Ts q.data.toList) = V1 at *
 generalize nnC (resQ RgC (φC l) (nmB l m 10) Ts q.data.toList) = N1 at *
 generalize erC (resQ RgC (φC l) (nmB l m 10) Ts q.data.toList) = E1 at *
 generalize vvC (resQ RgK (cosQ l) (nmB l m 1000) Ts q.data.toList) = V2 at *
 generalize nnC (resQ RgK (cosQ l) (nmB l m 1000) Ts q.data.toList) = N2 at *
 generalize erC (resQ RgK (cosQ l) (nmB l m 1000) Ts q.data.toList) = E2 at *
 clear hr hz hq hm hl hT hE _hmc
 cases bm with
 | true =>
  clear C12 C13 C16 C17 HQ
  go_enter Tryz.func3, Tryz.ntmps3
  go_wp2_with (first
   | (go_at_call 9; (refine C9.out.mono ?_); rintro e w1 ⟨b, rfl, g1⟩; have G1 := Lh g1; clear g1; cases b)
   | (go_at_call 10; (refine (C10.out _).mono ?_); rintro e w2 ⟨rfl, g2⟩; have G2 := Lh (G1.out.trans g2); clear g2 G1; have G1 := G2)
   | (go_at_call 11; (refine (C11.out _).mono ?_); rintro e w3 ⟨rfl, g3⟩; have G3 := Lh (G1.out.trans g3); clear g3))
  all_goals (go_ret; exact ⟨rfl, G3.out⟩)
 | false =>
  have HB := Lh (HQ.out rfl)
  clear HQ
  go_enter Tryz.func3, Tryz.ntmps3
  go_wp2_with (first
   | (go_at_call 9; (refine C9.out.mono ?_); rintro e w1 ⟨b, rfl, g1⟩; have G1 := Lh g1; clear g1 C9; cases b)
   | (go_at_call 10; (refine (C10.out _).mono ?_); rintro e w2 ⟨rfl, g2⟩; have G2 := Lh (G1.out.trans g2); clear g2 C10)
   | (go_at_call 11; (refine (C11.out _).mono ?_); rintro e w9 ⟨rfl, g9⟩; have G9 := Lh g9; clear g9)
   | (go_at_call 12; (with_reducible refine (C12.out _ G2.out).mono ?_); rintro e w3 ⟨va, vn, vc, na, nn, nc, rfl, h1, h2, g3⟩; have HH1 := Lh h1; have HH2 := Lh h2; have G3 := Lh (G2.out.trans g3); clear h1 h2 g3 C12)
   | (go_at_call 13; (with_reducible refine (C13.out HB.out _ G3.out).mono ?_); rintro e w4 ⟨vb, vm, vd, nb, nm, nd, rfl, h3, h4, g4⟩; have K1 := Lh (fun W (k : Gr w4 W) => SameLists_eq va vn vc vb vm vd _ W (HH1.out.gr (g4.trans k)) (h3.gr k)); have K2 := Lh (fun W (k : Gr w4 W) => SameInts_eq na nn nc nb nm nd _ W (HH2.out.gr (g4.trans k)) (h4.gr k)); have G4 := Lh (G3.out.trans g4); have R4 := Lh (Gr.refl w4); clear h3 h4 g4 C13 HH1 HH2)
   | (go_at_call 14; (with_reducible refine (K1.out _ R4.out).mono ?_); rintro e w5 ⟨rfl, g5⟩; have G5 := Lh g5; clear g5 K1)
   | (go_at_call 15; (with_reducible refine (K2.out _ G5.out).mono ?_); rintro e w6 ⟨rfl, g6⟩; have G6 := Lh (G4.out.trans (G5.out.trans g6)); clear g6 K2 G5)
   | (go_at_call 16; (with_reducible refine (C16.out _ G6.out).mono ?_); rintro e w3 ⟨va, vn, vc, na, nn, nc, rfl, h1, h2, g3⟩; have HH1 := Lh h1; have HH2 := Lh h2; have G7 := Lh (G6.out.trans g3); clear h1 h2 g3 C16)
   | (go_at_call 17; (with_reducible refine (C17.out HB.out _ G7.out).mono ?_); rintro e w4 ⟨vb, vm, vd, nb, nm, nd, rfl, h3, h4, g4⟩; have K3 := Lh (fun W (k : Gr w4 W) => SameLists_eq va vn vc vb vm vd _ W (HH1.out.gr (g4.trans k)) (h3.gr k)); have K4 := Lh (fun W (k : Gr w4 W) => SameInts_eq na nn nc nb nm nd _ W (HH2.out.gr (g4.trans k)) (h4.gr k)); have G8 := Lh (G7.out.trans g4); have R8 := Lh (Gr.refl w4); clear h3 h4 g4 C17 HH1 HH2)
   | (go_at_call 14; (with_reducible refine (K3.out _ R8.out).mono ?_); rintro e w5 ⟨rfl, g5⟩; have G5 := Lh g5; clear g5 K3)
   | (go_at_call 15; (with_reducible refine (K4.out _ G5.out).mono ?_); rintro e w6 ⟨rfl, g6⟩; have G10 := Lh (G8.out.trans (G5.out.trans g6)); clear g6 K4 G5))
  all_goals (go_ret; first | exact ⟨rfl, G10.out.trans G9.out⟩ | exact ⟨rfl, G1.out.trans G9.out⟩)
end provCounts
end Go.Proofs.YtehdemcfeoiecaaGreatDoor
namespace Go.Firn
theorem IsRow.cap {w : World} {a : Option Addr} {len cap : Nat} {zs : List Int} (h : IsRow w a len cap zs) : len ≤ cap := by
 rcases h with ⟨_, rfl, rfl, _⟩ | ⟨x, _, hl, _⟩
 ·exact Nat.le_refl _
 exact hl
end Go.Firn
namespace Go.Proofs.YtehdemcfeoiecaaGreatDoor
open Go.ChangeShapes Go.WideShapes Go.ChangeAt Go.RowKit Go.Firn
theorem own : ownKnob Tryz.prog.godebug = none := by kernel_rfl
theorem laidOut : laidOutB Tryz.prog = true := by kernel_rfl
def fillObj (zs : List Nat) : Obj → Obj
 | .cells _ t frozen => .cells (zs.map fun x : Nat => Value.int .u8 (x : Int)).toArray t frozen
 | o => o
def accZ : List Nat := [128, 191, 160, 191, 128, 159, 144, 191, 128, 143]
theorem gPow : Tryz.prog.globalNamed "internal/strconv.uint64pow10" = some 5 := by kernel_rfl
theorem gPowType : (Tryz.prog.globals[5]?).map (·.type) = some 286 := by kernel_rfl
theorem gES : Tryz.prog.globalNamed "strconv.ErrSyntax" = some 3 := by kernel_rfl
theorem gESType : (Tryz.prog.globals[3]?).map (·.type) = some 170 := by kernel_rfl
theorem gER : Tryz.prog.globalNamed "strconv.ErrRange" = some 4 := by kernel_rfl
theorem gERType : (Tryz.prog.globals[4]?).map (·.type) = some 170 := by kernel_rfl
theorem cells286 : Tryz.prog.cellsOf 286 = 20 := by kernel_rfl
theorem cells247 : Tryz.prog.cellsOf 247 = 1 := by kernel_rfl
theorem cells284 : Tryz.prog.cellsOf 284 = 1 := by kernel_rfl
theorem cells9 : Tryz.prog.cellsOf 9 = 1 := by kernel_rfl
theorem starE : "*" ++ "errors.errorString" = "*errors.errorString" := by decide
theorem row282 (u : TypeId) (h : Tryz.prog.typeName? 3 u = some "*errors.errorString") : u = 282 :=
 typeName_ptr_named (nm := "errors.errorString") (by rw [starE]; kernel_rfl) (by kernel_rfl) (by decide) u (by rw [starE]; exact h)
theorem pow_of {W : World} (h : laidMetH Tryz.prog Rows.provCountsRow.laid W) : Pow10 W :=
 Lib.tabIs_of_head (rest := []) (zs := Lib.pow10Tab) gPow gPowType Tryz.underlying286 Tryz.underlying247 cells247 cells286 (laidMetH.filter (fun x => x.1 == "internal/strconv.uint64pow10") h)
theorem errs_of {W : World} (h : laidMetH Tryz.prog Rows.provCountsRow.laid W) : Errs W := by
 obtain ⟨a0, s0, hv0, -, -, -⟩ := laid_sentinel (r := []) (laidMetH.filter (fun x => x.1 == "strconv.ErrSyntax") h) gES gESType Tryz.underlying170 row282 Tryz.underlying282 Tryz.underlying284 rfl rfl Tryz.underlying9 cells284 cells9
 obtain ⟨a1, s1, hv1, -, -, -⟩ := laid_sentinel (r := []) (laidMetH.filter (fun x => x.1 == "strconv.ErrRange") h) gER gERType Tryz.underlying170 row282 Tryz.underlying282 Tryz.underlying284 rfl rfl Tryz.underlying9 cells284 cells9
 rintro g (rfl | rfl)
 ·exact ⟨_, by have h0 := World.var?_cell gES hv0 0; simpa using h0, .inr ⟨_, _, rfl⟩⟩
 exact ⟨_, by have h0 := World.var?_cell gER hv1 0; simpa using h0, .inr ⟨_, _, rfl⟩⟩
abbrev textES : ByteArray := { data := #[105, 110, 118, 97, 108, 105, 100, 32, 115, 121, 110, 116, 97, 120] }
abbrev textER : ByteArray := { data := #[118, 97, 108, 117, 101, 32, 111, 117, 116, 32, 111, 102, 32, 114, 97, 110, 103, 101] }
noncomputable def low : Nat := (World.holding Tryz.prog default ⟨#[], #[], []⟩).heap.size
def db32 : List Nat := [0, 1, 28, 2, 29, 14, 24, 3, 30, 22, 20, 15, 25, 17, 4, 8, 31, 27, 13, 23, 21, 19, 16, 7, 26, 12, 18, 6, 11, 5, 10, 9]
def db64 : List Nat := [0, 1, 56, 2, 57, 49, 28, 3, 61, 58, 42, 50, 38, 29, 17, 4, 62, 47, 59, 36, 45, 43, 51, 22, 53, 39, 33, 30, 24, 18, 12, 5, 63, 55, 48, 27, 60, 41, 37, 16, 46, 35, 44, 21, 52, 32, 23, 11, 54, 26, 40, 15, 34, 20, 31, 10, 25, 14, 19, 9, 13, 8, 7, 6]
def fillU64 (zs : List Int) : Obj → Obj
 | .cells _ t frozen => .cells (zs.map fun x => Value.int .u64 x).toArray t frozen
 | o => o
def fillErr (b : Nat) : Obj → Obj
 | .cells _ t frozen => .cells #[.iface 282 (.pointer (some ⟨b, 0, none⟩))] t frozen
 | o => o
noncomputable def laidWorldT (os : Os) : World :=
 let w0 := World.holding Tryz.prog os ⟨#[.cells #[.string textES] 284, .cells #[.string textER] 284], #[], []⟩
 { w0 with heap := ((((((w0.heap.modify 1 (fillObj Go.Pinned.utf8FirstZ)).modify 2 (fillObj (accZ ++ List.replicate 22 0))).modify 3 (fillErr low)).modify 4 (fillErr (low + 1))).modify 5 (fillU64 Lib.pow10Tab)).modify 6 (fillObj db32)).modify 7 (fillObj db64) }
end Go.Proofs.YtehdemcfeoiecaaGreatDoor
namespace Go.Proofs.YtehdemcfeoiecaaGreatDoor.provCounts
open Go.ChangeShapes Go.WideShapes Go.ChangeAt Go.RowKit Go.Firn Go.Firn.Tb
theorem contract (H : Type) (enc : TypeId × Value → H) (W : World) (base : Nat) (args : Array Value) (ds gs : List (DataW H)) (before : List MemPlace)
  (hval0 : ∀ (j : Nat) t v, Tryz.f3.params[j]? = some t → args[j]? = some v → Value.okWide Tryz.prog W .any base t v)
  (hW : DataW.Whole enc Tryz.prog Tryz.f3.params.toList Rows.provCountsSpec.vars false W args.toList ds gs before) (hL : laidMetH Tryz.prog Rows.provCountsRow.laid W) :
  Calls Tryz.prog 3 args W fun e W' => ∃ v, e = .returned v ∧ Rows.provCountsSpec.post enc Tryz.prog Tryz.f3 false true false false W args v W' := by
 have hval : ∀ (j : Nat) t v, Tryz.f3.params[j]? = some t → args[j]? = some v → Value.okWide Tryz.prog W .any base t v := hval0
 have hW' := hW
 obtain ⟨p, q, hA0, hV, rfl, hfz, hnd⟩ := hW
 have hA : DataW.TrodAll enc Tryz.prog W 0 (fun _ => true) true Tryz.f3.params.toList args.toList ds p := hA0
 rw [Tryz.params3] at hA hval
 obtain ⟨v0, vs0, d0, ds0, p0, q0, hargs, rfl, rfl, h0, r0⟩ := trodAll_cons hA
 obtain ⟨v1, vs1, d1, ds1, p1, q1, rfl, rfl, rfl, h1, r1⟩ := trodAll_cons r0
 obtain ⟨v2, vs2, d2, ds2, p2, q2, rfl, rfl, rfl, h2, r2⟩ := trodAll_cons r1
 obtain ⟨rfl, rfl, rfl⟩ := trodAll_nil r2
 obtain rfl : args = #[v0, v1, v2] := by cases args; simp_all
 obtain ⟨rfl, rfl⟩ := trodVars_none hV
 obtain ⟨a0, len0, cap0, rfl⟩ := okWide_slice Tryz.underlying22 (hval 0 22 v0 rfl rfl)
 have k0 := h0
 have lt0 : ∀ x ∈ p0, x.block < W.heap.size := by obtain ⟨m, hm⟩ := k0; exact DataW.trod_lt m _ _ _ hm
 obtain ⟨t0, wr0, wz0⟩ : ∃ Ts, RdWs W a0 len0 cap0 Ts ∧ SzWs Ts := by
  obtain ⟨fuel, hf⟩ := h0
  obtain ⟨a, n, c, Ts, hcs, hr, hz⟩ := open_RdWs Tryz.underlying22 Tryz.underlying36 (by kernel_rfl) ⟨rfl, rfl⟩ ⟨rfl, rfl⟩ (by kernel_rfl) (by kernel_rfl) Tryz.underlying3 Tryz.underlying34 Tryz.underlying52 (by kernel_rfl) ⟨rfl, rfl⟩ ⟨rfl, rfl⟩ (by kernel_rfl) (by kernel_rfl) Tryz.underlying23 Tryz.underlying3 (by kernel_rfl) Tryz.underlying50 Tryz.underlying58 (by kernel_rfl) ⟨rfl, rfl⟩ ⟨rfl, rfl⟩ (by kernel_rfl) (by kernel_rfl) Tryz.underlying9 Tryz.underlying3 hf
  simp [Value.cells] at hcs
  obtain ⟨rfl, rfl, rfl⟩ := hcs
  exact ⟨Ts, hr, hz⟩
 obtain ⟨a1, rfl, rfl, rfl, w1⟩ := Go.ChangeMaps.open_string Tryz.underlying9 (hval 1 9 v1 rfl rfl) h1
 obtain ⟨a2, len2, cap2, rfl⟩ := okWide_slice Tryz.underlying23 (hval 2 23 v2 rfl rfl)
 have k2 := h2
 have lt2 : ∀ x ∈ p2, x.block < W.heap.size := by obtain ⟨m, hm⟩ := k2; exact DataW.trod_lt m _ _ _ hm
 obtain ⟨z2, w2⟩ : ∃ zs, IsRow W a2 len2 cap2 zs := by
  obtain ⟨fuel, hf⟩ := h2
  rcases open_ints Tryz.underlying23 Tryz.underlying3 (by kernel_rfl) hf with ⟨hcs, _⟩ | ⟨x, l, c, zs, hcs, _, hl, hm, hz, _, hcell, hwz⟩
  ·simp [Value.cells] at hcs
   obtain ⟨rfl, rfl, rfl⟩ := hcs
   exact ⟨[], .inl ⟨rfl, rfl, rfl, rfl⟩⟩
  simp [Value.cells] at hcs
  obtain ⟨rfl, rfl, rfl⟩ := hcs
  exact ⟨zs, .inr ⟨_, rfl, hl, hm, by simpa using hz, hcell, hwz⟩⟩
 clear hA0 hval0
 refine (walk a0 len0 cap0 t0 a1 a2 len2 cap2 _ W wr0 wz0 w1 w2.rd.1 w2.cap w2.rd.2 (pow_of hL) (errs_of hL)).mono fun e W' ⟨he, bel⟩ => ?_
 subst he
 exact ⟨_, rfl, _, _, _, [], _, [], hW', trodAll_mk1 (shut_bool Tryz.underlying4 _), (trodAll_cons_mk (Below.trod laidOut (by kernel_rfl) (of_decide_eq_true (by kernel_rfl)) k0 bel lt0) (trodAll_cons_mk (Go.ChangeMaps.shut_string Tryz.underlying9 w1) (trodAll_cons_mk (Below.trod laidOut (by kernel_rfl) (of_decide_eq_true (by kernel_rfl)) k2 bel lt2) trodAll_mk0))), rfl, bel.frame _, fun h => by cases h⟩
theorem met (os : Os) : laidMet Tryz.prog Rows.provCountsRow.laid ((laidWorldT os).forCall (fun _ _ => 0) ⟨#[], #[.slice none 0 0, .string ⟨#[]⟩, .slice none 0 0], []⟩).memory :=
 laidMet_of_run' 8 (by kernel_rfl) (by kernel_rfl)
theorem reads (os : Os) (H : Type) (enc : TypeId × Value → H) : ∃ places, DataW.whole enc Tryz.prog ((laidWorldT os).forCall (fun _ _ => 0) ⟨#[], #[.slice none 0 0, .string ⟨#[]⟩, .slice none 0 0], []⟩).memory Tryz.f3.params.toList Rows.provCountsSpec.vars false (#[.slice none 0 0, .string ⟨#[]⟩, .slice none 0 0] : Array Value).toList 8 = some ([.nil, .lit (.string []), .nil], [], places) :=
 ⟨[], by kernel_rfl⟩
theorem lifted (os : Os) (started : os.Started) (H : Type) (enc : TypeId × Value → H) (F : Stop.Interp) :
  ReturnsInHanded {} Tryz.checked os 3 .any ((OpenSpec.ofChange Rows.provCountsSpec).preRow enc Tryz.prog Tryz.f3 Rows.provCountsRow.domain false Rows.provCountsRow.laid) (((OpenSpec.ofChange Rows.provCountsSpec).at F).post enc Tryz.prog Tryz.f3 false true false false) := by
 obtain ⟨places, hx⟩ := reads os H enc
 refine returnsInHanded_of_row (C := Tryz.checked) (s := OpenSpec.ofChange Rows.provCountsSpec) own started (by kernel_rfl) Tryz.func3
  (witness_row_at (enc := enc) (C := Tryz.checked) false (laidWorldT os) #[.slice none 0 0, .string ⟨#[]⟩, .slice none 0 0] rfl (by kernel_rfl) (by kernel_rfl) (by kernel_rfl)
   (OpenSpec.preRow_of_cond 8 hx (by kernel_rfl) (fun k hk => by cases hk) (by kernel_rfl) (met os))) ?_
 intro W base args ds gs before hval hW _ _ _ hL _ _
 exact contract H enc W base args ds gs before hval hW hL
theorem said : Rows.ProvCountsSaid :=
 OpenClaim.holds_of_cond 3 Tryz.f3 rfl rfl rfl rfl rfl rfl rfl ⟨rfl, rfl, rfl, rfl, rfl⟩ rfl rfl rfl rfl rfl (by kernel_rfl) Tryz.func3 (by kernel_rfl)
  (of_decide_eq_true (by kernel_rfl)) (by unfold Func.isWrapper; first | (rw [if_pos (by decide +kernel)]; kernel_rfl) | (rw [if_neg (by decide +kernel)]; exact ⟨rfl, rfl⟩))
  (fun os started H enc _ F => by rw [OpenClaim.pre_eq_preRow]; exact lifted os started H enc F)
theorem plain (f : FuncId) (fn : Func) (hf : Tryz.pinned.checked.prog.funcNamed Rows.provCountsRow.func = some f) (hfn : Tryz.pinned.checked.prog.funcs[f]? = some fn) :
  true = Tryz.pinned.checked.prog.looks [] ∧ ∀ (j : Nat) t, fn.params[j]? = some t → Tryz.pinned.checked.prog.wantsStandIn t = false := by
 obtain rfl : f = 3 := Option.some.inj ((show Tryz.prog.funcNamed Rows.provCountsRow.func = some 3 by kernel_rfl).symm.trans hf) |>.symm
 obtain rfl : fn = Tryz.f3 := (Option.some.inj (Tryz.func3.symm.trans hfn)).symm
 refine ⟨by kernel_rfl, fun j t ht => ?_⟩
 rw [Tryz.params3] at ht
 have hm : t ∈ (#[22, 9, 23] : Array TypeId) := Array.mem_of_getElem? ht
 simp only [List.mem_toArray, List.mem_cons, List.not_mem_nil, or_false] at hm
 rcases hm with rfl | rfl | rfl
 all_goals first
  | exact (show Tryz.prog.wantsStandIn 22 = false by kernel_rfl)
  | exact (show Tryz.prog.wantsStandIn 9 = false by kernel_rfl)
  | exact (show Tryz.prog.wantsStandIn 23 = false by kernel_rfl)
theorem proved : Rows.ProvCountsCardSaid :=
 Claim7.holds_tied_plain_at .later [] _ _ _ _ said (fun _ h => by cases h) (by kernel_rfl) (fun _ h => by cases h) provCounts_row_tie rfl ⟨rfl, rfl⟩ (by kernel_rfl) rfl plain (by kernel_rfl)
end Go.Proofs.YtehdemcfeoiecaaGreatDoor.provCounts
