/- The numbers of a query's rows, and their costs, by the program. -/
import Derived.Test.YtehdemcfeoiecaaGreatDoorK22
import Derived.Test.YtehdemcfeoiecaaGreatDoorK23
set_option maxHeartbeats 64000000
set_option maxRecDepth 100000
namespace Go.Proofs.YtehdemcfeoiecaaGreatDoor.RI
open Go.RowKit Go.Firn Go.Firn.Tb
def RetAns (r : Except Int (Tbl Int × Int)) (w : World) (e : Ending) (w' : World) : Prop := match r with
 | .error E => e = .returned (.tuple #[.slice none 0 0, .int .i64 0, .int .i64 E]) ∧ Gr w w'
 | .ok x => ∃ a n c, e = .returned (.tuple #[.slice a n c, .int .i64 x.2, .int .i64 0]) ∧ RdT w' w' a n c x.1 ∧ Gr w w'
structure AnsOk (F : RF) (R : Rg Int) (G : Int → Prop) (μ : Int → Nat) (B b : Nat) (fn : Nat) (fb : Array Value) (φ : SL → Int) (w : World) : Prop where
 ring : RingOk F R G μ B w
 from_ : FromOk fn fb φ G0 w
 good : ∀ L, G0 L → G (φ L)
 fit : ∀ d, G d → R.fits d = true → μ d ≤ b
 mul : ∀ x y, G x → G y → R.stays x = true → R.stays y = true → R.fits x = true → R.fits y = true → μ (R.mul x y) ≤ b
 beg : ∀ L, G0 L → μ (φ L) ≤ b
 room : 120 * b ≤ B
theorem AnsOk.gr {F : RF} {R : Rg Int} {G : Int → Prop} {μ : Int → Nat} {B b : Nat} {fn : Nat} {fb : Array Value} {φ : SL → Int} {w w' : World} (h : AnsOk F R G μ B b fn fb φ w) (g : Gr w w') : AnsOk F R G μ B b fn fb φ w' :=
 ⟨h.ring.gr g, h.from_.gr g, h.good, h.fit, h.mul, h.beg, h.room⟩
theorem qry_plan {ws : List Int} {q : Key} {x : List Wd × Int} (h : qry ws q = some x) : ∃ pw, planW ws x.1 [] = some pw ∧ pw.length = 1 ∧ x.1.length ≤ 12 := by
 unfold qry at h
 split at h
 ·cases h
 rename_i y hy
 split at h
 ·rename_i hl
  cases h
  exact ⟨_, planQ_planW hy, hl.2, hl.1⟩
 cases h
theorem first_at {F : RF} {R : Rg Int} {G : Int → Prop} {μ : Int → Nat} {B b : Nat} {fn : Nat} {fb : Array Value} {φ : SL → Int} {w : World} (h : AnsOk F R G μ B b fn fb φ w) (bt bf k : Nat) (a : Option Addr) (n c : Nat) (Ts : List (Int × Tbl SL)) (hr : RdWs w a n c Ts) (hv : vTabs Ts = true) (hk : k < (wsOf Ts).length) (hbt : w.cell? ⟨bt, 0, none⟩ = some (.slice a n c)) (hbf : w.cell? ⟨bf, 0, none⟩ = some (.func (.func fn) #[] fb)) :
  Calls Tryz.prog 72 #[.int .i64 k, .pointer (some ⟨bt, 0, none⟩), .pointer (some ⟨bf, 0, none⟩)] w (RetRows w ((tabsOf φ Ts).getD k [])) := RS.scrXFs_first_at
theorem sum_ok {F : RF} {R : Rg Int} {G : Int → Prop} {μ : Int → Nat} {B b : Nat} {fn : Nat} {fb : Array Value} {φ : SL → Int} {w : World} (h : AnsOk F R G μ B b fn fb φ w) {Ts : List (Int × Tbl SL)} (hv : vTabs Ts = true) {p : List (Tbl Int)} {pw qw : List Int} {s : Wd} (hP : PI R G pw p) (hg : GI G (wsOf Ts) (tabsOf φ Ts)) (hw : widW (wsOf Ts) s pw = some qw) : sumT μ (cutW R (tabsOf φ Ts) s p) ≤ B := RS.scrXFs_sum_ok
theorem answer_any (F : RF) (R : Rg Int) (G : Int → Prop) (μ : Int → Nat) (B b : Nat) (fn : Nat) (fb : Array Value) (φ : SL → Int) (a : Option Addr) (n c : Nat) (Ts : List (Int × Tbl SL)) (q : ByteArray) (right : Bool) (w : World) (hr : RdWs w a n c Ts) (hz : SzWs Ts) (hq : q.size ≤ 9223372036854775807) (hT : Pow10 w) (hE : Errs w) (hA : right = true → AnsOk F R G μ B b fn fb φ w) :
  Calls Tryz.prog 40 #[.slice a n c, .string q, .bool right, F.val, .func (.func fn) #[] fb] w (RetAns (resQ R φ right Ts q.data.toList) w) := RS.scrXFs_answer_any
end Go.Proofs.YtehdemcfeoiecaaGreatDoor.RI
namespace Go.Proofs.YtehdemcfeoiecaaGreatDoor
open Go.RowKit Go.Firn Go.Firn.Tb RI
theorem bounded_any (x : Int) (w : World) : Calls Tryz.prog 35 #[.int .i64 x] w fun e w' => e = .returned (.int .i64 (min x (MX + 1))) ∧ w' = w := by
 go_enter Tryz.func35, Tryz.ntmps35
 go_wp2_with fail
 go_ret
 exact ⟨rfl, rfl⟩
theorem few_any (x : Int) (w : World) : Calls Tryz.prog 39 #[.int .i64 x] w (RetB (decide (x ≤ MX)) w) := by
 go_enter Tryz.func39, Tryz.ntmps39
 go_wp2_with fail
 go_ret
 exact ⟨rfl, Gr.refl _⟩
theorem stays_any (x : Int) (w : World) : Calls Tryz.prog 38 #[.int .i64 x] w (RetB (decide (0 < x)) w) := by
 go_enter Tryz.func38, Tryz.ntmps38
 go_wp2_with fail
 go_ret
 exact ⟨rfl, Gr.refl _⟩
theorem staysK_any (x : Int) (w : World) : Calls Tryz.prog 48 #[.int .i64 x] w (RetB true w) := by
 go_enter Tryz.func48, Tryz.ntmps48
 go_wp2_with fail
 go_ret
 exact ⟨rfl, Gr.refl _⟩
theorem minK_any (x y : Int) (w : World) : Calls Tryz.prog 46 #[.int .i64 x, .int .i64 y] w (RetD (min x y) w) := by
 go_enter Tryz.func46, Tryz.ntmps46
 go_wp2_with fail
 go_ret
 exact ⟨_, rfl, rfl, Gr.refl _⟩
theorem addK_any (x y : Int) (w : World) (h : 0 ≤ x ∧ x ≤ MX ∧ 0 ≤ y ∧ y ≤ MX) : Calls Tryz.prog 47 #[.int .i64 x, .int .i64 y] w (RetD (x + y) w) := by
 have e1 : wrap64 (x + y) = x + y := IntWalk.wrap64_in _ (by unfold MX at h; omega)
 have e2 : IntKind.i64.wrap (x + y) = x + y := IntWalk.i64_in _ (by unfold MX at h; omega)
 clear h
 go_enter Tryz.func47, Tryz.ntmps47
 go_wp2_with fail
 go_ret
 exact ⟨_, rfl, rfl, Gr.refl _⟩
theorem addC_any (x y : Int) (b : Nat) (w : World) (hb : w.cell? ⟨b, 0, none⟩ = some (.func (.func 35) #[] #[])) (h : GC x ∧ GC y) : Calls Tryz.prog 36 #[.int .i64 x, .int .i64 y, .pointer (some ⟨b, 0, none⟩)] w (RetD (min (x + y) (MX + 1)) w) := by
 have e1 : wrap64 (x + y) = x + y := IntWalk.wrap64_in _ (by unfold GC MX at h; omega)
 have e2 : IntKind.i64.wrap (x + y) = x + y := IntWalk.i64_in _ (by unfold GC MX at h; omega)
 have hcf : ∀ args w, (callFunc 35 args).run Tryz.prog w = .ok (.enter 35 args) w := enters_of Tryz.func35 (by kernel_rfl) rfl
 have C := Lh (bounded_any (x + y) w)
 clear h
 go_enter Tryz.func36, Tryz.ntmps36
 go_wp2_with fail
 refine C.out.mono ?_
 rintro e w1 ⟨rfl, rfl⟩
 go_wp2_with fail
 go_ret
 exact ⟨_, rfl, rfl, Gr.refl _⟩
theorem mulC_any (x y : Int) (w : World) (hx : 0 < x ∧ x ≤ MX) (hy : 0 < y ∧ y ≤ MX) : Calls Tryz.prog 37 #[.int .i64 x, .int .i64 y] w (RetD (mulC x y) w) := by
 have hq : (1000000000000000 : Int).tdiv y = MX / y := Int.tdiv_eq_ediv_of_nonneg (by decide)
 have hq0 : 0 ≤ MX / y := Int.ediv_nonneg (by decide) (by omega)
 have hq1 : MX / y ≤ MX := Int.ediv_le_self _ (by decide)
 have y0 : ¬ y = 0 := by omega
 have y1 : (y == 0) = false := by simp; omega
 have e0 : IntKind.i64.wrap (MX / y) = MX / y := IntWalk.i64_in _ (by unfold MX at *; omega)
 have e1 : wrap64 (MX / y) = MX / y := IntWalk.wrap64_in _ (by unfold MX at *; omega)
 have hb := mulC_bd hx.1 hy.1
 unfold mulC at hb ⊢
 generalize MX / y = q at *
 by_cases h : q < x
 ·rw [if_pos h]
  clear hb
  go_enter Tryz.func37, Tryz.ntmps37
  go_wp2_with fail
  go_ret
  exact ⟨_, rfl, rfl, Gr.refl _⟩
 rw [if_neg h] at hb ⊢
 have e2 : wrap64 (x * y) = x * y := IntWalk.wrap64_in _ (by unfold MX at hb; omega)
 have e3 : IntKind.i64.wrap (x * y) = x * y := IntWalk.i64_in _ (by unfold MX at hb; omega)
 clear hb
 go_enter Tryz.func37, Tryz.ntmps37
 go_wp2_with fail
 go_ret
 exact ⟨_, rfl, rfl, Gr.refl _⟩
def NmBox (w : World) (b : Nat) (l : Nat → Int) : Prop := ∃ a c, w.cell? ⟨b, 0, none⟩ = some (.slice a 8 c) ∧ RdI w a 8 l
theorem NmBox.gr {w w' : World} {b : Nat} {l : Nat → Int} (h : NmBox w b l) (g : Gr w w') : NmBox w' b l := by
 obtain ⟨a, c, h1, h2⟩ := h
 exact ⟨a, c, g.cell h1, h2.gr g⟩
theorem value_at {w : World} {a a' : Option Addr} {n c c' : Nat} {L : SL} {l : Nat → Int} (hr : RdP w a n c L) (h0 : G0 L) (hl : RdI w a' 8 l) (hb : Nm8 l 10) : Calls Tryz.prog 43 #[.slice a n c, .slice a' 8 c'] w fun e w' => e = .returned (.int .i64 (valQ l L)) ∧ Gr w w' := by
 have := value_any a a' n c c' (sx L) (sy L) l w (by rw [hr.1]; exact h0.1) hr.2.2.2.2 hl hb
 rw [hr.1] at this ⊢
 exact this
theorem cost_at {w : World} {a a' : Option Addr} {n c c' : Nat} {L : SL} {l : Nat → Int} (hr : RdP w a n c L) (h0 : G0 L) (hl : RdI w a' 8 l) (hb : Nm8 l 1000) : Calls Tryz.prog 50 #[.slice a n c, .slice a' 8 c'] w fun e w' => e = .returned (.int .i64 (cosQ l L)) ∧ Gr w w' := by
 have hp : 1 ≤ n := by rw [hr.1]; exact List.length_pos_iff.2 h0.2
 have := cost_any a a' n c c' (sx L) (sy L) l w hp (by rw [hr.1]; exact h0.1) hr.2.2.2.2 hl hb
 rw [hr.1] at this ⊢
 exact this
theorem fromC_any (a : Option Addr) (n c b9 b5 : Nat) (L : SL) (l : Nat → Int) (w : World) (hr : RdP w a n c L) (h0 : G0 L) (h9 : w.cell? ⟨b9, 0, none⟩ = some (.func (.func 35) #[] #[])) (h5 : NmBox w b5 l) (hb : Nm8 l 10) :
  Calls Tryz.prog 42 #[.slice a n c, .pointer (some ⟨b9, 0, none⟩), .pointer (some ⟨b5, 0, none⟩)] w (RetD (φC l L) w) := by
 obtain ⟨a', c', h51, h52⟩ := h5
 have hcf : ∀ args w, (callFunc 35 args).run Tryz.prog w = .ok (.enter 35 args) w := enters_of Tryz.func35 (by kernel_rfl) rfl
 have CV := Lh (fun W (k : Gr w W) => value_at (c' := c') (hr.gr k) h0 (h52.gr k) hb)
 have CB := Lh (fun W => bounded_any (valQ l L) W)
 have HE := Lh (show φC l L = min (valQ l L) (MX + 1) from rfl)
 clear hr h0 h52 hb
 generalize valQ l L = v at *
 rw [HE.out]
 go_enter Tryz.func42, Tryz.ntmps42
 go_upto_region 1 with fail
 refine Hg (fun w' => Gr w w') 6 ?_
 have hS : Gr w w.drew := (Gr.refl w).drew
 refine H3 0 1 2 (c2 h9 h51) hS ?_
 refine Hr 3 rfl (fun K hK => ?_)
 go_simp
 refine ⟨trivial, ?_⟩
 refine (callsIn_wide.2 (CV.out _ hS)).mono ?_
 rintro e wX ⟨rfl, gX⟩
 have hS : Gr w wX := hS.trans gX
 refine hK.out _ _ hS ?_
 clear hK K gX
 refine Hr 4 rfl (fun K hK => ?_)
 go_simp
 refine ⟨trivial, ?_⟩
 refine (callsIn_wide.2 (CB.out _)).mono ?_
 rintro e wY ⟨rfl, rfl⟩
 refine hK.out _ _ hS ?_
 clear hK K
 refine H1 5 tv hS ?_
 refine Hd ?_
 go_wp2_with fail
 go_ret
 exact ⟨_, rfl, rfl, hS⟩
theorem fromK_any (a : Option Addr) (n c b5 : Nat) (L : SL) (l : Nat → Int) (w : World) (hr : RdP w a n c L) (h0 : G0 L) (h5 : NmBox w b5 l) (hb : Nm8 l 1000) :
  Calls Tryz.prog 49 #[.slice a n c, .pointer (some ⟨b5, 0, none⟩)] w (RetD (cosQ l L) w) := by
 obtain ⟨a', c', h51, h52⟩ := h5
 have CV := Lh (cost_at (c' := c') hr h0 h52 hb)
 clear hr h0 h52 hb
 go_enter Tryz.func49, Tryz.ntmps49
 go_wp2_with (go_at_call 50; (with_reducible refine CV.out.mono ?_); rintro e w1 ⟨rfl, g1⟩; have G1 := Lh g1; clear g1)
 go_ret
 exact ⟨_, rfl, rfl, G1.out⟩
def FC (b9 : Nat) : RF := ⟨36, 37, 38, 39, #[.pointer (some ⟨b9, 0, none⟩)], #[], #[], #[]⟩
def FK : RF := ⟨46, 47, 48, 39, #[], #[], #[], #[]⟩
theorem ringC {w : World} {b9 : Nat} (h9 : w.cell? ⟨b9, 0, none⟩ = some (.func (.func 35) #[] #[])) : RingOk (FC b9) RgC GC (fun _ => 0) 0 w where
 ep := enters_of Tryz.func36 (by kernel_rfl) rfl
 et := enters_of Tryz.func37 (by kernel_rfl) rfl
 es := enters_of Tryz.func38 (by kernel_rfl) rfl
 ef := enters_of Tryz.func39 (by kernel_rfl) rfl
 plus := fun W y z d e g hy hz hd he _ => by
  unfold Rep at hy hz
  subst hy; subst hz
  exact addC_any y z b9 W (g.cell h9) ⟨hd, he⟩
 times := fun W y z d e g hy hz hd he sd se fd fe => by
  unfold Rep at hy hz
  subst hy; subst hz
  exact mulC_any y z W ⟨by simpa [RgC] using sd, by simpa [RgC] using fd⟩ ⟨by simpa [RgC] using se, by simpa [RgC] using fe⟩
 stays := fun W y d g hy hd => by
  unfold Rep at hy
  subst hy
  exact stays_any y W
 fits := fun W y d g hy hd _ => by
  unfold Rep at hy
  subst hy
  exact few_any y W
 law := lawC
 mu := fun _ _ _ _ => Nat.le_refl _
theorem ansC {w : World} {b9 b5 : Nat} {l : Nat → Int} (h9 : w.cell? ⟨b9, 0, none⟩ = some (.func (.func 35) #[] #[])) (h5 : NmBox w b5 l) (hb : Nm8 l 10) : AnsOk (FC b9) RgC GC (fun _ => 0) 0 0 42 #[.pointer (some ⟨b9, 0, none⟩), .pointer (some ⟨b5, 0, none⟩)] (φC l) w where
 ring := ringC h9
 from_ := ⟨enters_of Tryz.func42 (by kernel_rfl) rfl, fun W a n c L g hr h0 => fromC_any a n c b9 b5 L l W hr h0 (g.cell h9) (h5.gr g) hb⟩
 good := fun _ h => φC_GC hb h
 fit := fun _ _ _ => Nat.le_refl _
 mul := fun _ _ _ _ _ _ _ _ => Nat.le_refl _
 beg := fun _ _ => Nat.le_refl _
 room := Nat.le_refl _
theorem ringK {w : World} : RingOk FK RgK GK (fun _ => 0) 0 w where
 ep := enters_of Tryz.func46 (by kernel_rfl) rfl
 et := enters_of Tryz.func47 (by kernel_rfl) rfl
 es := enters_of Tryz.func48 (by kernel_rfl) rfl
 ef := enters_of Tryz.func39 (by kernel_rfl) rfl
 plus := fun W y z d e g hy hz hd he _ => by
  unfold Rep at hy hz
  subst hy; subst hz
  exact minK_any y z W
 times := fun W y z d e g hy hz hd he sd se fd fe => by
  unfold Rep at hy hz
  subst hy; subst hz
  exact addK_any y z W ⟨hd.1, by simpa [RgK] using fd, he.1, by simpa [RgK] using fe⟩
 stays := fun W y d g hy hd => staysK_any y W
 fits := fun W y d g hy hd _ => by
  unfold Rep at hy
  subst hy
  exact few_any y W
 law := lawK
 mu := fun _ _ _ _ => Nat.le_refl _
theorem ansK {w : World} {b5 : Nat} {l : Nat → Int} (h5 : NmBox w b5 l) (hb : Nm8 l 1000) : AnsOk FK RgK GK (fun _ => 0) 0 0 49 #[.pointer (some ⟨b5, 0, none⟩)] (cosQ l) w where
 ring := ringK
 from_ := ⟨enters_of Tryz.func49 (by kernel_rfl) rfl, fun W a n c L g hr h0 => fromK_any a n c b5 L l W hr h0 (h5.gr g) hb⟩
 good := fun _ h => cosQ_GK hb h
 fit := fun _ _ _ => Nat.le_refl _
 mul := fun _ _ _ _ _ _ _ _ => Nat.le_refl _
 beg := fun _ _ => Nat.le_refl _
 room := Nat.le_refl _
def RetVN (T : Tbl Int) (w : World) (e : Ending) (w' : World) : Prop := ∃ va vn vc na nn nc, e = .returned (.tuple #[.slice va vn vc, .slice na nn nc]) ∧ RdLs w' va vn vc (T.map (·.1)) ∧ Rd3 w' na nn nc (T.map (·.2)) ∧ Gr w w'
theorem box_of (w : World) (v : Value) (e : TypeId) : (w.alloc (.cells #[v] e)).cell? ⟨w.heap.size, 0, none⟩ = some v := cell_new1 w v e
theorem OwnLs.keep {w0 w w' : World} {v : Value} {raw : List Sl} (h : OwnLs w0 w v raw) {A : World} (g : A.grownBy w' v.ownBlock) {bx j : Nat} {u : Value} (hb : w.heap.size ≤ bx) (hc : A.cell? ⟨bx, j, none⟩ = some u) : w'.cell? ⟨bx, j, none⟩ = some u :=
 g.cell hc (fun e => by
  have := (h.1.lt bx e.symm).2
  omega)
theorem numbered_any (a : Option Addr) (n c : Nat) (T : Tbl Int) (w : World) (hr : RI.RdT w w a n c T) (hn : n ≤ 1000) : Calls Tryz.prog 44 #[.slice a n c] w (RetVN T w) := by
 obtain ⟨rawT, hR, hD⟩ := hr
 have HR := Lh hR
 have HD := Lh hD
 have HN := Lh (And.intro hn (And.intro hR.1 hD.1))
 clear hR hD hn
 go_enter Tryz.func44, Tryz.ntmps44
 go_wp2_with fail
 go_loopw [2, 3, 8] (fun v2 v3 si wr => ∃ (i : Nat) (raw : List Sl), si = .int .i64 i ∧ Hid (i ≤ n) ∧ Hid (OwnLs w wr v2 raw) ∧ Hid (DatL w w raw ((T.take i).map (·.1))) ∧ Hid (OwnL w wr v3 ((T.take i).map (·.2)))) (fun _ _ si _ => n - (intOf si).toNat)
 case atStart => exact ⟨0, [], rfl, Lh (Nat.zero_le _), Lh (OwnLs.nil' (Gr.refl w)), Lh (DatL.nil _ _), Lh (OwnL.nil w)⟩
 case round =>
  obtain ⟨i, raw, rfl, Hi, HO2, HD2, HO3⟩ := hrel
  by_cases hlt : i < n
  ·have i1 : (i : Int) < (n : Int) := by omega
   obtain ⟨b, o, x, rfl, hx, k0, k1⟩ := (HR.out.gr HO2.out.2).at hlt
   obtain ⟨r, hrT, xr, _, xy⟩ := HD.out.at hx
   obtain ⟨xa, xn, xc, y⟩ := x
   unfold Rep at xy
   simp only at k0 k1 xr xy
   subst xy
   obtain ⟨wA, hwA⟩ : ∃ wA, wr.alloc (.cells #[.slice xa xn xc, .int .i64 r.2] 98) = wA := ⟨_, rfl⟩
   have gA : Gr wr wA := hwA ▸ (Gr.refl wr).alloc _
   obtain ⟨z0, z1⟩ : wA.cell? ⟨wr.heap.size, 0, none⟩ = some (.slice xa xn xc) ∧ wA.cell? ⟨wr.heap.size, 1, none⟩ = some (.int .i64 r.2) := by rw [← hwA]; constructor <;> simp
   have HA2 := Lh (HO2.out.gr (gA.trans ((Gr.refl wA).alloc (.cells #[.slice xa xn xc] 23))))
   have HA3 := Lh (HO3.out.gr (gA.trans ((Gr.refl wA).alloc (.cells #[.slice xa xn xc] 23))))
   have zz1 := ((Gr.refl wA).alloc (.cells #[.slice xa xn xc] 23)).cell z1
   have HDn := Lh (HD2.out.snoc (x := (xa, xn, xc)) (L := r.1) xr (Old.of_rd xr.2.2.2.2 3))
   have HTk := Lh (show T.take (i + 1) = T.take i ++ [r] by rw [List.take_add_one, hrT]; rfl)
   have HRl := Lh (show raw.length < 999999 ∧ ((T.take i).map (·.2)).length + 1 ≤ 1000000 by
    have h1 := HD2.out.1
    rw [List.length_map, List.length_take] at h1
    rw [List.length_map, List.length_take]
    have := HN.out
    omega)
   have HG := Lh gA
   have HLi := Lh hlt
   have w9 := Lh (show wrap64 ((i : Int) + 1) = ((i + 1 : Nat) : Int) by rw [IntWalk.wrap64_in _ (by have := HN.out; omega)]; omega)
   clear hx hrT xr gA hlt HD2
   generalize hyy : r.2 = y at *
   have HYY := Lh hyy
   clear hyy
   go_wp2_with (first
    | (at_builtin; refine wpList_app_sl rfl _ _ 27 rfl Tryz.underlying27 _ raw rfl HA2.out wA.heap.size (xa, xn, xc) rfl (box_of wA _ 23) HRl.out.1 ?_; intro v2' w5 h5 g5; have H5 := Lh h5; have u1 := OwnLs.keep HO2.out g5 (Nat.le_refl _) zz1; have H6 := Lh (HA3.out.other HA2.out.1 (by decide) (Nat.le_refl _) g5); have hc1 : ∀ i, i < 1 → (w5.alloc (.cells #[.int .i64 y] 3)).cell? ⟨w5.heap.size, 0 + i, none⟩ = some (.int .i64 (iv [y] i)) := (fun i hi => by (obtain rfl : i = 0 := by omega); exact cell_new1 w5 _ 3); have HC1 := Lh hc1; have H7 := Lh (H6.out.gr ((Gr.refl w5).alloc (.cells #[.int .i64 y] 3))); have H8 := Lh (H5.out.gr ((Gr.refl w5).alloc (.cells #[.int .i64 y] 3))); clear h5 g5 hc1 k0 k1 z0 z1 zz1)
    | (at_builtin; go_must (refine wpList_cat_ints rfl _ _ rfl _ _ [y] rfl H7.out w5.heap.size 0 1 1 rfl rfl HC1.out HRl.out.2 ?_); intro v3' w6 h6 g6; have H9 := Lh h6; have HX := Lh (H8.out.other H7.out.1 (by decide) (Nat.le_refl _) g6); have e9 := w9.out; clear h6 g6 u1 i1))
   go_roundw
   case rel => exact ⟨i + 1, _, by first | (rw [e9]) | rfl, Lh HLi.out, HX, Lh (by rw [HTk.out, List.map_append]; exact HDn.out), Lh (by rw [HTk.out, List.map_append]; show OwnL _ _ _ (_ ++ [r.2]); rw [HYY.out]; exact H9.out)⟩
   case measure => first | (rw [e9]; exact fall HLi.out) | exact fall HLi.out
  have hin : i = n := by have := Hi.out; omega
  subst hin
  have i1 : ¬ (i : Int) < (i : Int) := by omega
  have hT : T.take i = T := List.take_of_length_le (by have := HN.out; omega)
  obtain ⟨va, vc, rfl, hv⟩ := HO2.out.rd (HD2.out.gr HO2.out.2)
  obtain ⟨na, nc, rfl, hnn, _⟩ := HO3.out.rd
  generalize hnl : (List.map (fun x => x.2) (List.take i T)).length = nl at *
  rw [hT] at hv hnn
  have HV := Lh hv
  have HNn := Lh hnn
  have HG := Lh HO2.out.2
  clear hv hnn hT hlt HD2 HO2 HO3
  generalize raw.length = rl at *
  clear hnl
  go_wp2_with fail
  refine bodyPost_ret (v := .tuple #[.slice va rl vc, .slice na nl nc]) (by simp [results, Tryz.results44, go_sem]) rfl ?_
  exact ⟨_, _, _, _, _, _, rfl, HV.out, HNn.out, HG.out⟩
def RetCn (r : Except Int (Tbl Int × Int)) (w : World) (e : Ending) (w' : World) : Prop := match r with
 | .error E => e = .returned (.tuple #[.slice none 0 0, .slice none 0 0, .int .i64 E]) ∧ Gr w w'
 | .ok x => ∃ va vn vc na nn nc, e = .returned (.tuple #[.slice va vn vc, .slice na nn nc, .int .i64 0]) ∧ RdLs w' va vn vc (x.1.map (·.1)) ∧ Rd3 w' na nn nc (x.1.map (·.2)) ∧ Gr w w'
theorem resQ_err {D : Type} {R : Rg D} {φ : SL → D} {right : Bool} {Ts : List (Int × Tbl SL)} {q : Key} {E : Int} (h : resQ R φ right Ts q = .error E) : E = 90 ∨ E = 91 ∨ E = 2 ∨ E = 4 := by
 unfold resQ at h
 split at h
 ·split at h
  ·cases h; simp
  split at h
  ·split at h
   ·cases h; simp
   cases h
  cases h; simp
 cases h; simp
theorem resQ_len {D : Type} {R : Rg D} {G : D → Prop} {φ : SL → D} {right : Bool} {Ts : List (Int × Tbl SL)} {q : Key} {T : Tbl D} {W : Int} (hL : RgL R G) (hG : ∀ L, G0 L → G (φ L)) (h : resQ R φ right Ts q = .ok (T, W)) : TI R G W T := by
 unfold resQ at h
 split at h
 ·rename_i hv
  split at h
  ·cases h
  rename_i x hq
  split at h
  ·split at h
   ·cases h
   rename_i T' hT
   cases h
   unfold ansQ at hT
   obtain ⟨p, hp, rfl⟩ := Option.map_eq_some_iff.1 hT
   obtain ⟨pw, hpw, hl, _⟩ := qry_plan hq
   have hP := run_PI hL (tabs_GI (φ := φ) (G' := G) hv hG) x.1 (p := []) (pw := []) ⟨rfl, fun i hi => by simp at hi⟩ hpw hp
   have h0 := hP.2 0 (by omega)
   have e : pw.getD 0 0 = x.2 := by
    unfold qry at hq
    split at hq
    ·cases hq
    rename_i y hy
    split at hq
    ·cases hq
     have := planQ_planW hy
     rw [hpw] at this
     cases this
     rfl
    cases hq
   rwa [e] at h0
  cases h
 cases h
theorem Counts_any (a : Option Addr) (n c : Nat) (Ts : List (Int × Tbl SL)) (q : ByteArray) (a' : Option Addr) (m c' : Nat) (l : Nat → Int) (w : World) (hr : RdWs w a n c Ts) (hz : SzWs Ts) (hq : q.size ≤ 9223372036854775807) (hm : m ≤ 9223372036854775807) (hl : RdI w a' m l) (hT : Pow10 w) (hE : Errs w) :
  Calls Tryz.prog 12 #[.slice a n c, .string q, .slice a' m c'] w (RetCn (resQ RgC (φC l) (nmB l m 10) Ts q.data.toList) w) := by
 have hmf : ∀ (fn : Fn) (first cap : Array Value) (w : World), (Instr.makeFunc fn first cap).run Tryz.prog w = .ok (.func fn first cap) w := fun _ _ _ _ => rfl
 obtain ⟨w1, hw1⟩ : ∃ w1, w.alloc (.cells #[.slice a' m c'] 23) = w1 := ⟨_, rfl⟩
 have g1 : Gr w w1 := hw1 ▸ (Gr.refl w).alloc _
 have z1 : w1.cell? ⟨w.heap.size, 0, none⟩ = some (.slice a' m c') := hw1 ▸ cell_new1 w _ 23
 obtain ⟨w2, hw2⟩ : ∃ w2, w1.alloc (.cells #[.func (.func 35) #[] #[]] 59) = w2 := ⟨_, rfl⟩
 have g2 : Gr w1 w2 := hw2 ▸ (Gr.refl w1).alloc _
 have z2 : w2.cell? ⟨w1.heap.size, 0, none⟩ = some (.func (.func 35) #[] #[]) := hw2 ▸ cell_new1 w1 _ 59
 generalize hb5 : w.heap.size = b5 at *
 generalize hb9 : w1.heap.size = b9 at *
 obtain ⟨w3, hw3⟩ : ∃ w3, w2.alloc (.cells #[.func (.func 36) #[] #[.pointer (some ⟨b9, 0, none⟩)], .func (.func 37) #[] #[], .func (.func 38) #[] #[], .func (.func 39) #[] #[]] 63) = w3 := ⟨_, rfl⟩
 have g3 : Gr w2 w3 := hw3 ▸ (Gr.refl w2).alloc _
 obtain ⟨f0, f1, f2, f3⟩ := BoxF.new (F := (FC b9)) hw3
 generalize hb10 : w2.heap.size = b10 at *
 replace z1 := (g2.trans g3).cell z1
 replace z2 := g3.cell z2
 have HG3 := Lh ((g1.trans g2).trans g3)
 have CW := Lh (fun W (k : Gr w3 W) => within_any a' m c' l 10 W hm ((hl.gr HG3.out).gr k))
 have hA : ∀ W, Gr w3 W → nmB l m 10 = true → AnsOk (FC b9) RgC GC (fun _ => 0) 0 0 42 #[.pointer (some ⟨b9, 0, none⟩), .pointer (some ⟨b5, 0, none⟩)] (φC l) W := fun W k hb => by
  obtain ⟨h8, hb8⟩ := nmB_at hb
  subst h8
  exact ansC (k.cell z2) ⟨a', c', k.cell z1, (hl.gr HG3.out).gr k⟩ hb8
 have CA := Lh (fun W (k : Gr w3 W) => show Calls Tryz.prog 40 #[.slice a n c, .string q, .bool (nmB l m 10), .agg #[.func (.func 36) #[] #[.pointer (some ⟨b9, 0, none⟩)], .func (.func 37) #[] #[], .func (.func 38) #[] #[], .func (.func 39) #[] #[]], .func (.func 42) #[] #[.pointer (some ⟨b9, 0, none⟩), .pointer (some ⟨b5, 0, none⟩)]] W _ from answer_any (FC b9) RgC GC (fun _ => 0) 0 0 42 #[.pointer (some ⟨b9, 0, none⟩), .pointer (some ⟨b5, 0, none⟩)] (φC l) a n c Ts q (nmB l m 10) W ((hr.gr HG3.out).gr k) hz hq ((hT.gr HG3.out).gr k) ((hE.gr HG3.out).gr k) (hA W k))
 have HLn := Lh (fun (T : Tbl Int) (W : Int) (h : resQ RgC (φC l) (nmB l m 10) Ts q.data.toList = .ok (T, W)) (h8 : nmB l m 10 = true) => resQ_len lawC (fun L h0 => φC_GC (nmB_at h8).2 h0) h)
 have HRt := Lh (show ∀ x, resQ RgC (φC l) (nmB l m 10) Ts q.data.toList = .ok x → nmB l m 10 = true from fun x h => by
  cases hb : nmB l m 10 with
  | true => rfl
  | false =>
   rw [hb] at h
   unfold resQ at h
   split at h
   ·split at h
    ·cases h
    simp at h
   cases h)
 clear hr hz hq hm hl hT hE hA g1 g2 g3
 generalize nmB l m 10 = right at *
 generalize hres : resQ RgC (φC l) right Ts q.data.toList = res at *
 have HRes := Lh hres
 clear hres
 cases res with
 | error E =>
  have hE0 := resQ_err HRes.out
  have e0 : (E != 0) = true := by simp; omega
  clear HLn HRt HRes hE0
  go_enter Tryz.func12, Tryz.ntmps12
  go_upto_region 3 with fail
  refine Hg (fun w' => Gr w3 w') 14 ?_
  have hS : Gr w3 w3.drew := (Gr.refl w3).drew
  refine H5 0 1 2 4 5 (c5 z1 f0 f1 f2 f3) hS ?_
  refine Hr 3 rfl (fun K hK => ?_)
  go_simp
  refine ⟨trivial, ?_⟩
  refine (callsIn_wide.2 (CW.out _ hS)).mono ?_
  rintro e wX ⟨rfl, gX⟩
  have hS : Gr w3 wX := hS.trans gX
  refine hK.out _ _ hS ?_
  clear hK K gX
  refine Hr 6 rfl (fun K hK => ?_)
  go_simp
  refine ⟨trivial, ?_⟩
  refine (callsIn_wide.2 (CA.out _ hS)).mono ?_
  rintro e wY ⟨rfl, gY⟩
  have hS : Gr w3 wY := hS.trans gY
  refine hK.out _ _ hS ?_
  clear hK K gY
  refine H5 7 8 9 10 11 tv hS ?_; refine H2 12 13 tv hS ?_
  refine Hd ?_
  go_wp2_with fail
  refine bodyPost_ret (v := .tuple #[.slice none 0 0, .slice none 0 0, .int .i64 E]) (by simp [results, Tryz.results12, go_sem]) rfl ?_
  exact ⟨rfl, HG3.out.trans hS⟩
 | ok x =>
  obtain ⟨T, tW⟩ := x
  have HTl := Lh (show T.length ≤ 1000 by
   have := (okT_le (HLn.out T tW rfl (HRt.out _ rfl)).ok).1
   omega)
  clear HLn HRt HRes
  go_enter Tryz.func12, Tryz.ntmps12
  go_upto_region 3 with fail
  refine Hg (fun w' => Gr w3 w') 14 ?_
  have hS : Gr w3 w3.drew := (Gr.refl w3).drew
  refine H5 0 1 2 4 5 (c5 z1 f0 f1 f2 f3) hS ?_
  refine Hr 3 rfl (fun K hK => ?_)
  go_simp
  refine ⟨trivial, ?_⟩
  refine (callsIn_wide.2 (CW.out _ hS)).mono ?_
  rintro e wX ⟨rfl, gX⟩
  have hS : Gr w3 wX := hS.trans gX
  refine hK.out _ _ hS ?_
  clear hK K gX
  refine Hr 6 rfl (fun K hK => ?_)
  go_simp
  refine ⟨trivial, ?_⟩
  refine (callsIn_wide.2 (CA.out _ hS)).mono ?_
  rintro e wY ⟨ta, tn, tc, rfl, ht, gY⟩
  have HTt := Lh ht
  have hS : Gr w3 wY := hS.trans gY
  refine hK.out _ _ hS ?_
  clear hK K gY ht
  refine H5 7 8 9 10 11 tv hS ?_; refine H2 12 13 tv hS ?_
  refine Hd ?_
  have GX := Lh hS
  have CN := Lh (numbered_any ta tn tc T wY HTt.out (by have h1 : tn = T.length := HTt.out.len; have h2 := HTl.out; omega))
  clear hS
  go_wp2_with (go_at_call 44; (with_reducible refine CN.out.mono ?_); rintro e wZ ⟨va, vn, vc, na, nn, nc, rfl, hv1, hv2, gZ⟩; have HV := Lh (And.intro hv1 hv2); have GY := Lh gZ; clear hv1 hv2 gZ)
  refine bodyPost_ret (v := .tuple #[.slice va vn vc, .slice na nn nc, .int .i64 0]) (by simp [results, Tryz.results12, go_sem]) rfl ?_
  exact ⟨_, _, _, _, _, _, rfl, HV.out.1, HV.out.2, (HG3.out.trans GX.out).trans GY.out⟩
theorem Costs_any (a : Option Addr) (n c : Nat) (Ts : List (Int × Tbl SL)) (q : ByteArray) (a' : Option Addr) (m c' : Nat) (l : Nat → Int) (w : World) (hr : RdWs w a n c Ts) (hz : SzWs Ts) (hq : q.size ≤ 9223372036854775807) (hm : m ≤ 9223372036854775807) (hl : RdI w a' m l) (hT : Pow10 w) (hE : Errs w) :
  Calls Tryz.prog 16 #[.slice a n c, .string q, .slice a' m c'] w (RetCn (resQ RgK (cosQ l) (nmB l m 1000) Ts q.data.toList) w) := by
 have hmf : ∀ (fn : Fn) (first cap : Array Value) (w : World), (Instr.makeFunc fn first cap).run Tryz.prog w = .ok (.func fn first cap) w := fun _ _ _ _ => rfl
 obtain ⟨w1, hw1⟩ : ∃ w1, w.alloc (.cells #[.slice a' m c'] 23) = w1 := ⟨_, rfl⟩
 have g1 : Gr w w1 := hw1 ▸ (Gr.refl w).alloc _
 have z1 : w1.cell? ⟨w.heap.size, 0, none⟩ = some (.slice a' m c') := hw1 ▸ cell_new1 w _ 23
 obtain ⟨w2, hw2⟩ : ∃ w2, w1 = w2 := ⟨_, rfl⟩
 have g2 : Gr w1 w2 := hw2 ▸ Gr.refl w1
 subst hw2
 generalize hb5 : w.heap.size = b5 at *
 obtain ⟨w3, hw3⟩ : ∃ w3, w1.alloc (.cells #[.func (.func 46) #[] #[], .func (.func 47) #[] #[], .func (.func 48) #[] #[], .func (.func 39) #[] #[]] 63) = w3 := ⟨_, rfl⟩
 have g3 : Gr w1 w3 := hw3 ▸ (Gr.refl w1).alloc _
 obtain ⟨f0, f1, f2, f3⟩ := BoxF.new (F := FK) hw3
 generalize hb10 : w1.heap.size = b10 at *
 replace z1 := (g2.trans g3).cell z1
 have HG3 := Lh ((g1.trans g2).trans g3)
 have CW := Lh (fun W (k : Gr w3 W) => within_any a' m c' l 1000 W hm ((hl.gr HG3.out).gr k))
 have hA : ∀ W, Gr w3 W → nmB l m 1000 = true → AnsOk FK RgK GK (fun _ => 0) 0 0 49 #[.pointer (some ⟨b5, 0, none⟩)] (cosQ l) W := fun W k hb => by
  obtain ⟨h8, hb8⟩ := nmB_at hb
  subst h8
  exact ansK ⟨a', c', k.cell z1, (hl.gr HG3.out).gr k⟩ hb8
 have CA := Lh (fun W (k : Gr w3 W) => show Calls Tryz.prog 40 #[.slice a n c, .string q, .bool (nmB l m 1000), .agg #[.func (.func 46) #[] #[], .func (.func 47) #[] #[], .func (.func 48) #[] #[], .func (.func 39) #[] #[]], .func (.func 49) #[] #[.pointer (some ⟨b5, 0, none⟩)]] W _ from answer_any FK RgK GK (fun _ => 0) 0 0 49 #[.pointer (some ⟨b5, 0, none⟩)] (cosQ l) a n c Ts q (nmB l m 1000) W ((hr.gr HG3.out).gr k) hz hq ((hT.gr HG3.out).gr k) ((hE.gr HG3.out).gr k) (hA W k))
 have HLn := Lh (fun (T : Tbl Int) (W : Int) (h : resQ RgK (cosQ l) (nmB l m 1000) Ts q.data.toList = .ok (T, W)) (h8 : nmB l m 1000 = true) => resQ_len lawK (fun L h0 => cosQ_GK (nmB_at h8).2 h0) h)
 have HRt := Lh (show ∀ x, resQ RgK (cosQ l) (nmB l m 1000) Ts q.data.toList = .ok x → nmB l m 1000 = true from fun x h => by
  cases hb : nmB l m 1000 with
  | true => rfl
  | false =>
   rw [hb] at h
   unfold resQ at h
   split at h
   ·split at h
    ·cases h
    simp at h
   cases h)
 clear hr hz hq hm hl hT hE hA g1 g2 g3
 generalize nmB l m 1000 = right at *
 generalize hres : resQ RgK (cosQ l) right Ts q.data.toList = res at *
 have HRes := Lh hres
 clear hres
 cases res with
 | error E =>
  have hE0 := resQ_err HRes.out
  have e0 : (E != 0) = true := by simp; omega
  clear HLn HRt HRes hE0
  go_enter Tryz.func16, Tryz.ntmps16
  go_upto_region 2 with fail
  refine Hg (fun w' => Gr w3 w') 14 ?_
  have hS : Gr w3 w3.drew := (Gr.refl w3).drew
  refine H5 0 1 2 4 5 (c5 z1 f0 f1 f2 f3) hS ?_
  refine Hr 3 rfl (fun K hK => ?_)
  go_simp
  refine ⟨trivial, ?_⟩
  refine (callsIn_wide.2 (CW.out _ hS)).mono ?_
  rintro e wX ⟨rfl, gX⟩
  have hS : Gr w3 wX := hS.trans gX
  refine hK.out _ _ hS ?_
  clear hK K gX
  refine Hr 6 rfl (fun K hK => ?_)
  go_simp
  refine ⟨trivial, ?_⟩
  refine (callsIn_wide.2 (CA.out _ hS)).mono ?_
  rintro e wY ⟨rfl, gY⟩
  have hS : Gr w3 wY := hS.trans gY
  refine hK.out _ _ hS ?_
  clear hK K gY
  refine H5 7 8 9 10 11 tv hS ?_; refine H2 12 13 tv hS ?_
  refine Hd ?_
  go_wp2_with fail
  refine bodyPost_ret (v := .tuple #[.slice none 0 0, .slice none 0 0, .int .i64 E]) (by simp [results, Tryz.results16, go_sem]) rfl ?_
  exact ⟨rfl, HG3.out.trans hS⟩
 | ok x =>
  obtain ⟨T, tW⟩ := x
  have HTl := Lh (show T.length ≤ 1000 by
   have := (okT_le (HLn.out T tW rfl (HRt.out _ rfl)).ok).1
   omega)
  clear HLn HRt HRes
  go_enter Tryz.func16, Tryz.ntmps16
  go_upto_region 2 with fail
  refine Hg (fun w' => Gr w3 w') 14 ?_
  have hS : Gr w3 w3.drew := (Gr.refl w3).drew
  refine H5 0 1 2 4 5 (c5 z1 f0 f1 f2 f3) hS ?_
  refine Hr 3 rfl (fun K hK => ?_)
  go_simp
  refine ⟨trivial, ?_⟩
  refine (callsIn_wide.2 (CW.out _ hS)).mono ?_
  rintro e wX ⟨rfl, gX⟩
  have hS : Gr w3 wX := hS.trans gX
  refine hK.out _ _ hS ?_
  clear hK K gX
  refine Hr 6 rfl (fun K hK => ?_)
  go_simp
  refine ⟨trivial, ?_⟩
  refine (callsIn_wide.2 (CA.out _ hS)).mono ?_
  rintro e wY ⟨ta, tn, tc, rfl, ht, gY⟩
  have HTt := Lh ht
  have hS : Gr w3 wY := hS.trans gY
  refine hK.out _ _ hS ?_
  clear hK K gY ht
  refine H5 7 8 9 10 11 tv hS ?_; refine H2 12 13 tv hS ?_
  refine Hd ?_
  have GX := Lh hS
  have CN := Lh (numbered_any ta tn tc T wY HTt.out (by have h1 : tn = T.length := HTt.out.len; have h2 := HTl.out; omega))
  clear hS
  go_wp2_with (go_at_call 44; (with_reducible refine CN.out.mono ?_); rintro e wZ ⟨va, vn, vc, na, nn, nc, rfl, hv1, hv2, gZ⟩; have HV := Lh (And.intro hv1 hv2); have GY := Lh gZ; clear hv1 hv2 gZ)
  refine bodyPost_ret (v := .tuple #[.slice va vn vc, .slice na nn nc, .int .i64 0]) (by simp [results, Tryz.results16, go_sem]) rfl ?_
  exact ⟨_, _, _, _, _, _, rfl, HV.out.1, HV.out.2, (HG3.out.trans GX.out).trans GY.out⟩
end Go.Proofs.YtehdemcfeoiecaaGreatDoor
