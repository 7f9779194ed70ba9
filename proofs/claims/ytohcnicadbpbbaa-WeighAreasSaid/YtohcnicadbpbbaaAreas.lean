/- Proved: WeighAreas returns true at all odds, and its argument reads afterwards as before. Conditions: none. -/
import Derived.Test.YtohcnicadbpbbaaWZ
import Derived.Test.YtohcnicadbpbbaaWo
import Derived.ProofKit
import Derived.OpenShut
import Derived.ShutString
import Derived.ChangeOld
import Derived.Below
namespace Go.Proofs.Ytohcnicadbpbbaa.weighAreas
open Go.ChangeShapes Go.WideShapes Go.ChangeAt Go.RowKit Go.Firn
open Go.ChangeMaps (open_string shut_string)

theorem own : ownKnob Try.prog.godebug = none := by kernel_rfl
theorem laidOut : laidOutB Try.prog = true := by kernel_rfl
theorem vo_all {n : Nat} {f g : Nat → Int} (h : VO n n f g) (fz : ∀ i, n ≤ i → f i = 0) (gz : ∀ i, n ≤ i → g i = 0) : (∀ i, 0 ≤ f i) ∧ (∀ i, 0 ≤ g i) := by
  refine ⟨fun i => ?_, fun i => ?_⟩
  · rcases Nat.lt_or_ge i n with h1 | h1
    · exact (h.noise.ok i h1).1
    · rw [fz i h1]; exact Int.le_refl 0
  · rcases Nat.lt_or_ge i n with h1 | h1
    · exact (h.signal.ok i h1).1
    · rw [gz i h1]; exact Int.le_refl 0
set_option maxHeartbeats 4000000 in
set_option maxRecDepth 100000 in
theorem walk (a b : Option Addr) (n c m d : Nat) (f g : Nat → Int) (w : World) (_hn : n ≤ 9223372036854775807) (_hm : m ≤ 9223372036854775807) (_nc : n ≤ c) (_cl : c ≤ maxLen) (_md : m ≤ d) (_dl : d ≤ maxLen) (fz : ∀ i, n ≤ i → f i = 0) (gz : ∀ i, m ≤ i → g i = 0) (hr : RdI w a n f) (hs : RdI w b m g) :
    Calls Try.prog 7 #[.agg #[.slice a n c, .slice b m d]] w (RetB true w) := by
  obtain ⟨w0', hw0⟩ : ∃ w0', w.alloc (.cells #[.slice a n c, .slice b m d] 24) = w0' := ⟨_, rfl⟩
  have G0 := Lib.hid (show Gr w w0' by rw [← hw0]; exact (Gr.refl w).alloc _)
  have BA := Lib.hid (show BoxO w0' w.heap.size (.slice a n c) (.slice b m d) by rw [← hw0]; exact BoxO.new rfl)
  obtain ⟨p0, p1⟩ := BA.out
  have HL := Lib.hid (fun w1 => Long_any a b n c m d w1)
  clear _hn _hm _nc _cl _md _dl
  cases hl : lgO n m with
  | true =>
    rw [hl] at HL
    clear hr hs hl fz gz
    go_enter Try.func7, Try.ntmps7
    go_wp2_with (first
      | (go_at_call 8; (with_reducible refine (HL.out _).mono ?_); rintro e w1 ⟨rfl, g1⟩; have G1 := Lib.hid (G0.out.trans g1); have BA := Lib.hid (BA.out.gr g1); clear p0 p1; obtain ⟨p0, p1⟩ := BA.out; clear g1)
      | (go_at_call 9; refine (Awake_any _).mono ?_; rintro e w6 ⟨rfl, g6⟩))
    go_ret
    exact ⟨rfl, G1.out.trans g6⟩
  | false =>
    rw [hl] at HL
    have l60 := lgO_false.1 hl
    have HV := Lib.hid (fun w1 (k : Gr w w1) => refValid_any a b n c m d f g w1 (by omega) (by omega) (hr.gr k) (hs.gr k))
    cases hv : vO n m f g with
    | false =>
      rw [hv] at HV
      clear hr hs hl l60 hv fz gz
      go_enter Try.func7, Try.ntmps7
      go_wp2_with (first
        | (go_at_call 8; (with_reducible refine (HL.out _).mono ?_); rintro e w1 ⟨rfl, g1⟩; have G1 := Lib.hid (G0.out.trans g1); have BA := Lib.hid (BA.out.gr g1); clear p0 p1; obtain ⟨p0, p1⟩ := BA.out; clear g1)
        | (go_at_call 15; (with_reducible refine (HV.out _ G1.out).mono ?_); rintro e w2 ⟨rfl, g2⟩; have G2 := Lib.hid (G1.out.trans g2); clear g2)
        | (go_at_call 9; refine (Awake_any _).mono ?_; rintro e w6 ⟨rfl, g6⟩))
      go_ret
      exact ⟨rfl, G2.out.trans g6⟩
    | true =>
      have V := vO_iff.1 hv
      obtain rfl := V.same
      obtain ⟨hf, hg⟩ := vo_all V fz gz
      exact core a b n c d f g w hr hs hf hg V

set_option maxRecDepth 100000 in
theorem lifted (os : Os) (started : os.Started) (H : Type) (enc : TypeId × Value → H) :
    ReturnsInHanded {} Try.checked os 7 .any (Rows.weighAreasSpec.pre6 enc Try.prog Try.f7 Rows.weighAreasRow.domain false) (Rows.weighAreasSpec.post enc Try.prog Try.f7 false true false false) := by
  refine returnsInHanded_of_change (C := Try.checked) own started (by kernel_rfl) Try.func7
    (ChangeSpec.witness6 (enc := enc) (C := Try.checked) false ⟨#[], #[.agg #[.slice none 0 0, .slice none 0 0]], []⟩ 8 (by kernel_rfl) (by kernel_rfl) (by kernel_rfl) (by kernel_rfl)) ?_
  intro W base args ds gs before hval0 hW hcnd _
  have hval : ∀ (j : Nat) t v, Try.f7.params[j]? = some t → args[j]? = some v → Value.okWide Try.prog W .any base t v := hval0
  have hW' := hW
  obtain ⟨p, q, hA0, hV, rfl, hfz, hnd⟩ := hW
  have hA : DataW.TrodAll enc Try.prog W 0 (fun _ => true) true Try.f7.params.toList args.toList ds p := hA0
  rw [Try.params7] at hA hval
  obtain ⟨v0, vs0, d0, ds0, p0, q0, hargs, rfl, rfl, h0, r0⟩ := trodAll_cons hA
  obtain ⟨rfl, rfl, rfl⟩ := trodAll_nil r0
  obtain rfl : args = #[v0] := by cases args; simp_all
  obtain ⟨rfl, rfl⟩ := trodVars_none hV
  have k0 := h0
  have lt0 : ∀ x ∈ p0, x.block < W.heap.size := by obtain ⟨m, hm⟩ := k0; exact DataW.trod_lt m _ _ _ hm
  obtain ⟨a0, n0, c0, z0, b0, m0, e0, y0, rfl, wa0, wb0⟩ := open_two Try.underlying24 (by kernel_rfl) (by kernel_rfl) rfl rfl Try.underlying22 Try.underlying3 (by kernel_rfl) (hval 0 24 v0 rfl rfl) h0
  obtain ⟨hn0, nc0, cl0, f0, fz0, fr0⟩ := wa0.clip
  obtain ⟨hm0, md0, dl0, g0, gz0, gr0⟩ := wb0.clip
  clear hA0 hval0
  refine (walk a0 b0 n0 c0 m0 e0 f0 g0 W hn0 hm0 nc0 cl0 md0 dl0 fz0 gz0 fr0 gr0).mono fun e W' ⟨he, bel⟩ => ?_
  subst he
  exact ⟨_, rfl, _, _, _, [], _, [], hW', trodAll_mk1 (shut_bool Try.underlying4 _), (trodAll_cons_mk (Below.trod laidOut (by kernel_rfl) (of_decide_eq_true (by kernel_rfl)) k0 bel lt0) trodAll_mk0), rfl, bel.frame _, fun h => by cases h⟩

theorem over : Rows.weighAreasRow.holds Try.pinned (OpenSpec.ofChange Rows.weighAreasSpec) :=
  OpenClaim.holds_of_wide 7 Try.f7 rfl rfl rfl rfl rfl rfl rfl ⟨rfl, rfl, rfl, rfl, rfl⟩ rfl rfl rfl rfl rfl (by kernel_rfl) Try.func7 (by kernel_rfl)
    (of_decide_eq_true (by kernel_rfl)) (by unfold Func.isWrapper; first | (rw [if_pos (by decide +kernel)]; kernel_rfl) | (rw [if_neg (by decide +kernel)]; exact ⟨rfl, rfl⟩))
    (fun os started H enc _ => lifted os started H enc)

/-- The statement. -/
theorem proved : Rows.WeighAreasSaid := over
end Go.Proofs.Ytohcnicadbpbbaa.weighAreas
