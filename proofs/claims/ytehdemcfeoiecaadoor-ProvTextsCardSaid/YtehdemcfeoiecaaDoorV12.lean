/- Contracts of chapter 9 at lists: Plus, Times, chained; what is chained in another order. -/
import Derived.Test.YtehdemcfeoiecaaDoorV11
namespace Go.Proofs.YtehdemcfeoiecaaDoor
open Go.RowKit Go.Firn Go.Shelf Go.Maps Go.WideMaps

/-- Whether a list is a sum. -/
def vL (L : SL) : Bool := vS (sx L) (sy L) L.length
theorem vL_iff {L : SL} : vL L = true ↔ VL L ∧ overL L = false := by
  unfold vL
  rw [vS_iff, ofS_sx]
theorem vL_of (f : Nat → ByteArray) (g : Nat → Int) (n : Nat) : vS f g n = vL (ofS f g n) := by
  rw [Bool.eq_iff_iff, vS_iff, vL_iff]
theorem vL_ok {L : SL} (h : vL L = true) : OkL L := by
  have := (OkL.of (f := sx L) (g := sy L) (n := L.length) h).1
  rwa [ofS_sx] at this
theorem vL_nil : vL [] = true := by
  rw [vL_iff]
  exact ⟨⟨by simp [Srt], by simp [Pos], by simp⟩, by simp [overL]⟩
theorem vL_one : vL [([], 1)] = true := by
  rw [vL_iff]
  refine ⟨⟨by simp [Srt], by simp [Pos], ?_⟩, by decide⟩
  intro x hx
  simp only [List.mem_singleton] at hx
  subst hx
  exact ⟨by simp, by simp [srtK]⟩
theorem vL_len {L : SL} (h : vL L = true) : L.length ≤ 9223372036854775807 := by
  have := (vL_ok h).le
  omega
theorem vL_size {L : SL} (h : vL L = true) : ∀ i, i < L.length → (sx L i).size ≤ 9223372036854775807 := by
  intro i hi
  have := (vS_at (f := sx L) (g := sy L) (n := L.length) h).2 i hi
  have := (isTk_at this.1).1
  omega

/-- One of the two operations. -/
def opL (b : Bool) (s t : SL) : SL := if b = true then timesL s t else plusL s t
/-- What it answers. -/
def opA (b : Bool) (s t : SL) : SL := ansL true (opL b s t)
def opE (b : Bool) (s t : SL) : Int := ansE true (opL b s t)
theorem opL_VL {b : Bool} {s t : SL} (hs : VL s) (ht : VL t) : VL (opL b s t) := by
  unfold opL
  split
  · exact hs.times ht
  · exact hs.plus ht
theorem opA_vL {b : Bool} {s t : SL} (hs : vL s = true) (ht : vL t = true) : vL (opA b s t) = true := by
  unfold opA ansL
  rw [if_pos rfl]
  split
  · exact vL_nil
  · rename_i h
    exact vL_iff.2 ⟨opL_VL (vL_iff.1 hs).1 (vL_iff.1 ht).1, by simpa using h⟩
theorem opA_ok {b : Bool} {s t : SL} (h : overL (opL b s t) = false) : opA b s t = opL b s t := by
  unfold opA ansL
  rw [if_pos rfl, if_neg (by simp [h])]
theorem opE_is (b : Bool) (s t : SL) : (opE b s t = 0 ∧ overL (opL b s t) = false) ∨ (opE b s t = 4 ∧ overL (opL b s t) = true ∧ opA b s t = []) := by
  unfold opE opA ansE ansL
  cases h : overL (opL b s t) <;> simp
theorem opL_comm (b : Bool) {s t : SL} (hs : VL s) (ht : VL t) : opL b s t = opL b t s := by
  unfold opL
  split
  · exact times_comm hs.2.1 ht.2.1
  · exact plus_comm hs.1 ht.1 hs.2.1 ht.2.1
theorem opL_assoc (b : Bool) {s t u : SL} (hs : VL s) (ht : VL t) (hu : VL u) : opL b (opL b s t) u = opL b s (opL b t u) := by
  unfold opL
  split
  · exact times_assoc hs.2.1 ht.2.1 hu.2.1
  · exact plus_assoc hs.1 hs.2.1 ht.2.1 hu.2.1
theorem opA_comm (b : Bool) {s t : SL} (hs : vL s = true) (ht : vL t = true) : opA b s t = opA b t s ∧ opE b s t = opE b t s := by
  unfold opA opE
  rw [opL_comm b (vL_iff.1 hs).1 (vL_iff.1 ht).1]
  exact ⟨rfl, rfl⟩
/-- What is chained, and whether there is no error. -/
def chL (b : Bool) (s t u : SL) : SL := opA b (opA b s t) u
def chB (b : Bool) (s t u : SL) : Bool := decide (opE b s t = 0) && decide (opE b (opA b s t) u = 0)
theorem chL_turn {b : Bool} {s t u : SL} (hs : vL s = true) (ht : vL t = true) (hu : vL u = true) (h1 : chB b s t u = true) (h2 : chB b t u s = true) : chL b s t u = chL b t u s := by
  unfold chB at h1 h2
  rw [Bool.and_eq_true, decide_eq_true_eq, decide_eq_true_eq] at h1 h2
  have ok : ∀ {x y : SL}, opE b x y = 0 → overL (opL b x y) = false := by
    intro x y h
    rcases opE_is b x y with k | k
    · exact k.2
    · rw [k.1] at h; exact absurd h (by decide)
  have a1 := opA_ok (ok h1.1)
  have a2 := opA_ok (ok h2.1)
  have b1 := opA_ok (ok h1.2)
  have b2 := opA_ok (ok h2.2)
  have ks := (vL_iff.1 hs).1
  have kt := (vL_iff.1 ht).1
  have ku := (vL_iff.1 hu).1
  unfold chL
  rw [b1, b2, a1, a2, opL_assoc b ks kt ku, opL_comm b ks (opL_VL kt ku)]
/-- What is distributed. -/
theorem op_dist {s t u : SL} (hs : vL s = true) (ht : vL t = true) (hu : vL u = true) (e1 : opE false t u = 0) (e2 : opE true s (opA false t u) = 0) (e3 : opE true s t = 0) (e4 : opE true s u = 0) :
    opE false (opA true s t) (opA true s u) = 0 ∧ opA false (opA true s t) (opA true s u) = opA true s (opA false t u) := by
  have ok : ∀ {b : Bool} {x y : SL}, opE b x y = 0 → overL (opL b x y) = false := by
    intro b x y h
    rcases opE_is b x y with k | k
    · exact k.2
    · rw [k.1] at h; exact absurd h (by decide)
  have a1 := opA_ok (ok e1)
  have a3 := opA_ok (ok e3)
  have a4 := opA_ok (ok e4)
  have ks := (vL_iff.1 hs).1
  have kt := (vL_iff.1 ht).1
  have ku := (vL_iff.1 hu).1
  have key : opL false (opA true s t) (opA true s u) = opL true s (opA false t u) := by
    rw [a1, a3, a4]
    show plusL (timesL s t) (timesL s u) = timesL s (plusL t u)
    exact (times_plus ks.2.1 kt.2.1 ku.2.1).symm
  unfold opE opA at *
  rw [key]
  exact ⟨e2, rfl⟩
theorem op_zero {s : SL} (hs : vL s = true) : opA false s [] = s ∧ opE false s [] = 0 := by
  have h : overL (opL false s []) = false := (vL_iff.1 hs).2
  refine ⟨opA_ok h, ?_⟩
  rcases opE_is false s [] with k | k
  · exact k.1
  · rw [k.2.1] at h; exact absurd h (by decide)
theorem op_none (s : SL) : opA true s [] = [] ∧ opE true s [] = 0 := by
  have e : opL true s [] = [] := times_nil s
  unfold opA opE
  rw [e]
  exact ⟨by simp [ansL, overL], by simp [ansE, overL]⟩
theorem op_one {s : SL} (hs : vL s = true) : opA true s [([], 1)] = s ∧ opE true s [([], 1)] = 0 := by
  have k := (vL_iff.1 hs).1
  have e : opL true s [([], 1)] = s := times_one k.1 k.2.1 fun x hx => (k.2.2 x hx).2
  have h : overL (opL true s [([], 1)]) = false := by rw [e]; exact (vL_iff.1 hs).2
  refine ⟨by rw [opA_ok h, e], ?_⟩
  rcases opE_is true s [([], 1)] with k | k
  · exact k.1
  · rw [k.2.1] at h; exact absurd h (by decide)

theorem Plus_list (a a' : Option Addr) (c c' : Nat) (s t : SL) (w : World) (hs : vL s = true) (ht : vL t = true) (hr : RdS w a s.length (sx s) (sy s)) (hr' : RdS w a' t.length (sx t) (sy t)) :
    Calls Tryd.prog 15 #[.slice a s.length c, .slice a' t.length c'] w (RetSE (opA false s t) (opE false s t) w) := by
  have := Plus_any a s.length c (sx s) (sy s) a' t.length c' (sx t) (sy t) w (vL_len hs) (vL_len ht) (vL_size hs) (vL_size ht) hr hr'
  rw [ofS_sx, ofS_sx, show vS (sx s) (sy s) s.length = true from hs, show vS (sx t) (sy t) t.length = true from ht] at this
  exact this
theorem Times_list (a a' : Option Addr) (c c' : Nat) (s t : SL) (w : World) (hs : vL s = true) (ht : vL t = true) (hr : RdS w a s.length (sx s) (sy s)) (hr' : RdS w a' t.length (sx t) (sy t)) :
    Calls Tryd.prog 17 #[.slice a s.length c, .slice a' t.length c'] w (RetSE (opA true s t) (opE true s t) w) := by
  have := Times_any a s.length c (sx s) (sy s) a' t.length c' (sx t) (sy t) w (vL_len hs) (vL_len ht) (vL_size hs) (vL_size ht) hr hr'
  rw [ofS_sx, ofS_sx, show vS (sx s) (sy s) s.length = true from hs, show vS (sx t) (sy t) t.length = true from ht] at this
  exact this
theorem same_list (a a' : Option Addr) (c c' : Nat) (L : SL) (w : World) (h : vL L = true) (hr : RdS w a L.length (sx L) (sy L)) (hr' : RdS w a' L.length (sx L) (sy L)) :
    Calls Tryd.prog 21 #[.slice a L.length c, .slice a' L.length c'] w (RetB true w) := same_any a a' L.length c c' (sx L) (sy L) w (vL_len h) hr hr'

set_option maxRecDepth 100000 in
set_option maxHeartbeats 4000000 in
theorem chained_any (b : Bool) (a1 a2 a3 : Option Addr) (c1 c2 c3 : Nat) (s t u : SL) (w : World) (hs : vL s = true) (ht : vL t = true) (hu : vL u = true) (hr1 : RdS w a1 s.length (sx s) (sy s)) (hr2 : RdS w a2 t.length (sx t) (sy t)) (hr3 : RdS w a3 u.length (sx u) (sy u)) :
    Calls Tryd.prog 22 #[.slice a1 s.length c1, .slice a2 t.length c2, .slice a3 u.length c3, .bool b] w (RetSB (chL b s t u) (chB b s t u) w) := by
  have HV := Lib.hid (And.intro (opA_vL (b := b) hs ht) hu)
  have R3 := Lib.hid hr3
  cases b with
  | true =>
    have C := Lib.hid (Times_list a1 a2 c1 c2 s t w hs ht hr1 hr2)
    have CC := Lib.hid (fun aa cc wx (k : RdS wx aa (opA true s t).length (sx (opA true s t)) (sy (opA true s t))) (k' : RdS wx a3 u.length (sx u) (sy u)) => Times_list aa a3 cc c3 (opA true s t) u wx HV.out.1 HV.out.2 k k')
    have h1 : opE true s t = 0 ∨ opE true s t = 4 := (opE_is true s t).imp (·.1) (·.1)
    have h2 : opE true (opA true s t) u = 0 ∨ opE true (opA true s t) u = 4 := (opE_is true (opA true s t) u).imp (·.1) (·.1)
    have EB : chB true s t u = (decide (opE true s t = 0) && decide (opE true (opA true s t) u = 0)) := rfl
    have EL : chL true s t u = opA true (opA true s t) u := rfl
    rw [EB, EL]
    clear EB EL hs ht hu hr1 hr2 hr3 HV
    generalize opE true s t = E1 at *
    generalize opE true (opA true s t) u = E2 at *
    generalize opA true (opA true s t) u = P2 at *
    generalize opA true s t = P1 at *
    rcases h1 with rfl | rfl
    · rcases h2 with rfl | rfl
      · show Calls Tryd.prog 22 _ w (RetSB P2 true w)
        go_enter Tryd.func22, Tryd.ntmps22
        go_wp2_with (first
          | (go_at_call 17; (with_reducible refine C.out.mono ?_); rintro e w1 ⟨x1, y1, rfl, q1, q2, q3, g1⟩; have R1 := Lib.hid q3; have G1 := Lib.hid g1; have C2 := Lib.hid (CC.out x1 y1 w1 q3 (R3.out.gr g1)); clear q1 q2 q3 g1 C CC)
          | (go_at_call 17; (with_reducible refine C2.out.mono ?_); rintro e w2 ⟨x2, y2, rfl, q1, q2, q3, g2⟩; have R2 := Lib.hid (And.intro q1 (And.intro q2 q3)); have G2 := Lib.hid (G1.out.trans g2); clear q1 q2 q3 g2 C2))
        refine bodyPost_ret (v := .tuple #[.slice x2 P2.length y2, .bool true]) (by simp [results, Tryd.results22, go_sem]) rfl ?_
        exact ⟨x2, y2, rfl, R2.out.1, R2.out.2.1, R2.out.2.2, G2.out⟩
      · show Calls Tryd.prog 22 _ w (RetSB P2 false w)
        go_enter Tryd.func22, Tryd.ntmps22
        go_wp2_with (first
          | (go_at_call 17; (with_reducible refine C.out.mono ?_); rintro e w1 ⟨x1, y1, rfl, q1, q2, q3, g1⟩; have R1 := Lib.hid q3; have G1 := Lib.hid g1; have C2 := Lib.hid (CC.out x1 y1 w1 q3 (R3.out.gr g1)); clear q1 q2 q3 g1 C CC)
          | (go_at_call 17; (with_reducible refine C2.out.mono ?_); rintro e w2 ⟨x2, y2, rfl, q1, q2, q3, g2⟩; have R2 := Lib.hid (And.intro q1 (And.intro q2 q3)); have G2 := Lib.hid (G1.out.trans g2); clear q1 q2 q3 g2 C2))
        refine bodyPost_ret (v := .tuple #[.slice x2 P2.length y2, .bool false]) (by simp [results, Tryd.results22, go_sem]) rfl ?_
        exact ⟨x2, y2, rfl, R2.out.1, R2.out.2.1, R2.out.2.2, G2.out⟩
    · rcases h2 with rfl | rfl
      · show Calls Tryd.prog 22 _ w (RetSB P2 false w)
        go_enter Tryd.func22, Tryd.ntmps22
        go_wp2_with (first
          | (go_at_call 17; (with_reducible refine C.out.mono ?_); rintro e w1 ⟨x1, y1, rfl, q1, q2, q3, g1⟩; have R1 := Lib.hid q3; have G1 := Lib.hid g1; have C2 := Lib.hid (CC.out x1 y1 w1 q3 (R3.out.gr g1)); clear q1 q2 q3 g1 C CC)
          | (go_at_call 17; (with_reducible refine C2.out.mono ?_); rintro e w2 ⟨x2, y2, rfl, q1, q2, q3, g2⟩; have R2 := Lib.hid (And.intro q1 (And.intro q2 q3)); have G2 := Lib.hid (G1.out.trans g2); clear q1 q2 q3 g2 C2))
        refine bodyPost_ret (v := .tuple #[.slice x2 P2.length y2, .bool false]) (by simp [results, Tryd.results22, go_sem]) rfl ?_
        exact ⟨x2, y2, rfl, R2.out.1, R2.out.2.1, R2.out.2.2, G2.out⟩
      · show Calls Tryd.prog 22 _ w (RetSB P2 false w)
        go_enter Tryd.func22, Tryd.ntmps22
        go_wp2_with (first
          | (go_at_call 17; (with_reducible refine C.out.mono ?_); rintro e w1 ⟨x1, y1, rfl, q1, q2, q3, g1⟩; have R1 := Lib.hid q3; have G1 := Lib.hid g1; have C2 := Lib.hid (CC.out x1 y1 w1 q3 (R3.out.gr g1)); clear q1 q2 q3 g1 C CC)
          | (go_at_call 17; (with_reducible refine C2.out.mono ?_); rintro e w2 ⟨x2, y2, rfl, q1, q2, q3, g2⟩; have R2 := Lib.hid (And.intro q1 (And.intro q2 q3)); have G2 := Lib.hid (G1.out.trans g2); clear q1 q2 q3 g2 C2))
        refine bodyPost_ret (v := .tuple #[.slice x2 P2.length y2, .bool false]) (by simp [results, Tryd.results22, go_sem]) rfl ?_
        exact ⟨x2, y2, rfl, R2.out.1, R2.out.2.1, R2.out.2.2, G2.out⟩
  | false =>
    have C := Lib.hid (Plus_list a1 a2 c1 c2 s t w hs ht hr1 hr2)
    have CC := Lib.hid (fun aa cc wx (k : RdS wx aa (opA false s t).length (sx (opA false s t)) (sy (opA false s t))) (k' : RdS wx a3 u.length (sx u) (sy u)) => Plus_list aa a3 cc c3 (opA false s t) u wx HV.out.1 HV.out.2 k k')
    have h1 : opE false s t = 0 ∨ opE false s t = 4 := (opE_is false s t).imp (·.1) (·.1)
    have h2 : opE false (opA false s t) u = 0 ∨ opE false (opA false s t) u = 4 := (opE_is false (opA false s t) u).imp (·.1) (·.1)
    have EB : chB false s t u = (decide (opE false s t = 0) && decide (opE false (opA false s t) u = 0)) := rfl
    have EL : chL false s t u = opA false (opA false s t) u := rfl
    rw [EB, EL]
    clear EB EL hs ht hu hr1 hr2 hr3 HV
    generalize opE false s t = E1 at *
    generalize opE false (opA false s t) u = E2 at *
    generalize opA false (opA false s t) u = P2 at *
    generalize opA false s t = P1 at *
    rcases h1 with rfl | rfl
    · rcases h2 with rfl | rfl
      · show Calls Tryd.prog 22 _ w (RetSB P2 true w)
        go_enter Tryd.func22, Tryd.ntmps22
        go_wp2_with (first
          | (go_at_call 15; (with_reducible refine C.out.mono ?_); rintro e w1 ⟨x1, y1, rfl, q1, q2, q3, g1⟩; have R1 := Lib.hid q3; have G1 := Lib.hid g1; have C2 := Lib.hid (CC.out x1 y1 w1 q3 (R3.out.gr g1)); clear q1 q2 q3 g1 C CC)
          | (go_at_call 15; (with_reducible refine C2.out.mono ?_); rintro e w2 ⟨x2, y2, rfl, q1, q2, q3, g2⟩; have R2 := Lib.hid (And.intro q1 (And.intro q2 q3)); have G2 := Lib.hid (G1.out.trans g2); clear q1 q2 q3 g2 C2))
        refine bodyPost_ret (v := .tuple #[.slice x2 P2.length y2, .bool true]) (by simp [results, Tryd.results22, go_sem]) rfl ?_
        exact ⟨x2, y2, rfl, R2.out.1, R2.out.2.1, R2.out.2.2, G2.out⟩
      · show Calls Tryd.prog 22 _ w (RetSB P2 false w)
        go_enter Tryd.func22, Tryd.ntmps22
        go_wp2_with (first
          | (go_at_call 15; (with_reducible refine C.out.mono ?_); rintro e w1 ⟨x1, y1, rfl, q1, q2, q3, g1⟩; have R1 := Lib.hid q3; have G1 := Lib.hid g1; have C2 := Lib.hid (CC.out x1 y1 w1 q3 (R3.out.gr g1)); clear q1 q2 q3 g1 C CC)
          | (go_at_call 15; (with_reducible refine C2.out.mono ?_); rintro e w2 ⟨x2, y2, rfl, q1, q2, q3, g2⟩; have R2 := Lib.hid (And.intro q1 (And.intro q2 q3)); have G2 := Lib.hid (G1.out.trans g2); clear q1 q2 q3 g2 C2))
        refine bodyPost_ret (v := .tuple #[.slice x2 P2.length y2, .bool false]) (by simp [results, Tryd.results22, go_sem]) rfl ?_
        exact ⟨x2, y2, rfl, R2.out.1, R2.out.2.1, R2.out.2.2, G2.out⟩
    · rcases h2 with rfl | rfl
      · show Calls Tryd.prog 22 _ w (RetSB P2 false w)
        go_enter Tryd.func22, Tryd.ntmps22
        go_wp2_with (first
          | (go_at_call 15; (with_reducible refine C.out.mono ?_); rintro e w1 ⟨x1, y1, rfl, q1, q2, q3, g1⟩; have R1 := Lib.hid q3; have G1 := Lib.hid g1; have C2 := Lib.hid (CC.out x1 y1 w1 q3 (R3.out.gr g1)); clear q1 q2 q3 g1 C CC)
          | (go_at_call 15; (with_reducible refine C2.out.mono ?_); rintro e w2 ⟨x2, y2, rfl, q1, q2, q3, g2⟩; have R2 := Lib.hid (And.intro q1 (And.intro q2 q3)); have G2 := Lib.hid (G1.out.trans g2); clear q1 q2 q3 g2 C2))
        refine bodyPost_ret (v := .tuple #[.slice x2 P2.length y2, .bool false]) (by simp [results, Tryd.results22, go_sem]) rfl ?_
        exact ⟨x2, y2, rfl, R2.out.1, R2.out.2.1, R2.out.2.2, G2.out⟩
      · show Calls Tryd.prog 22 _ w (RetSB P2 false w)
        go_enter Tryd.func22, Tryd.ntmps22
        go_wp2_with (first
          | (go_at_call 15; (with_reducible refine C.out.mono ?_); rintro e w1 ⟨x1, y1, rfl, q1, q2, q3, g1⟩; have R1 := Lib.hid q3; have G1 := Lib.hid g1; have C2 := Lib.hid (CC.out x1 y1 w1 q3 (R3.out.gr g1)); clear q1 q2 q3 g1 C CC)
          | (go_at_call 15; (with_reducible refine C2.out.mono ?_); rintro e w2 ⟨x2, y2, rfl, q1, q2, q3, g2⟩; have R2 := Lib.hid (And.intro q1 (And.intro q2 q3)); have G2 := Lib.hid (G1.out.trans g2); clear q1 q2 q3 g2 C2))
        refine bodyPost_ret (v := .tuple #[.slice x2 P2.length y2, .bool false]) (by simp [results, Tryd.results22, go_sem]) rfl ?_
        exact ⟨x2, y2, rfl, R2.out.1, R2.out.2.1, R2.out.2.2, G2.out⟩
end Go.Proofs.YtehdemcfeoiecaaDoor
