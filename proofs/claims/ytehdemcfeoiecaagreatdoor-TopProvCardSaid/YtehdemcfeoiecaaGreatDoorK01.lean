import Derived.Maps.Views
import Derived.Sort.KeysCollected
import Derived.Sort.LotD3
import Derived.Sort.LotA
import Derived.Sort.LotB
import Derived.Sort.LotC
import Derived.Test.YtehdemcfeoiecaaGreatDoorK00
set_option maxHeartbeats 64000000
set_option maxRecDepth 100000
namespace Go.Proofs.YtehdemcfeoiecaaGreatDoor
open Go.RowKit Go.Firn Go.Shelf
theorem isTk_split (s : ByteArray) : isTk s = (decide (s.size ≤ 12) && s.data.toList.all (fun b => tokB.data.toList.contains b) && srtB s) := by
 have hb : ∀ i, i < s.size → ∃ b, s.data.toList[i]? = some b ∧ b.toNat = bt s i := fun i hi => by
  have hl : i < s.data.toList.length := by simpa using hi
  exact ⟨s.data.toList[i], List.getElem?_eq_getElem hl, by unfold bt; rw [List.getD_eq_getElem?_getD, List.getElem?_eq_getElem hl]; rfl⟩
 rw [Bool.eq_iff_iff]
 unfold isTk tkK srtB
 simp only [Bool.and_eq_true, List.all_eq_true, decide_eq_true_eq, List.mem_range]
 constructor
 ·rintro ⟨h1, h2⟩
  refine ⟨⟨h2, fun b hb' => ?_⟩, fun i hi => ?_⟩
  ·obtain ⟨i, hi, rfl⟩ := List.getElem_of_mem hb'
   have hi' : i < s.size := by simpa using hi
   have t := h1 i hi'
   unfold tkAt at t
   obtain ⟨b, e1, e2⟩ := hb i hi'
   rw [List.getElem?_eq_getElem hi] at e1
   cases e1
   rw [tok_has, e2]
   simp only [Bool.and_eq_true, decide_eq_true_eq] at t ⊢
   exact t.1
  have t := h1 (i + 1) (by omega)
  unfold tkAt at t
  simp only [Bool.and_eq_true, Bool.or_eq_true, decide_eq_true_eq] at t
  have := t.2
  rw [show i + 1 - 1 = i by omega] at this
  omega
 rintro ⟨⟨h2, h3⟩, h4⟩
 refine ⟨fun i hi => ?_, h2⟩
 obtain ⟨b, e1, e2⟩ := hb i hi
 have := h3 b (List.mem_of_getElem? e1)
 rw [tok_has, e2] at this
 unfold tkAt
 simp only [Bool.and_eq_true, Bool.or_eq_true, decide_eq_true_eq] at this ⊢
 refine ⟨this, ?_⟩
 by_cases h0 : i = 0
 ·exact .inl h0
 right
 have := h4 (i - 1) (by omega)
 rw [show i - 1 + 1 = i by omega] at this
 exact this
theorem Trim_any (s : ByteArray) (hs : s.size ≤ 9223372036854775807) (w : World) :
  Calls Tryz.prog 128 #[.string s, .string ⟨#[97, 98, 99, 100, 101, 102, 103, 104]⟩] w fun e w' => (∃ z : ByteArray, e = .returned (.string z) ∧ z.toList.isEmpty = s.data.toList.all (fun b => tokB.data.toList.contains b)) ∧ Gr w w' := by
 refine (Any.strings_Trim_laid Tryz.trim (by kernel_rfl) s tokB w hs (by decide) (ascii_of_all (by decide))).mono fun e w' ⟨h1, h2⟩ => ⟨⟨_, h1, ?_⟩, h2⟩
 rw [Bool.eq_iff_iff, List.all_eq_true, List.isEmpty_iff, Lib.toList_data]
 exact trim_all _ _
theorem box2 (w : World) (s : ByteArray) (m : Int) (t : TypeId) : (w.alloc (.cells #[.string s, .int .i64 m] t)).cell? ⟨w.heap.size, 0, none⟩ = some (.string s) ∧ (w.alloc (.cells #[.string s, .int .i64 m] t)).cell? ⟨w.heap.size, 1, none⟩ = some (.int .i64 m) := by
 constructor <;> simp [World.cell?_alloc_new]
theorem isProduct_any (s : ByteArray) (m : Int) (hs : s.size ≤ 9223372036854775807) (w : World) : Calls Tryz.prog 98 #[.agg #[.string s, .int .i64 m]] w (RetB (isPr s m) w) := by
 obtain ⟨z0, z1⟩ := box2 w s m 58
 have G0 := Lh ((Gr.refl w).alloc (.cells #[.string s, .int .i64 m] 58))
 obtain ⟨b, cp, W1, hconv, g1, _, _, hcp, hc⟩ := conv_bytes (P := Tryz.prog) (src := 9) (dst := 176) Tryz.underlying9 Tryz.underlying176 Tryz.underlying5 s (w.alloc (.cells #[.string s, .int .i64 m] 58))
 have G1 := Lh (G0.out.trans g1)
 have y0 := g1.cell z0
 have y1 := g1.cell z1
 have E0 : isPr s m = (decide (s.size ≤ 12) && s.data.toList.all (fun b => tokB.data.toList.contains b) && srtB s && btw 1 m 100000) := by unfold isPr; rw [isTk_split]
 have CT := Lh (fun w' => Trim_any s hs w')
 have CS := Lh (fun w' (k : Gr W1 w') => IsSorted_any s b cp hs w' (fun j hj => k.cell (hc j hj).1))
 have CB := Lh (fun w' => between_any 1 m 100000 w')
 have SZ := Lh hs
 generalize s.data.toList.all (fun b => tokB.data.toList.contains b) = tt at *
 generalize srtB s = ss at *
 generalize btw 1 m 100000 = bb at *
 have E := Lh E0
 clear E0 hc hs
 by_cases h12 : s.size ≤ 12
 ·have i1 : (s.size : Int) ≤ 12 := by omega
  have E1 := Lh (show isPr s m = (tt && ss && bb) by rw [E.out, decide_eq_true h12]; simp)
  clear E h12
  cases tt with
  | false =>
   have E2 := Lh (show isPr s m = false by rw [E1.out]; rfl)
   go_enter Tryz.func98, Tryz.ntmps98
   go_wp2_with (first
    | (go_at_call 128; (with_reducible refine (CT.out _).mono ?_); rintro e w2 ⟨⟨z, rfl, hz⟩, g2⟩; have G2 := Lh (G1.out.trans g2)))
   go_ret
   rw [E2.out]
   exact ⟨rfl, G2.out⟩
  | true =>
   cases ss with
   | false =>
    have E2 := Lh (show isPr s m = false by rw [E1.out]; rfl)
    go_enter Tryz.func98, Tryz.ntmps98
    go_wp2_with (first
     | (go_at_call 128; (with_reducible refine (CT.out _).mono ?_); rintro e w2 ⟨⟨z, rfl, hz⟩, g2⟩; have G2 := Lh (G1.out.trans g2); have K2 := Lh g2; have hz4 : z.toList = [] := List.isEmpty_iff.1 hz)
     | (go_at_call 129; (with_reducible refine (CS.out _ K2.out).mono ?_); rintro e w3 h3; obtain ⟨rfl, g3⟩ := h3.b; have G3 := Lh (G2.out.trans g3); clear h3))
    go_ret
    rw [E2.out]
    exact ⟨rfl, G3.out⟩
   | true =>
    have E2 := Lh (show isPr s m = bb by rw [E1.out]; rfl)
    go_enter Tryz.func98, Tryz.ntmps98
    go_wp2_with (first
     | (go_at_call 128; (with_reducible refine (CT.out _).mono ?_); rintro e w2 ⟨⟨z, rfl, hz⟩, g2⟩; have G2 := Lh (G1.out.trans g2); have K2 := Lh g2; have hz4 : z.toList = [] := List.isEmpty_iff.1 hz; have y0 := g2.cell y0; have y1 := g2.cell y1)
     | (go_at_call 129; (with_reducible refine (CS.out _ K2.out).mono ?_); rintro e w3 h3; obtain ⟨rfl, g3⟩ := h3.b; have G3 := Lh (G2.out.trans g3); have y0 := g3.cell y0; have y1 := g3.cell y1; clear h3)
     | (go_at_call 56; (with_reducible refine (CB.out _).mono ?_); rintro e w4 ⟨rfl, rfl⟩))
    go_ret
    rw [E2.out]
    exact ⟨rfl, G3.out⟩
 have i1 : ¬ (s.size : Int) ≤ 12 := by omega
 have E2 := Lh (show isPr s m = false by rw [E.out, decide_eq_false h12]; simp)
 clear E h12
 go_enter Tryz.func98, Tryz.ntmps98
 go_wp2_with fail
 go_ret
 rw [E2.out]
 exact ⟨rfl, G1.out⟩
theorem refValidSum_any (a : Option Addr) (n c : Nat) (f : Nat → ByteArray) (g : Nat → Int) (w : World) (hn : n ≤ 9223372036854775807) (hz : ∀ i, i < n → (f i).size ≤ 9223372036854775807) (hr : RdS w a n f g) :
  Calls Tryz.prog 70 #[.slice a n c] w (RetB (vS f g n) w) := by
 have HR := Lh hr
 have HZ := Lh hz
 clear hr hz
 go_enter Tryz.func70, Tryz.ntmps70
 go_wp2
 go_loopw [7] (fun si wr => ∃ k : Nat, k ≤ n ∧ si = .int .i64 k ∧ Hid (vsK f g k = true) ∧ Hid (Gr w wr)) (fun si _ => n - (intOf si).toNat)
 case atStart => exact ⟨0, Nat.zero_le _, rfl, vsK_zero f g, Gr.refl w⟩
 case round =>
  obtain ⟨k, hk, rfl, hK, hG⟩ := hrel
  by_cases hlt : k < n
  ·have i1 : (k : Int) < (n : Int) := by omega
   obtain ⟨b, o, rfl, hc⟩ := (HR.out.gr hG.out).at hlt
   obtain ⟨k0, k1⟩ := hc k hlt
   have CT := Lh (fun w1 => isTokens_any (f k) (HZ.out k hlt) w1)
   unfold RetQ at CT
   have GB := Lh (hG.out.alloc (.cells #[.string (f k), .int .i64 (g k)] 58))
   obtain ⟨z0, z1⟩ := box2 wr (f k) (g k) 58
   by_cases hk0 : k = 0
   ·have E := Lh (show vsAt f g k = (isTk (f k) && btw 1 (g k) 100000) by unfold vsAt isPr; rw [decide_eq_true hk0]; simp)
    have KS := Lh (show vsAt f g k = true → vsK f g (k + 1) = true from fun h => by rw [vsK_succ, hK.out, h]; rfl)
    have KF := Lh (show vsAt f g k = false → vS f g n = false from fun h => by unfold vS; rw [vsK_stop hlt h]; rfl)
    have k00 : ¬ 0 < k := by omega
    have k01 : decide ((0 : Int) < (k : Int)) = false := by simp; omega
    clear hc hK hk0
    generalize f k = s at *
    generalize g k = m at *
    generalize isTk s = tk at *
    generalize vsAt f g k = v at *
    cases tk with
    | false =>
     have F := Lh (KF.out (by rw [E.out]; rfl))
     go_wp2_with fail
     go_quiet ((go_at_call 94; with_reducible exact Calls.quiet_of (CT.out _)))
     go_wp2_with fail
     go_ret
     rw [F.out]
     exact ⟨rfl, GB.out.drewN _⟩
    | true =>
     by_cases h1 : m < 1
     ·have F := Lh (KF.out (by rw [E.out]; unfold btw; rw [decide_eq_false (by omega)]; rfl))
      have d1 : decide (m < 1) = true := by simpa using h1
      clear h1 KF KS
      go_wp2_with fail
      go_quiet ((go_at_call 94; with_reducible exact Calls.quiet_of (CT.out _)))
      go_wp2_with fail
      go_ret
      rw [F.out]
      exact ⟨rfl, GB.out.drewN _⟩
     by_cases h2 : 100000 < m
     ·have F := Lh (KF.out (by rw [E.out]; unfold btw; rw [decide_eq_false (show ¬ m ≤ 100000 by omega)]; simp))
      have d1 : decide (m < 1) = false := by simpa using h1
      have d2 : decide (100000 < m) = true := by simpa using h2
      clear h1 h2 KF KS
      go_wp2_with fail
      go_quiet ((go_at_call 94; with_reducible exact Calls.quiet_of (CT.out _)))
      go_wp2_with fail
      go_ret
      rw [F.out]
      exact ⟨rfl, GB.out.drewN _⟩
     have F := Lh (KS.out (by rw [E.out]; unfold btw; rw [decide_eq_true (show 1 ≤ m by omega), decide_eq_true (show m ≤ 100000 by omega)]; rfl))
     have d1 : decide (m < 1) = false := by simpa using h1
     have d2 : decide (100000 < m) = false := by simpa using h2
     clear h1 h2 KF KS
     go_wp2_with fail
     go_quiet ((go_at_call 94; with_reducible exact Calls.quiet_of (CT.out _)))
     go_wp2_with fail
     go_roundw
     case rel => exact ⟨k + 1, hlt, by go_num, F, GB.out.drewN _⟩
     case measure => simp [intOf]; omega
   obtain ⟨j, hj⟩ : ∃ j, k = j + 1 := ⟨k - 1, by omega⟩
   have hjn : j < n := by omega
   have kp := (Gr.refl wr).alloc (.cells #[.string (f k), .int .i64 (g k)] 58) |>.cell (hc j hjn).1
   have E := Lh (show vsAt f g k = (isTk (f k) && btw 1 (g k) 100000 && bLt (f j) (f k)) by unfold vsAt isPr; rw [decide_eq_false hk0, show k - 1 = j by omega]; rfl)
   have KS := Lh (show vsAt f g k = true → vsK f g (k + 1) = true from fun h => by rw [vsK_succ, hK.out, h]; rfl)
   have KF := Lh (show vsAt f g k = false → vS f g n = false from fun h => by unfold vS; rw [vsK_stop hlt h]; rfl)
   have k00 : 0 < k := by omega
   have q1 : (k : Int) - 1 = (j : Int) := by omega
   have q2 : IntKind.i64.wrap ((k : Int) - 1) = (j : Int) := by rw [q1]; exact IntWalk.i64_in _ (by omega)
   have j1 : (j : Int) < (n : Int) := by omega
   have LT := bLt_cases (f j) (f k)
   unfold bLt at LT
   have EB : bLt (f j) (f k) = Op.bytesLess (f j).toList (f k).toList := rfl
   rw [EB] at E
   clear hc hK hk0 hj EB
   generalize f k = s at *
   generalize f j = p at *
   generalize g k = m at *
   generalize isTk s = tk at *
   generalize vsAt f g k = v at *
   cases tk with
   | false =>
    have F := Lh (KF.out (by rw [E.out]; rfl))
    go_wp2_with fail
    go_quiet ((go_at_call 94; with_reducible exact Calls.quiet_of (CT.out _)))
    go_wp2_with fail
    go_ret
    rw [F.out]
    exact ⟨rfl, GB.out.drewN _⟩
   | true =>
    by_cases h1 : m < 1
    ·have F := Lh (KF.out (by rw [E.out]; unfold btw; rw [decide_eq_false (by omega)]; rfl))
     have d1 : decide (m < 1) = true := by simpa using h1
     clear h1 KF KS
     go_wp2_with fail
     go_quiet ((go_at_call 94; with_reducible exact Calls.quiet_of (CT.out _)))
     go_wp2_with fail
     go_ret
     rw [F.out]
     exact ⟨rfl, GB.out.drewN _⟩
    by_cases h2 : 100000 < m
    ·have F := Lh (KF.out (by rw [E.out]; unfold btw; rw [decide_eq_false (show ¬ m ≤ 100000 by omega)]; simp))
     have d1 : decide (m < 1) = false := by simpa using h1
     have d2 : decide (100000 < m) = true := by simpa using h2
     clear h1 h2 KF KS
     go_wp2_with fail
     go_quiet ((go_at_call 94; with_reducible exact Calls.quiet_of (CT.out _)))
     go_wp2_with fail
     go_ret
     rw [F.out]
     exact ⟨rfl, GB.out.drewN _⟩
    have F := Lh (show v = Op.bytesLess p.toList s.toList by rw [E.out]; unfold btw; rw [decide_eq_true (show 1 ≤ m by omega), decide_eq_true (show m ≤ 100000 by omega)]; simp)
    have d1 : decide (m < 1) = false := by simpa using h1
    have d2 : decide (100000 < m) = false := by simpa using h2
    clear h1 h2
    rcases LT with ⟨a1, a2, a3⟩ | ⟨a1, a2, a3⟩ | ⟨a1, a2, a3⟩
    ·have F2 := Lh (KS.out (by rw [F.out, a1]))
     go_wp2_with fail
     go_quiet ((go_at_call 94; with_reducible exact Calls.quiet_of (CT.out _)))
     go_wp2_with fail
     go_roundw
     case rel => exact ⟨k + 1, hlt, by go_num, F2, GB.out.drewN _⟩
     case measure => simp [intOf]; omega
    rotate_left
    all_goals
     have F2 := Lh (KF.out (by rw [F.out, a1]))
     go_wp2_with fail
     go_quiet ((go_at_call 94; with_reducible exact Calls.quiet_of (CT.out _)))
     go_wp2_with fail
     go_ret
     rw [F2.out]
     exact ⟨rfl, GB.out.drewN _⟩
  obtain rfl : k = n := by omega
  have i1 : ¬ (k : Int) < (k : Int) := by omega
  have E := Lh (show vS f g k = decide ((k : Int) ≤ 40) by unfold vS; rw [hK.out, Bool.true_and]; congr 1; apply propext; omega)
  go_wp2_with fail
  go_ret
  rw [E.out]
  exact ⟨rfl, hG.out⟩
end Go.Proofs.YtehdemcfeoiecaaGreatDoor
namespace Go.Proofs.YtehdemcfeoiecaaGreatDoor
abbrev Key := List UInt8
abbrev SL := List (Key × Int)
theorem key_tri (a b : Key) : a < b ∨ a = b ∨ b < a := by
 by_cases h1 : a < b
 ·exact .inl h1
 by_cases h2 : b < a
 ·exact .inr (.inr h2)
 exact .inr (.inl (List.le_antisymm (List.not_lt.1 h2) (List.not_lt.1 h1)))
theorem key_irr (a : Key) : ¬ a < a := List.lt_irrefl a
theorem key_tr {a b c : Key} (h : a < b) (k : b < c) : a < c := List.lt_trans h k
theorem key_asymm {a b : Key} (h : a < b) : ¬ b < a := fun k => key_irr a (key_tr h k)
theorem key_ne {a b : Key} (h : a < b) : a ≠ b := fun e => by subst e; exact key_irr a h
def tot (φ : Key → Int) : SL → Int
 | [] => 0
 | x :: r => x.2 * φ x.1 + tot φ r
def Srt (L : SL) : Prop := L.Pairwise fun a b => a.1 < b.1
def Pos (L : SL) : Prop := ∀ x ∈ L, 1 ≤ x.2
def putL (k : Key) (n : Int) : SL → SL
 | [] => [(k, n)]
 | x :: r => if x.1 < k then x :: putL k n r else if x.1 = k then (k, x.2 + n) :: r else (k, n) :: x :: r
def setL (k : Key) (n : Int) : SL → SL
 | [] => [(k, n)]
 | x :: r => if x.1 < k then x :: setL k n r else if x.1 = k then (k, n) :: r else (k, n) :: x :: r
def atL (k : Key) : SL → Int
 | [] => 0
 | x :: r => if x.1 = k then x.2 else atL k r
def hasL (k : Key) (L : SL) : Bool := L.any fun x => x.1 == k
theorem tot_put (φ : Key → Int) (k : Key) (n : Int) : ∀ L : SL, tot φ (putL k n L) = tot φ L + n * φ k
 | [] => by simp [putL, tot]
 | x :: r => by
  unfold putL
  by_cases h1 : x.1 < k
  ·rw [if_pos h1]; simp only [tot, tot_put φ k n r]; omega
  rw [if_neg h1]
  by_cases h2 : x.1 = k
  ·rw [if_pos h2]; simp only [tot, Int.add_mul, h2]; omega
  rw [if_neg h2]; simp only [tot]; omega
theorem mem_put {k : Key} {n : Int} : ∀ {L : SL} {y : Key × Int}, y ∈ putL k n L → y.1 = k ∨ y ∈ L
 | [], y, h => by simp [putL] at h; exact .inl (by rw [h])
 | x :: r, y, h => by
  unfold putL at h
  split at h
  ·rcases List.mem_cons.1 h with e | h
   ·exact .inr (by rw [e]; exact List.mem_cons_self)
   rcases mem_put h with h | h
   ·exact .inl h
   exact .inr (List.mem_cons_of_mem _ h)
  split at h
  ·rcases List.mem_cons.1 h with e | h
   ·exact .inl (by rw [e])
   exact .inr (List.mem_cons_of_mem _ h)
  rcases List.mem_cons.1 h with e | h
  ·exact .inl (by rw [e])
  exact .inr h
theorem Srt.put {k : Key} {n : Int} : ∀ {L : SL}, Srt L → Srt (putL k n L)
 | [], _ => by simp [putL, Srt]
 | x :: r, h => by
  obtain ⟨h1, h2⟩ := List.pairwise_cons.1 h
  unfold putL
  split
  ·rename_i hk
   refine List.pairwise_cons.2 ⟨fun y hy => ?_, Srt.put h2⟩
   rcases mem_put hy with e | hy
   ·rw [e]; exact hk
   exact h1 y hy
  split
  ·rename_i hk
   refine List.pairwise_cons.2 ⟨fun y hy => ?_, h2⟩
   have := h1 y hy
   rw [hk] at this
   exact this
  rename_i hk hn
  refine List.pairwise_cons.2 ⟨fun y hy => ?_, h⟩
  have hkx : k < x.1 := by rcases key_tri k x.1 with h | h | h; exact h; exact absurd h.symm hn; exact absurd h hk
  rcases List.mem_cons.1 hy with e | hy
  ·rw [e]; exact hkx
  exact key_tr hkx (h1 y hy)
theorem Pos.put {k : Key} {n : Int} (hn : 1 ≤ n) : ∀ {L : SL}, Pos L → Pos (putL k n L)
 | [], _ => by intro y hy; simp [putL] at hy; rw [hy]; exact hn
 | x :: r, h => by
  have hx := h x List.mem_cons_self
  have hr : Pos r := fun y hy => h y (List.mem_cons_of_mem _ hy)
  unfold putL
  split
  ·intro y hy
   rcases List.mem_cons.1 hy with e | hy
   ·rw [e]; exact hx
   exact Pos.put hn hr y hy
  split
  ·intro y hy
   rcases List.mem_cons.1 hy with e | hy
   ·rw [e]; show 1 ≤ x.2 + n; omega
   exact hr y hy
  intro y hy
  rcases List.mem_cons.1 hy with e | hy
  ·rw [e]; exact hn
  exact h y hy
theorem put_has {k : Key} {n : Int} : ∀ {L : SL}, ∃ y ∈ putL k n L, y.1 = k
 | [] => ⟨(k, n), by simp [putL], rfl⟩
 | x :: r => by
  unfold putL
  split
  ·obtain ⟨y, h1, h2⟩ := put_has (k := k) (n := n) (L := r)
   exact ⟨y, List.mem_cons_of_mem _ h1, h2⟩
  split
  ·exact ⟨_, List.mem_cons_self, rfl⟩
  exact ⟨_, List.mem_cons_self, rfl⟩
theorem put_keeps {k : Key} {n : Int} (hn : 1 ≤ n) : ∀ {L : SL} {y : Key × Int}, y ∈ L → ∃ z ∈ putL k n L, z.1 = y.1 ∧ y.2 ≤ z.2
 | x :: r, y, h => by
  unfold putL
  split
  ·rcases List.mem_cons.1 h with e | h
   ·exact ⟨x, List.mem_cons_self, by rw [e], by rw [e]; exact Int.le_refl _⟩
   obtain ⟨z, h1, h2⟩ := put_keeps hn h
   exact ⟨z, List.mem_cons_of_mem _ h1, h2⟩
  split
  ·rename_i hk
   rcases List.mem_cons.1 h with e | h
   ·exact ⟨_, List.mem_cons_self, by rw [e]; exact hk.symm, by rw [e]; show x.2 ≤ x.2 + n; omega⟩
   exact ⟨y, List.mem_cons_of_mem _ h, rfl, Int.le_refl _⟩
  exact ⟨y, List.mem_cons_of_mem _ h, rfl, Int.le_refl _⟩
def overL (L : SL) : Bool := L.any (fun x => decide (100000 < x.2) || decide (12 < x.1.length)) || decide (40 < L.length)
def ind (k : Key) : Key → Int := fun x => if x = k then 1 else 0
theorem tot_ind_lt {k : Key} : ∀ {L : SL}, (∀ x ∈ L, k < x.1) → tot (ind k) L = 0
 | [], _ => rfl
 | x :: r, h => by
  have hx := h x List.mem_cons_self
  simp only [tot, ind, if_neg (key_ne hx).symm, Int.mul_zero, Int.zero_add]
  exact tot_ind_lt fun y hy => h y (List.mem_cons_of_mem _ hy)
theorem uniq : ∀ {A B : SL}, Srt A → Srt B → Pos A → Pos B → (∀ φ, tot φ A = tot φ B) → A = B
 | [], [], _, _, _, _, _ => rfl
 | [], y :: s, _, hB, _, pB, h => by
  exfalso
  have := h (ind y.1)
  have hy := pB y List.mem_cons_self
  have e := tot_ind_lt (k := y.1) (L := s) (List.pairwise_cons.1 hB).1
  simp only [tot, e] at this
  simp [ind] at this
  omega
 | x :: r, [], hA, _, pA, _, h => by
  exfalso
  have := h (ind x.1)
  have hy := pA x List.mem_cons_self
  have e := tot_ind_lt (k := x.1) (L := r) (List.pairwise_cons.1 hA).1
  simp only [tot, e] at this
  simp [ind] at this
  omega
 | x :: r, y :: s, hA, hB, pA, pB, h => by
  obtain ⟨a1, a2⟩ := List.pairwise_cons.1 hA
  obtain ⟨b1, b2⟩ := List.pairwise_cons.1 hB
  have px := pA x List.mem_cons_self
  have py := pB y List.mem_cons_self
  have ex := tot_ind_lt a1
  have ey := tot_ind_lt b1
  rcases key_tri x.1 y.1 with hxy | hxy | hxy
  ·exfalso
   have := h (ind x.1)
   have e := tot_ind_lt (k := x.1) (L := y :: s) (fun z hz => by
    rcases List.mem_cons.1 hz with rfl | hz
    ·exact hxy
    exact key_tr hxy (b1 z hz))
   rw [e] at this
   simp only [tot, ex] at this
   simp [ind] at this
   omega
  ·have h1 := h (ind x.1)
   have n1 : x.2 = y.2 := by
    simp only [tot, ex] at h1
    rw [hxy, ey] at h1
    simpa [ind] using h1
   have e : x = y := Prod.ext hxy n1
   subst e
   have := uniq a2 b2 (fun z hz => pA z (List.mem_cons_of_mem _ hz)) (fun z hz => pB z (List.mem_cons_of_mem _ hz)) (fun φ => by have := h φ; simp only [tot] at this; omega)
   rw [this]
  exfalso
  have := h (ind y.1)
  have e := tot_ind_lt (k := y.1) (L := x :: r) (fun z hz => by
   rcases List.mem_cons.1 hz with rfl | hz
   ·exact hxy
   exact key_tr hxy (a1 z hz))
  rw [e] at this
  simp only [tot, ey] at this
  simp [ind] at this
  omega
def mx (p q : Key) : Key := (p ++ q).mergeSort (fun a b => decide (a ≤ b))
def srtK (p : Key) : Prop := p.Pairwise (fun a b => a ≤ b)
theorem u8tot (a b : UInt8) : (decide (a ≤ b) || decide (b ≤ a)) = true := by
 simp only [Bool.or_eq_true, decide_eq_true_eq, UInt8.le_iff_toNat_le]; omega
theorem u8tr (a b c : UInt8) (h : decide (a ≤ b) = true) (k : decide (b ≤ c) = true) : decide (a ≤ c) = true := by
 simp only [decide_eq_true_eq, UInt8.le_iff_toNat_le] at *; omega
theorem mx_perm (p q : Key) : (mx p q).Perm (p ++ q) := List.mergeSort_perm _ _
theorem mx_srt (p q : Key) : srtK (mx p q) := by
 have := List.pairwise_mergeSort (le := fun a b : UInt8 => decide (a ≤ b)) u8tr u8tot (p ++ q)
 exact this.imp fun h => by simpa using h
theorem mx_length (p q : Key) : (mx p q).length = p.length + q.length := by rw [(mx_perm p q).length_eq, List.length_append]
theorem mx_mem {p q : Key} {b : UInt8} : b ∈ mx p q ↔ b ∈ p ∨ b ∈ q := by rw [(mx_perm p q).mem_iff, List.mem_append]
def plusL (s t : SL) : SL := t.foldl (fun o x => putL x.1 x.2 o) s
def innL (a : Key × Int) (t out : SL) : SL := t.foldl (fun o b => putL (mx a.1 b.1) (a.2 * b.2) o) out
def timesF (s t out : SL) : SL := s.foldl (fun o a => innL a t o) out
def timesL (s t : SL) : SL := timesF s t []
theorem tot_plus (φ : Key → Int) : ∀ (t s : SL), tot φ (plusL s t) = tot φ s + tot φ t
 | [], s => by simp [plusL, tot]
 | x :: r, s => by
  show tot φ (plusL (putL x.1 x.2 s) r) = _
  rw [tot_plus φ r, tot_put]
  simp only [tot]
  omega
theorem tot_inn (φ : Key → Int) (a : Key × Int) : ∀ (t out : SL), tot φ (innL a t out) = tot φ out + a.2 * tot (fun q => φ (mx a.1 q)) t
 | [], out => by simp [innL, tot]
 | b :: r, out => by
  show tot φ (innL a r (putL (mx a.1 b.1) (a.2 * b.2) out)) = _
  rw [tot_inn φ a r, tot_put]
  simp only [tot, Int.mul_add]
  rw [Int.mul_assoc]
  omega
theorem tot_timesF (φ : Key → Int) (t : SL) : ∀ (s out : SL), tot φ (timesF s t out) = tot φ out + tot (fun p => tot (fun q => φ (mx p q)) t) s
 | [], out => by simp [timesF, tot]
 | a :: r, out => by
  show tot φ (timesF r t (innL a t out)) = _
  rw [tot_timesF φ t r, tot_inn]
  simp only [tot]
  omega
theorem tot_times (φ : Key → Int) (s t : SL) : tot φ (timesL s t) = tot (fun p => tot (fun q => φ (mx p q)) t) s := by
 unfold timesL
 rw [tot_timesF]
 simp [tot]
theorem Srt.plus {t : SL} : ∀ {s : SL}, Srt s → Srt (plusL s t) := by
 induction t with
 | nil => intro s h; exact h
 | cons x r ih => intro s h; exact ih h.put
theorem Pos.plus {t : SL} (ht : Pos t) : ∀ {s : SL}, Pos s → Pos (plusL s t) := by
 induction t with
 | nil => intro s h; exact h
 | cons x r ih => intro s h; exact ih (fun y hy => ht y (List.mem_cons_of_mem _ hy)) (h.put (ht x List.mem_cons_self))
theorem pos_mul {m n : Int} (h : 1 ≤ m) (k : 1 ≤ n) : 1 ≤ m * n := by
 have := Int.mul_le_mul h k (by decide) (by omega)
 simpa using this
theorem Srt.inn {a : Key × Int} {t : SL} : ∀ {o : SL}, Srt o → Srt (innL a t o) := by
 induction t with
 | nil => intro o h; exact h
 | cons x r ih => intro o h; exact ih h.put
theorem Pos.inn {a : Key × Int} {t : SL} (ha : 1 ≤ a.2) (ht : Pos t) : ∀ {o : SL}, Pos o → Pos (innL a t o) := by
 induction t with
 | nil => intro o h; exact h
 | cons x r ih => intro o h; exact ih (fun y hy => ht y (List.mem_cons_of_mem _ hy)) (h.put (pos_mul ha (ht x List.mem_cons_self)))
theorem Srt.timesF {s t : SL} : ∀ {o : SL}, Srt o → Srt (timesF s t o) := by
 induction s with
 | nil => intro o h; exact h
 | cons x r ih => intro o h; exact ih h.inn
theorem Pos.timesF {s t : SL} (hs : Pos s) (ht : Pos t) : ∀ {o : SL}, Pos o → Pos (timesF s t o) := by
 induction s with
 | nil => intro o h; exact h
 | cons x r ih => intro o h; exact ih (fun y hy => hs y (List.mem_cons_of_mem _ hy)) (Pos.inn (hs x List.mem_cons_self) ht h)
theorem Srt.times {s t : SL} : Srt (timesL s t) := Srt.timesF (by simp [Srt])
theorem Pos.times {s t : SL} (hs : Pos s) (ht : Pos t) : Pos (timesL s t) := Pos.timesF hs ht (by simp [Pos])
theorem times_nil (s : SL) : timesL s [] = [] := by
 unfold timesL timesF
 have : ∀ o : SL, List.foldl (fun o a => innL a [] o) o s = o := by
  induction s with
  | nil => intro o; rfl
  | cons a r ih => intro o; exact ih o
 exact this []
end Go.Proofs.YtehdemcfeoiecaaGreatDoor
namespace Go.Proofs.YtehdemcfeoiecaaGreatDoor
open Go.Firn
theorem before_is : ∀ a b : Key, bytesBefore a b = decide (a < b)
 | [], [] => by simp [bytesBefore]
 | [], _ :: _ => by simp [bytesBefore]
 | _ :: _, [] => by simp [bytesBefore]
 | x :: a, y :: b => by
  unfold bytesBefore
  rw [before_is a b, Bool.eq_iff_iff]
  simp only [Bool.or_eq_true, Bool.and_eq_true, decide_eq_true_eq, beq_iff_eq, List.cons_lt_cons_iff]
section
variable {H : Type}
def ent (x : Key × Int) : Lit × DataW H := (.string x.1, .lit (.int .i64 x.2))
def mapD (L : SL) : DataW H := .map (L.map ent)
theorem ent_same (x : Key × Int) (k : Key) : (ent (H := H) x).1.sameKey (.string k) = decide (x.1 = k) := by
 show (x.1 == k) = _
 by_cases h : x.1 = k
 ·simp [h]
 simp [h]
theorem find_ent (k : Key) : ∀ L : SL, (L.map (ent (H := H))).find? (fun p => p.1.sameKey (.string k)) = (L.find? fun x => decide (x.1 = k)).map ent
 | [] => rfl
 | x :: r => by
  rw [List.map_cons, List.find?_cons, List.find?_cons, ent_same]
  by_cases h : x.1 = k
  ·simp [h]
  simp only [h, decide_false]; exact find_ent k r
theorem atL_find (k : Key) : ∀ L : SL, atL k L = ((L.find? fun x => decide (x.1 = k)).map (·.2)).getD 0
 | [] => rfl
 | x :: r => by
  unfold atL
  rw [List.find?_cons]
  by_cases h : x.1 = k
  ·simp [h]
  simp only [h, if_false, decide_false]; exact atL_find k r
theorem mapD_at (k : Key) (L : SL) : (mapD (H := H) L).atKey (.string k) (.lit (.int .i64 0)) = .lit (.int .i64 (atL k L)) := by
 show (match (L.map (ent (H := H))).find? (fun p => p.1.sameKey (.string k)) with | some p => p.2 | none => (.lit (.int .i64 0) : DataW H)) = _
 rw [find_ent, atL_find]
 cases L.find? (fun x => decide (x.1 = k)) <;> rfl
theorem mapD_has (k : Key) (L : SL) : Maps.has (mapD (H := H) L) (.string k) = hasL k L := by
 show (L.map ent).any (fun p => p.1.sameKey (.string k)) = L.any fun x => x.1 == k
 rw [List.any_map]
 rfl
theorem mapD_keys (L : SL) : strKeys (mapD (H := H) L) = L.map (·.1) := by
 show (L.map (ent (H := H))).map (fun p : Lit × DataW H => Go.strOf p.1) = _
 rw [List.map_map]
 rfl
theorem mapD_size (L : SL) : Maps.size (mapD (H := H) L) = L.length := by
 show (L.map ent).length = _
 simp
theorem filter_id {L : SL} {k : Key} (h : ∀ x ∈ L, x.1 ≠ k) : (L.map (ent (H := H))).filter (fun p => !p.1.sameKey (.string k)) = L.map ent := by
 rw [List.filter_eq_self]
 intro p hp
 obtain ⟨x, hx, rfl⟩ := List.mem_map.1 hp
 rw [ent_same, decide_eq_false (h x hx)]
 rfl
theorem insert_ent (k : Key) (n : Int) : ∀ {L : SL}, Srt L → DataW.insert (ent (H := H) (k, n)) ((L.map ent).filter fun p => !p.1.sameKey (.string k)) = (setL k n L).map ent
 | [], _ => rfl
 | x :: r, h => by
  obtain ⟨h1, h2⟩ := List.pairwise_cons.1 h
  unfold setL
  rw [List.map_cons, List.filter_cons, ent_same]
  have bf : ∀ a b : Key × Int, (ent (H := H) a).1.before (ent (H := H) b).1 = decide (a.1 < b.1) := fun a b => before_is a.1 b.1
  rcases key_tri x.1 k with hk | hk | hk
  ·rw [if_pos hk, decide_eq_false (key_ne hk)]
   simp only [Bool.not_false, if_true]
   unfold DataW.insert
   rw [bf, decide_eq_false (key_asymm hk)]
   simp only [Bool.false_eq_true, if_false]
   rw [insert_ent k n h2]
   rfl
  ·rw [if_neg (show ¬ x.1 < k by rw [hk]; exact key_irr k), if_pos hk, decide_eq_true hk]
   simp only [Bool.not_true, Bool.false_eq_true, if_false]
   rw [filter_id (fun y hy => (key_ne (hk ▸ h1 y hy)).symm)]
   cases r with
   | nil => rfl
   | cons y s =>
    rw [List.map_cons]
    unfold DataW.insert
    rw [bf, decide_eq_true (show k < y.1 from hk ▸ h1 y List.mem_cons_self)]
    rfl
  rw [if_neg (key_asymm hk), if_neg (key_ne hk).symm, decide_eq_false (key_ne hk).symm]
  simp only [Bool.not_false, if_true]
  rw [filter_id (fun y hy => (key_ne (key_tr hk (h1 y hy))).symm)]
  unfold DataW.insert
  rw [bf, decide_eq_true hk]
  rfl
theorem mapD_put {L : SL} (h : Srt L) (k : Key) (n : Int) : (mapD (H := H) L).put (.string k) (.lit (.int .i64 n)) = mapD (setL k n L) := by
 show DataW.map (DataW.insert (ent (k, n)) ((L.map ent).filter fun p => !p.1.sameKey (.string k))) = _
 rw [insert_ent k n h]
 rfl
end
theorem atL_lt {k : Key} : ∀ {L : SL}, (∀ x ∈ L, k < x.1) → atL k L = 0
 | [], _ => rfl
 | x :: r, h => by
  unfold atL
  rw [if_neg (key_ne (h x List.mem_cons_self)).symm]
  exact atL_lt fun y hy => h y (List.mem_cons_of_mem _ hy)
theorem set_at {k : Key} {n : Int} : ∀ {L : SL}, Srt L → setL k (atL k L + n) L = putL k n L
 | [], _ => by simp [setL, putL, atL]
 | x :: r, h => by
  obtain ⟨h1, h2⟩ := List.pairwise_cons.1 h
  unfold setL putL atL
  rcases key_tri x.1 k with hk | hk | hk
  ·rw [if_pos hk, if_pos hk, if_neg (key_ne hk), set_at h2]
  ·rw [if_neg (show ¬ x.1 < k by rw [hk]; exact key_irr k), if_neg (show ¬ x.1 < k by rw [hk]; exact key_irr k), if_pos hk, if_pos hk, if_pos hk]
  rw [if_neg (key_asymm hk), if_neg (key_asymm hk), if_neg (key_ne hk).symm, if_neg (key_ne hk).symm, if_neg (key_ne hk).symm, atL_lt (fun y hy => key_tr hk (h1 y hy))]
  simp
theorem set_last {k : Key} {n : Int} : ∀ {L : SL}, (∀ x ∈ L, x.1 < k) → setL k n L = L ++ [(k, n)]
 | [], _ => rfl
 | x :: r, h => by
  unfold setL
  rw [if_pos (h x List.mem_cons_self), set_last fun y hy => h y (List.mem_cons_of_mem _ hy)]
  rfl
theorem atL_mem {L : SL} (h : Srt L) {x : Key × Int} (hx : x ∈ L) : atL x.1 L = x.2 := by
 induction L with
 | nil => cases hx
 | cons y r ih =>
  obtain ⟨h1, h2⟩ := List.pairwise_cons.1 h
  unfold atL
  rcases List.mem_cons.1 hx with e | hx
  ·rw [e, if_pos rfl]
  rw [if_neg (key_ne (h1 x hx)), ih h2 hx]
theorem hasL_mem {L : SL} {k : Key} (h : hasL k L = true) : ∃ n, (k, n) ∈ L := by
 unfold hasL at h
 obtain ⟨x, hx, e⟩ := List.any_eq_true.1 h
 have e : x.1 = k := by simpa using e
 exact ⟨x.2, by rw [← e]; exact hx⟩
def lft (left : Lit → Bool) (L : SL) : SL := L.filter fun x => left (.string x.1)
theorem lft_all (L : SL) {H : Type} : lft (Maps.has (mapD (H := H) L)) L = L := by
 unfold lft
 rw [List.filter_eq_self]
 intro x hx
 rw [mapD_has]
 exact List.any_eq_true.2 ⟨x, hx, by simp⟩
theorem lft_none {left : Lit → Bool} (h : ∀ kl, left kl = false) (L : SL) : lft left L = [] := by
 unfold lft
 rw [List.filter_eq_nil_iff]
 intro x _
 simp [h]
theorem strike (left : Lit → Bool) (k : Key) (x : Key × Int) : (left (.string x.1) && !(Lit.string x.1).sameKey (.string k)) = (left (.string x.1) && !decide (x.1 = k)) := by
 congr 2
 show (x.1 == k) = _
 by_cases h : x.1 = k <;> simp [h]
theorem lft_step (φ : Key → Int) {left : Lit → Bool} {k : Key} {n : Int} (hl : left (.string k) = true) : ∀ {L : SL}, Srt L → (k, n) ∈ L → tot φ (lft left L) = n * φ k + tot φ (lft (fun z => left z && !z.sameKey (.string k)) L)
 | x :: r, h, hm => by
  obtain ⟨h1, h2⟩ := List.pairwise_cons.1 h
  simp only [lft, List.filter_cons, strike]
  rcases List.mem_cons.1 hm with e | hm
  ·subst e
   have same : r.filter (fun x => left (.string x.1)) = r.filter (fun x => left (.string x.1) && !decide (x.1 = k)) := List.filter_congr fun y hy => by
    rw [decide_eq_false (key_ne (h1 y hy)).symm]; simp
   simp only [hl, if_true, decide_true, Bool.not_true, Bool.and_false, Bool.false_eq_true, if_false]
   rw [← same]
   rfl
  have ih := lft_step φ hl h2 hm
  simp only [lft, strike] at ih
  have hne : x.1 ≠ k := key_ne (h1 _ hm)
  rw [decide_eq_false hne]
  cases hx : left (.string x.1)
  ·simp only [Bool.false_and, Bool.false_eq_true, if_false]; exact ih
  simp only [Bool.not_false, Bool.and_self, if_true, tot]; rw [ih]; omega
theorem lft_mem {H : Type} {L : SL} (h : Srt L) {k : Key} {y : DataW H} (hat : ∀ zd, (mapD (H := H) L).atKey (.string k) zd = y) : ∃ n, (k, n) ∈ L ∧ y = .lit (.int .i64 n) := by
 obtain ⟨n, hn⟩ := hasL_mem (by rw [← mapD_has (H := H)]; exact Maps.has_true_of_atKey hat)
 refine ⟨n, hn, ?_⟩
 rw [← hat (.lit (.int .i64 0)), mapD_at, atL_mem h hn]
def ofS (f : Nat → ByteArray) (g : Nat → Int) (n : Nat) : SL := (List.range n).map fun i => ((f i).data.toList, g i)
theorem ofS_succ (f : Nat → ByteArray) (g : Nat → Int) (n : Nat) : ofS f g (n + 1) = ofS f g n ++ [((f n).data.toList, g n)] := by
 unfold ofS
 rw [List.range_succ, List.map_append]
 rfl
theorem ofS_length (f : Nat → ByteArray) (g : Nat → Int) (n : Nat) : (ofS f g n).length = n := by simp [ofS]
theorem ofS_get {f : Nat → ByteArray} {g : Nat → Int} {n i : Nat} (h : i < n) : (ofS f g n)[i]? = some ((f i).data.toList, g i) := by
 unfold ofS
 rw [List.getElem?_map, List.getElem?_range h]
 rfl
theorem ofS_mem {f : Nat → ByteArray} {g : Nat → Int} {n : Nat} {x : Key × Int} : x ∈ ofS f g n ↔ ∃ i, i < n ∧ x = ((f i).data.toList, g i) := by
 unfold ofS
 rw [List.mem_map]
 constructor
 ·rintro ⟨i, hi, rfl⟩; exact ⟨i, by simpa using hi, rfl⟩
 rintro ⟨i, hi, rfl⟩; exact ⟨i, by simpa using hi, rfl⟩
theorem ofS_inj {f f' : Nat → ByteArray} {g g' : Nat → Int} {n n' : Nat} (h : ofS f g n = ofS f' g' n') : n = n' ∧ ∀ i, i < n → f i = f' i ∧ g i = g' i := by
 have e : n = n' := by have := congrArg List.length h; rwa [ofS_length, ofS_length] at this
 subst e
 refine ⟨rfl, fun i hi => ?_⟩
 have := congrArg (fun L : SL => L[i]?) h
 simp only [ofS_get hi, Option.some.injEq, Prod.mk.injEq] at this
 exact ⟨by have := Array.toList_inj.1 this.1; exact ByteArray.ext this, this.2⟩
theorem ofS_of (L : SL) : ofS (fun i => ⟨((L.getD i ([], 0)).1).toArray⟩) (fun i => (L.getD i ([], 0)).2) L.length = L := by
 refine List.ext_getElem? fun i => ?_
 by_cases h : i < L.length
 ·rw [ofS_get h, List.getElem?_eq_getElem h]
  simp [List.getD_eq_getElem?_getD, List.getElem?_eq_getElem h]
 rw [List.getElem?_eq_none (by rw [ofS_length]; omega), List.getElem?_eq_none (by omega)]
def tkL (k : Key) : Prop := (∀ b ∈ k, 97 ≤ b.toNat ∧ b.toNat ≤ 104) ∧ srtK k
theorem bt_key {s : ByteArray} {i : Nat} (h : i < s.size) : ∃ hl : i < s.data.toList.length, bt s i = (s.data.toList[i]'hl).toNat := by
 have hl : i < s.data.toList.length := by simpa using h
 refine ⟨hl, ?_⟩
 unfold bt
 rw [List.getD_eq_getElem?_getD, List.getElem?_eq_getElem hl]
 rfl
theorem size_key (s : ByteArray) : s.data.toList.length = s.size := by simp
theorem isTk_iff {s : ByteArray} : isTk s = true ↔ tkL s.data.toList ∧ s.size ≤ 12 := by
 unfold isTk
 rw [Bool.and_eq_true, decide_eq_true_eq]
 constructor
 ·rintro ⟨h, h12⟩
  refine ⟨⟨fun b hb => ?_, ?_⟩, h12⟩
  ·obtain ⟨i, hi, rfl⟩ := List.getElem_of_mem hb
   have hi' : i < s.size := by simpa using hi
   have t := tkK_at h hi'
   unfold tkAt at t
   obtain ⟨hl, e⟩ := bt_key hi'
   simp only [Bool.and_eq_true, decide_eq_true_eq, e] at t
   exact t.1
  have step : ∀ i (hi : i + 1 < s.data.toList.length), s.data.toList[i] ≤ s.data.toList[i + 1] := by
   intro i hi
   have hi' : i + 1 < s.size := by simpa using hi
   have t := tkK_at h hi'
   unfold tkAt at t
   obtain ⟨hl, e⟩ := bt_key hi'
   obtain ⟨hl2, e2⟩ := bt_key (s := s) (i := i) (by omega)
   simp only [Bool.and_eq_true, Bool.or_eq_true, decide_eq_true_eq, e, show i + 1 - 1 = i from rfl, e2] at t
   rw [UInt8.le_iff_toNat_le]
   omega
  unfold srtK
  rw [List.pairwise_iff_getElem]
  intro i j hi hj hij
  obtain ⟨d, rfl⟩ : ∃ d, j = i + 1 + d := ⟨j - i - 1, by omega⟩
  clear hij
  induction d with
  | zero => exact step i hj
  | succ d ih => exact UInt8.le_trans (ih (by omega)) (step (i + 1 + d) (by omega))
 rintro ⟨⟨h1, h2⟩, h12⟩
 refine ⟨?_, h12⟩
 unfold tkK
 rw [List.all_eq_true]
 intro i hi
 have hi : i < s.size := by simpa using hi
 obtain ⟨hl, e⟩ := bt_key hi
 have hb := h1 _ (List.getElem_mem hl)
 unfold tkAt
 simp only [Bool.and_eq_true, Bool.or_eq_true, decide_eq_true_eq, e]
 refine ⟨hb, ?_⟩
 by_cases h0 : i = 0
 ·exact .inl h0
 right
 obtain ⟨hl2, e2⟩ := bt_key (s := s) (i := i - 1) (by omega)
 rw [e2, ← UInt8.le_iff_toNat_le]
 exact (List.pairwise_iff_getElem.1 h2) (i - 1) i hl2 hl (by omega)
theorem bLt_key {a b : ByteArray} : bLt a b = true ↔ a.data.toList < b.data.toList := by
 rw [bLt_iff, ByteArray.toList_eq, ByteArray.toList_eq]
def VL (L : SL) : Prop := Srt L ∧ Pos L ∧ (∀ x ∈ L, tkL x.1)
theorem vS_iff {f : Nat → ByteArray} {g : Nat → Int} {n : Nat} : vS f g n = true ↔ VL (ofS f g n) ∧ overL (ofS f g n) = false := by
 constructor
 ·intro h
  have hv := vS_at h
  unfold vS at h
  rw [Bool.and_eq_true] at h
  have ad : ∀ i, i + 1 < n → bLt (f i) (f (i + 1)) = true := by
   intro i hi
   have t := vsK_at h.1 hi
   unfold vsAt at t
   rw [Bool.and_eq_true, Bool.or_eq_true] at t
   rcases t.2 with t | t
   ·simp at t
   exact t
  refine ⟨⟨?_, ?_, ?_⟩, ?_⟩
  ·unfold Srt
   rw [List.pairwise_iff_getElem]
   intro i j hi hj hij
   rw [ofS_length] at hi hj
   have gi : (ofS f g n)[i]'(by rw [ofS_length]; exact hi) = ((f i).data.toList, g i) := by have := ofS_get (f := f) (g := g) hi; rw [List.getElem?_eq_getElem (by rw [ofS_length]; exact hi)] at this; simpa using this
   have gj : (ofS f g n)[j]'(by rw [ofS_length]; exact hj) = ((f j).data.toList, g j) := by have := ofS_get (f := f) (g := g) hj; rw [List.getElem?_eq_getElem (by rw [ofS_length]; exact hj)] at this; simpa using this
   rw [gi, gj]
   show (f i).data.toList < (f j).data.toList
   clear gi gj
   obtain ⟨d, rfl⟩ : ∃ d, j = i + 1 + d := ⟨j - i - 1, by omega⟩
   clear hij
   induction d with
   | zero => exact bLt_key.1 (ad i hj)
   | succ d ih =>
    have hd : i + 1 + d < n := by omega
    exact key_tr (ih (by rw [ofS_length]; exact hd) hd) (bLt_key.1 (ad (i + 1 + d) hj))
  ·intro x hx
   obtain ⟨i, hi, rfl⟩ := ofS_mem.1 hx
   exact (hv.2 i hi).2.1
  ·intro x hx
   obtain ⟨i, hi, rfl⟩ := ofS_mem.1 hx
   exact (isTk_iff.1 (hv.2 i hi).1).1
  unfold overL
  rw [Bool.or_eq_false_iff, List.any_eq_false]
  refine ⟨fun x hx => ?_, by rw [ofS_length]; simpa using hv.1⟩
  obtain ⟨i, hi, rfl⟩ := ofS_mem.1 hx
  have a := (hv.2 i hi).2.2
  have b := (isTk_iff.1 (hv.2 i hi).1).2
  rw [← size_key] at b
  simp only [Bool.or_eq_true, decide_eq_true_eq]
  omega
 rintro ⟨⟨h1, h2, h3⟩, h4⟩
 unfold overL at h4
 rw [Bool.or_eq_false_iff, List.any_eq_false, ofS_length] at h4
 unfold vS vsK
 rw [Bool.and_eq_true]
 refine ⟨?_, by have := h4.2; simp only [decide_eq_false_iff_not] at this; simp only [decide_eq_true_eq]; omega⟩
 rw [List.all_eq_true]
 intro i hi
 have hi : i < n := by simpa using hi
 have hm : ((f i).data.toList, g i) ∈ ofS f g n := ofS_mem.2 ⟨i, hi, rfl⟩
 have o := h4.1 _ hm
 simp only [Bool.or_eq_true, decide_eq_true_eq] at o
 have p := h2 _ hm
 unfold vsAt isPr btw
 simp only [Bool.and_eq_true, Bool.or_eq_true, decide_eq_true_eq]
 refine ⟨⟨isTk_iff.2 ⟨h3 _ hm, by rw [← size_key]; omega⟩, p, by omega⟩, ?_⟩
 by_cases h0 : i = 0
 ·exact .inl h0
 right
 rw [bLt_key]
 have := (List.pairwise_iff_getElem.1 h1) (i - 1) i (by rw [ofS_length]; omega) (by rw [ofS_length]; exact hi) (by omega)
 have gi : (ofS f g n)[i]'(by rw [ofS_length]; exact hi) = ((f i).data.toList, g i) := by have := ofS_get (f := f) (g := g) hi; rw [List.getElem?_eq_getElem (by rw [ofS_length]; exact hi)] at this; simpa using this
 have gj : (ofS f g n)[i - 1]'(by rw [ofS_length]; omega) = ((f (i - 1)).data.toList, g (i - 1)) := by have := ofS_get (f := f) (g := g) (i := i - 1) (n := n) (by omega); rw [List.getElem?_eq_getElem (by rw [ofS_length]; omega)] at this; simpa using this
 rw [gi, gj] at this
 exact this
theorem tkL_mx {p q : Key} (hp : tkL p) (hq : tkL q) : tkL (mx p q) :=
 ⟨fun b hb => by rcases mx_mem.1 hb with h | h; exact hp.1 b h; exact hq.1 b h, mx_srt p q⟩
theorem VL.plus {s t : SL} (hs : VL s) (ht : VL t) : VL (plusL s t) := by
 refine ⟨hs.1.plus, Pos.plus ht.2.1 hs.2.1, ?_⟩
 have key : ∀ (t s : SL), (∀ x ∈ s, tkL x.1) → (∀ x ∈ t, tkL x.1) → ∀ x ∈ plusL s t, tkL x.1 := by
  intro t
  induction t with
  | nil => intro s h _; exact h
  | cons y r ih =>
   intro s h k
   refine ih (putL y.1 y.2 s) (fun x hx => ?_) (fun x hx => k x (List.mem_cons_of_mem _ hx))
   rcases mem_put hx with e | hx
   ·rw [e]; exact k y List.mem_cons_self
   exact h x hx
 exact key t s hs.2.2 ht.2.2
theorem tk_timesF {s t : SL} (hs : ∀ x ∈ s, tkL x.1) (ht : ∀ x ∈ t, tkL x.1) : ∀ {o : SL}, (∀ x ∈ o, tkL x.1) → ∀ x ∈ timesF s t o, tkL x.1 := by
 have inn : ∀ (a : Key × Int) (t o : SL), tkL a.1 → (∀ x ∈ t, tkL x.1) → (∀ x ∈ o, tkL x.1) → ∀ x ∈ innL a t o, tkL x.1 := by
  intro a t
  induction t with
  | nil => intro o _ _ h; exact h
  | cons y r ih =>
   intro o ha k h
   refine ih (putL (mx a.1 y.1) (a.2 * y.2) o) ha (fun x hx => k x (List.mem_cons_of_mem _ hx)) fun x hx => ?_
   rcases mem_put hx with e | hx
   ·rw [e]; exact tkL_mx ha (k y List.mem_cons_self)
   exact h x hx
 induction s with
 | nil => intro o h; exact h
 | cons a r ih =>
  intro o h
  exact ih (fun x hx => hs x (List.mem_cons_of_mem _ hx)) (inn a t o (hs a List.mem_cons_self) ht h)
theorem VL.times {s t : SL} (hs : VL s) (ht : VL t) : VL (timesL s t) := ⟨Srt.times, Pos.times hs.2.1 ht.2.1, tk_timesF hs.2.2 ht.2.2 (by simp)⟩
def hasK (k : Key) (L : SL) : Prop := ∃ x ∈ L, x.1 = k
theorem hasK_put {k k' : Key} {n : Int} (hn : 1 ≤ n) {L : SL} : hasK k' (putL k n L) ↔ k' = k ∨ hasK k' L := by
 constructor
 ·rintro ⟨x, hx, rfl⟩
  rcases mem_put hx with h | h
  ·exact .inl h
  exact .inr ⟨x, h, rfl⟩
 rintro (rfl | ⟨x, hx, rfl⟩)
 ·exact put_has
 obtain ⟨z, hz, e, _⟩ := put_keeps (k := k) hn hx
 exact ⟨z, hz, e⟩
theorem hasK_plus {k : Key} : ∀ {t s : SL}, Pos t → (hasK k (plusL s t) ↔ hasK k s ∨ hasK k t)
 | [], s, _ => by
  show hasK k s ↔ _
  constructor
  ·exact .inl
  rintro (h | ⟨x, hx, _⟩)
  ·exact h
  cases hx
 | y :: r, s, h => by
  show hasK k (plusL (putL y.1 y.2 s) r) ↔ _
  rw [hasK_plus (fun x hx => h x (List.mem_cons_of_mem _ hx)), hasK_put (h y List.mem_cons_self)]
  constructor
  ·rintro ((rfl | h) | ⟨x, hx, e⟩)
   ·exact .inr ⟨y, List.mem_cons_self, rfl⟩
   ·exact .inl h
   exact .inr ⟨x, List.mem_cons_of_mem _ hx, e⟩
  rintro (h | ⟨x, hx, e⟩)
  ·exact .inl (.inr h)
  rcases List.mem_cons.1 hx with rfl | hx
  ·exact .inl (.inl e.symm)
  exact .inr ⟨x, hx, e⟩
theorem hasK_inn {k : Key} {a : Key × Int} (ha : 1 ≤ a.2) : ∀ {t o : SL}, Pos t → (hasK k (innL a t o) ↔ hasK k o ∨ ∃ q, hasK q t ∧ k = mx a.1 q)
 | [], o, _ => by
  show hasK k o ↔ _
  constructor
  ·exact .inl
  rintro (h | ⟨_, ⟨x, hx, _⟩, _⟩)
  ·exact h
  cases hx
 | y :: r, o, h => by
  show hasK k (innL a r (putL (mx a.1 y.1) (a.2 * y.2) o)) ↔ _
  rw [hasK_inn ha (fun x hx => h x (List.mem_cons_of_mem _ hx)), hasK_put (pos_mul ha (h y List.mem_cons_self))]
  constructor
  ·rintro ((rfl | h) | ⟨q, ⟨x, hx, e⟩, hq⟩)
   ·exact .inr ⟨y.1, ⟨y, List.mem_cons_self, rfl⟩, rfl⟩
   ·exact .inl h
   exact .inr ⟨q, ⟨x, List.mem_cons_of_mem _ hx, e⟩, hq⟩
  rintro (h | ⟨q, ⟨x, hx, e⟩, hq⟩)
  ·exact .inl (.inr h)
  rcases List.mem_cons.1 hx with rfl | hx
  ·exact .inl (.inl (by rw [hq, ← e]))
  exact .inr ⟨q, ⟨x, hx, e⟩, hq⟩
theorem hasK_timesF {k : Key} {t : SL} (ht : Pos t) : ∀ {s o : SL}, Pos s → (hasK k (timesF s t o) ↔ hasK k o ∨ ∃ p q, hasK p s ∧ hasK q t ∧ k = mx p q)
 | [], o, _ => by
  show hasK k o ↔ _
  constructor
  ·exact .inl
  rintro (h | ⟨_, _, ⟨x, hx, _⟩, _⟩)
  ·exact h
  cases hx
 | a :: r, o, h => by
  show hasK k (timesF r t (innL a t o)) ↔ _
  rw [hasK_timesF ht (fun x hx => h x (List.mem_cons_of_mem _ hx)), hasK_inn (h a List.mem_cons_self) ht]
  constructor
  ·rintro ((h | ⟨q, hq, e⟩) | ⟨p, q, ⟨x, hx, e⟩, hq, hk⟩)
   ·exact .inl h
   ·exact .inr ⟨a.1, q, ⟨a, List.mem_cons_self, rfl⟩, hq, e⟩
   exact .inr ⟨p, q, ⟨x, List.mem_cons_of_mem _ hx, e⟩, hq, hk⟩
  rintro (h | ⟨p, q, ⟨x, hx, e⟩, hq, hk⟩)
  ·exact .inl (.inl h)
  rcases List.mem_cons.1 hx with rfl | hx
  ·exact .inl (.inr ⟨q, hq, by rw [hk, e]⟩)
  exact .inr ⟨p, q, ⟨x, hx, e⟩, hq, hk⟩
theorem hasK_times {k : Key} {s t : SL} (hs : Pos s) (ht : Pos t) : hasK k (timesL s t) ↔ ∃ p q, hasK p s ∧ hasK q t ∧ k = mx p q := by
 unfold timesL
 rw [hasK_timesF ht hs]
 constructor
 ·rintro (⟨x, hx, _⟩ | h)
  ·cases hx
  exact h
 exact .inr
theorem ne_nil_has {L : SL} : L ≠ [] ↔ ∃ k, hasK k L := by
 constructor
 ·intro h
  cases L with
  | nil => exact absurd rfl h
  | cons x r => exact ⟨x.1, x, List.mem_cons_self, rfl⟩
 rintro ⟨k, x, hx, _⟩ rfl
 cases hx
theorem plus_empty {s t : SL} (ht : Pos t) : plusL s t = [] ↔ s = [] ∧ t = [] := by
 rw [← Decidable.not_iff_not, ← ne_eq, ne_nil_has]
 constructor
 ·rintro ⟨k, h⟩ ⟨rfl, rfl⟩
  obtain ⟨x, hx, _⟩ := h
  cases hx
 intro h
 rw [Classical.not_and_iff_not_or_not] at h
 rcases h with h | h
 ·obtain ⟨k, hk⟩ := ne_nil_has.1 h
  exact ⟨k, (hasK_plus ht).2 (.inl hk)⟩
 obtain ⟨k, hk⟩ := ne_nil_has.1 h
 exact ⟨k, (hasK_plus ht).2 (.inr hk)⟩
theorem times_empty {s t : SL} (hs : Pos s) (ht : Pos t) : timesL s t = [] ↔ s = [] ∨ t = [] := by
 constructor
 ·intro h
  by_cases h1 : s = []
  ·exact .inl h1
  by_cases h2 : t = []
  ·exact .inr h2
  obtain ⟨p, hp⟩ := ne_nil_has.1 h1
  obtain ⟨q, hq⟩ := ne_nil_has.1 h2
  exact absurd h (ne_nil_has.2 ⟨mx p q, (hasK_times hs ht).2 ⟨p, q, hp, hq, rfl⟩⟩)
 rintro (rfl | rfl)
 ·rfl
 exact times_nil s
end Go.Proofs.YtehdemcfeoiecaaGreatDoor
namespace Go.Firn
open Go.RowKit Go.Proofs.YtehdemcfeoiecaaGreatDoor
def pk (L : SL) : List Value := L.flatMap fun x => [.string ⟨x.1.toArray⟩, .int .i64 x.2]
theorem pk_length (L : SL) : (pk L).length = L.length * 2 := by
 induction L with
 | nil => rfl
 | cons m ms ih =>
  have : pk (m :: ms) = [.string ⟨m.1.toArray⟩, .int .i64 m.2] ++ pk ms := rfl
  rw [this, List.length_append, ih]; simp; omega
theorem pk_append (a b : SL) : pk (a ++ b) = pk a ++ pk b := by simp [pk]
def sx (L : SL) (i : Nat) : ByteArray := ⟨(L.getD i ([], 0)).1.toArray⟩
def sy (L : SL) (i : Nat) : Int := (L.getD i ([], 0)).2
theorem ofS_sx (L : SL) : ofS (sx L) (sy L) L.length = L := ofS_of L
theorem pk_at : ∀ (L : SL) (i : Nat), i < L.length → (pk L)[i * 2]? = some (.string (sx L i)) ∧ (pk L)[i * 2 + 1]? = some (.int .i64 (sy L i)) := by
 intro L
 induction L with
 | nil => intro i h; simp at h
 | cons m ms ih =>
  intro i h
  have e : pk (m :: ms) = .string ⟨m.1.toArray⟩ :: .int .i64 m.2 :: pk ms := rfl
  cases i with
  | zero => rw [e]; exact ⟨rfl, rfl⟩
  | succ i =>
   have := ih i (by simpa using h)
   rw [e, show (i + 1) * 2 = i * 2 + 1 + 1 by omega]
   simpa [sx, sy] using this
theorem sx_ofS {f : Nat → ByteArray} {g : Nat → Int} {n i : Nat} (h : i < n) : sx (ofS f g n) i = f i ∧ sy (ofS f g n) i = g i := by
 have := ofS_inj (f := sx (ofS f g n)) (g := sy (ofS f g n)) (n := (ofS f g n).length) (f' := f) (g' := g) (n' := n) (ofS_sx _)
 exact this.2 i (by rw [ofS_length]; exact h)
def OwnS (w0 : World) (e : TypeId) (w : World) (v : Value) (L : SL) : Prop := w.ownsRow w0.heap.size e 2 v L.length (pk L) ∧ Gr w0 w
theorem OwnS.nil' {w0 w : World} (g : Gr w0 w) (e : TypeId) : OwnS w0 e w (.slice none 0 0) [] := ⟨World.ownsRow_nil w _ _ _, g⟩
theorem OwnS.nil (w : World) (e : TypeId) : OwnS w e w (.slice none 0 0) [] := OwnS.nil' (Gr.refl w) e
theorem OwnS.gr {w0 w w' : World} {e : TypeId} {v : Value} {L : SL} (h : OwnS w0 e w v L) (g : Gr w w') : OwnS w0 e w' v L :=
 ⟨h.1.kept (row := none) ⟨g.os, g.tape, g.output, Gr.size g, fun k hk _ => Below.block g k hk⟩ (by cases v.ownBlock <;> simp), h.2.trans g⟩
theorem OwnS.alloc {w0 w : World} {e : TypeId} {v : Value} {L : SL} (h : OwnS w0 e w v L) (o : Obj) : OwnS w0 e (w.alloc o) v L := h.gr ((Gr.refl w).alloc o)
theorem OwnS.drew {w0 w : World} {e : TypeId} {v : Value} {L : SL} (h : OwnS w0 e w v L) : OwnS w0 e w.drew v L := h.gr ((Gr.refl w).drew)
theorem OwnS.kept {w0 w w' : World} {e : TypeId} {v : Value} {L : SL} (h : OwnS w0 e w v L) {row : Option Nat} (g : w.grownBy w' row) (hne : ∀ b, v.ownBlock = some b → some b ≠ row) (hb : ∀ b, row = some b → w0.heap.size ≤ b) : OwnS w0 e w' v L := by
 refine ⟨h.1.kept g ?_, h.2.grown g hb⟩
 cases hv : v.ownBlock with
 | none => simp
 | some b => right; exact hne b hv
theorem OwnS.rd {w0 w : World} {e : TypeId} {v : Value} {L : SL} (h : OwnS w0 e w v L) : ∃ a c, v = .slice a L.length c ∧ L.length ≤ c ∧ c ≤ maxLen ∧ RdS w a L.length (sx L) (sy L) := by
 have h0 := h.1
 obtain ⟨hl, hv⟩ := h.1
 rcases hv with ⟨rfl, hz⟩ | ⟨g, cap, cur, rfl, hb, hg, hnc, hcm, hcs, htake⟩
 ·rw [hz]; exact ⟨none, 0, rfl, Nat.le_refl _, by unfold maxLen; omega, .inl rfl⟩
 refine ⟨_, _, rfl, hnc, hcm, .inr ⟨g, 0, rfl, fun i hi => ?_⟩⟩
 obtain ⟨p0, p1⟩ := pk_at L i hi
 have c0 := h0.cells (g := g) rfl _ _ p0
 have c1 := h0.cells (g := g) rfl _ _ p1
 rw [add_flat rfl] at c0 c1
 exact ⟨c0, by rw [Nat.add_assoc]; exact c1⟩
def RetSB (L : SL) (b : Bool) (w : World) (e : Ending) (w' : World) : Prop := ∃ a c, e = .returned (.tuple #[.slice a L.length c, .bool b]) ∧ L.length ≤ c ∧ c ≤ maxLen ∧ RdS w' a L.length (sx L) (sy L) ∧ Gr w w'
def RetSE (L : SL) (E : Int) (w : World) (e : Ending) (w' : World) : Prop := ∃ a c, e = .returned (.tuple #[.slice a L.length c, .int .i64 E]) ∧ L.length ≤ c ∧ c ≤ maxLen ∧ RdS w' a L.length (sx L) (sy L) ∧ Gr w w'
theorem OwnS.ret {w0 w : World} {e : TypeId} {v : Value} {L : SL} (h : OwnS w0 e w v L) (E : Int) : RetSE L E w0 (.returned (.tuple #[v, .int .i64 E])) w := by
 obtain ⟨a, c, rfl, h1, h2, h3⟩ := h.rd
 exact ⟨a, c, rfl, h1, h2, h3, h.2⟩
theorem info_prod {P : Program} {e : TypeId} (h : (P.info? e).map (fun i => (i.zero, i.size, i.bytes)) = some (some (.agg #[.string ⟨#[]⟩, .int .i64 0]), 2, 24)) :
  ∃ i, P.info? e = some i ∧ i.zero = some (.agg #[.string ⟨#[]⟩, .int .i64 0]) ∧ i.size = 2 ∧ i.bytes = 24 := by
 cases hi : P.info? e with
 | none => rw [hi] at h; cases h
 | some i => rw [hi] at h; simp at h; exact ⟨i, rfl, h.1, h.2.1, h.2.2⟩
theorem wp_cat_prod {P : Program} {o : Oper} {a : Act} {K : Act → World → Prop} {Q : Exit → Act → World → Prop} (s x : Operand) (t e : TypeId)
  (ho : o.op = .call { callee := .builtin .append, args := #[s, x], argTypes := #[t, t] })
  (ht : P.underlying t = some (.slice e)) (hinfo : (P.info? e).map (fun i => (i.zero, i.size, i.bytes)) = some (some (.agg #[.string ⟨#[]⟩, .int .i64 0]), 2, 24))
  {w0 w : World} (v : Value) (L : SL) (hs : a.eval s = v) (hown : OwnS w0 e w v L)
  (b off n c : Nat) (F : Nat → ByteArray) (G : Nat → Int) (hx : a.eval x = .slice (some ⟨b, off, none⟩) n c) (hc : ∀ i, i < n → w.cell? ⟨b, off + i * 2, none⟩ = some (.string (F i)) ∧ w.cell? ⟨b, off + i * 2 + 1, none⟩ = some (.int .i64 (G i))) (hk : L.length + n ≤ 1000000)
  (h : ∀ v' w', OwnS w0 e w' v' (L ++ ofS F G n) → w.grownBy w' v.ownBlock → K (a.put o.dst v') w') : o.wp P a w K Q := by
 obtain ⟨i0, hi, hz0, hz1, hz2⟩ := info_prod hinfo
 refine wp_append_own w s x t ho w0.heap.size e i0 _ 2 24 ht hi hz0 hz1 hz2 rfl (by decide) v L.length (pk L) hs hown.1 ⟨b, off, none⟩ n c (pk (ofS F G n)) hx (by rw [pk_length, ofS_length]) ?_ ?_ ?_ ?_ hown.2.size ?_
 ·intro j u hu
  rw [add_flat rfl]
  have hj : j < n * 2 := by
   rcases Nat.lt_or_ge j (n * 2) with h | h
   ·exact h
   rw [List.getElem?_eq_none (by rw [pk_length, ofS_length]; exact h)] at hu; cases hu
  obtain ⟨p0, p1⟩ := pk_at (ofS F G n) (j / 2) (by rw [ofS_length]; omega)
  obtain ⟨e0, e1⟩ := sx_ofS (f := F) (g := G) (show j / 2 < n by omega)
  rw [e0] at p0
  rw [e1] at p1
  rcases Nat.mod_two_eq_zero_or_one j with h | h
  ·have ej : j = j / 2 * 2 := by omega
   rw [ej, p0] at hu
   cases hu
   show w.cell? ⟨b, off + j, none⟩ = _
   rw [ej]
   have := (hc (j / 2) (by omega)).1
   rw [show j / 2 * 2 / 2 = j / 2 by omega]
   exact this
  have ej : j = j / 2 * 2 + 1 := by omega
  rw [ej, p1] at hu
  cases hu
  show w.cell? ⟨b, off + j, none⟩ = _
  rw [ej, ← Nat.add_assoc]
  have := (hc (j / 2) (by omega)).2
  rw [show (j / 2 * 2 + 1) / 2 = j / 2 by omega]
  exact this
 ·intro u hu
  unfold pk at hu
  rw [List.mem_flatMap] at hu
  obtain ⟨m, _, hm⟩ := hu
  simp at hm
  rcases hm with rfl | rfl <;> rfl
 ·unfold maxLen; omega
 ·omega
 intro v' w' h1 h2 _
 rw [← pk_append] at h1
 refine h v' w' ⟨?_, hown.2.grown h2 fun k hk => (hown.1.lt k hk).1⟩ h2
 rw [List.length_append, ofS_length]
 exact h1
theorem wp_app_prod {P : Program} {o : Oper} {a : Act} {K : Act → World → Prop} {Q : Exit → Act → World → Prop} (s x : Operand) (t e : TypeId)
  (ho : o.op = .call { callee := .builtin .append, args := #[s, x], argTypes := #[t, t] })
  (ht : P.underlying t = some (.slice e)) (hinfo : (P.info? e).map (fun i => (i.zero, i.size, i.bytes)) = some (some (.agg #[.string ⟨#[]⟩, .int .i64 0]), 2, 24))
  {w0 w : World} (v : Value) (L : SL) (hs : a.eval s = v) (hown : OwnS w0 e w v L)
  (g : Nat) (p : ByteArray) (q : Int) (hx : a.eval x = .slice (some ⟨g, 0, none⟩) 1 1) (hg : w.cell? ⟨g, 0, none⟩ = some (.string p) ∧ w.cell? ⟨g, 1, none⟩ = some (.int .i64 q)) (hk : L.length < 999999)
  (h : ∀ v' w', OwnS w0 e w' v' (L ++ [(p.data.toList, q)]) → w.grownBy w' v.ownBlock → K (a.put o.dst v') w') : o.wp P a w K Q :=
 wp_cat_prod s x t e ho ht hinfo v L hs hown g 0 1 1 (fun _ => p) (fun _ => q) hx (fun i hi => by
  obtain rfl : i = 0 := by omega
  exact hg) (by omega) h
section
variable {P : Program} {ops : Array Oper} {rest : List Oper} {o : Oper} {a : Act} {Q : Exit → Act → World → Prop}
theorem wpList_app_prod (hgd : o.guard = none) (s x : Operand) (t e : TypeId)
  (ho : o.op = .call { callee := .builtin .append, args := #[s, x], argTypes := #[t, t] })
  (ht : P.underlying t = some (.slice e)) (hinfo : (P.info? e).map (fun i => (i.zero, i.size, i.bytes)) = some (some (.agg #[.string ⟨#[]⟩, .int .i64 0]), 2, 24))
  {w0 w : World} (v : Value) (L : SL) (hs : a.eval s = v) (hown : OwnS w0 e w v L)
  (g : Nat) (p : ByteArray) (q : Int) (hx : a.eval x = .slice (some ⟨g, 0, none⟩) 1 1) (hg : w.cell? ⟨g, 0, none⟩ = some (.string p) ∧ w.cell? ⟨g, 1, none⟩ = some (.int .i64 q)) (hk : L.length < 999999)
  (h : ∀ v' w', OwnS w0 e w' v' (L ++ [(p.data.toList, q)]) → w.grownBy w' v.ownBlock → wpList P ops Q rest (a.put o.dst v') w') : wpList P ops Q (o :: rest) a w :=
 wpList_plain hgd fun _ hK => wp_app_prod s x t e ho ht hinfo v L hs hown g p q hx hg hk fun v' w' h1 h2 => hK _ _ (h v' w' h1 h2)
end
end Go.Firn
namespace Go.Firn
open Go.RowKit Go.Sort
theorem cell_near {w : World} {b j : Nat} {v : Value} (h : w.cell? ⟨b, j, none⟩ = some v) (u : Value) : (w.setCell ⟨b, j, none⟩ u).cell? ⟨b, j, none⟩ = some u :=
 World.cell?_setCell_same _ _ _ h
theorem cell_by {w : World} {b j k : Nat} {v : Value} (h : w.cell? ⟨b, j, none⟩ = some v) (hk : k ≠ j) (u : Value) : (w.setCell ⟨b, k, none⟩ u).cell? ⟨b, j, none⟩ = some v := by
 rw [World.cell?_setCell_other _ _ _ _ (fun e => hk (congrArg Addr.off e))]
 exact h
theorem cell_same {w : World} {b j : Nat} {v : Value} (h : w.cell? ⟨b, j, none⟩ = some v) (k : Nat) : (w.setCell ⟨b, k, none⟩ v).cell? ⟨b, j, none⟩ = some v := by
 by_cases e : k = j
 ·subst e; exact cell_near h v
 exact cell_by h e v
def Wr (bb : Nat) (w w' : World) : Prop := w.grownBy w' (some bb)
theorem Wr.refl (bb : Nat) (w : World) : Wr bb w w := World.grownBy.refl w _
theorem Wr.trans {bb : Nat} {a b c : World} (h : Wr bb a b) (k : Wr bb b c) : Wr bb a c := World.grownBy.trans h k
theorem Wr.drewN {bb : Nat} {a b : World} (h : Wr bb a b) (m : Nat) : Wr bb a (b.drewN m) := ⟨h.os, h.tape, h.output, h.size, h.block⟩
theorem Wr.drew {bb : Nat} {a b : World} (h : Wr bb a b) : Wr bb a b.drew := ⟨h.os, h.tape, h.output, h.size, h.block⟩
theorem Wr.set {bb : Nat} {a b : World} (h : Wr bb a b) (j : Nat) (u : Value) : Wr bb a (b.setCell ⟨bb, j, none⟩ u) :=
 h.trans ⟨rfl, rfl, rfl, by simp, fun k _ hne => Below.heap_setCell _ _ _ _ (fun e => hne (congrArg some e))⟩
theorem Wr.of_gr {bb : Nat} {a b : World} (h : Gr a b) : Wr bb a b := ⟨h.os, h.tape, h.output, Gr.size h, fun k hk _ => Below.block h k hk⟩
theorem Wr.gr {bb : Nat} {w a b : World} (h : Wr bb a b) (g : Gr w a) (hb : w.heap.size ≤ bb) : Gr w b := g.grown h fun k hk => by cases hk; exact hb
theorem Wr.cell {bb : Nat} {a b : World} (h : Wr bb a b) {p : Addr} {v : Value} (hp : a.cell? p = some v) (hne : p.block ≠ bb) : b.cell? p = some v := World.grownBy.cell h hp (fun e => hne (Option.some.inj e))
def RowB (w : World) (b : Nat) (d : Array Int) : Prop := ∀ p, p < d.size → w.cell? ⟨b, p, none⟩ = some (.int .u8 d[p]!) ∧ w.frozen? ⟨b, p, none⟩ = false
theorem RowB.gr {w w' : World} {b : Nat} {d : Array Int} (h : RowB w b d) (g : Gr w w') : RowB w' b d :=
 fun p hp => ⟨g.cell (h p hp).1, (Below.frozen g (World.block_lt_of_cell? w _ (h p hp).1)).trans (h p hp).2⟩
theorem RowB.swap {w : World} {b : Nat} {d : Array Int} (h : RowB w b d) {i j : Nat} (hi : i < d.size) (hj : j < d.size) :
  RowB ((w.setCell ⟨b, i, none⟩ (.int .u8 d[j]!)).setCell ⟨b, j, none⟩ (.int .u8 d[i]!)) b (swp d i j) := by
 intro p hp
 rw [size_swp] at hp
 refine ⟨?_, by simpa using (h p hp).2⟩
 by_cases h1 : p = j
 ·subst h1
  rw [swp_right d i p hp]
  by_cases h2 : i = p
  ·subst h2
   exact cell_near (cell_near (h _ hp).1 _) _
  exact cell_near (cell_by (h _ hp).1 h2 _) _
 by_cases h2 : p = i
 ·subst h2
  rw [swp_left d p j hp h1]
  exact cell_by (cell_near (h _ hp).1 _) (fun e => h1 e.symm) _
 rw [swp_other d i j p h2 h1]
 exact cell_by (cell_by (h _ hp).1 (fun e => h2 e.symm) _) (fun e => h1 e.symm) _
def RetW (b : Nat) (d : Array Int) (w : World) (e : Ending) (w' : World) : Prop := e = .returned (.tuple #[]) ∧ Wr b w w' ∧ RowB w' b d
end Go.Firn
namespace Go.Firn.Tb
section
variable {D : Type}
def plc (add : D → D → D) : List (List Int × D) → List Int → D → List (List Int × D)
 | [], v, d => [(v, d)]
 | x :: r, v, d => if x.1 < v then x :: plc add r v d else if x.1 = v then (x.1, add x.2 d) :: r else (v, d) :: x :: r
def gat (add : D → D → D) (L : List (List Int × D)) : List (List Int × D) := L.foldl (fun T x => plc add T x.1 x.2) []
def SrT (T : List (List Int × D)) : Prop := T.Pairwise fun x y => x.1 < y.1
def lk (v : List Int) : List (List Int × D) → Option D
 | [] => none
 | x :: r => if x.1 = v then some x.2 else lk v r
def fold1 (add : D → D → D) : List D → Option D
 | [] => none
 | d :: ds => some (ds.foldl add d)
theorem lk_cons (v : List Int) (x : List Int × D) (r) : lk v (x :: r) = if x.1 = v then some x.2 else lk v r := rfl
theorem tri {a b : List Int} (h : ¬ a < b) (k : ¬ a = b) : b < a := by
 rcases Classical.em (b < a) with h' | h'
 ·exact h'
 exact absurd (List.le_antisymm (List.not_lt.1 h') (List.not_lt.1 h)) k
theorem lt_ne {a b : List Int} (h : a < b) : a ≠ b := fun e => by subst e; exact List.lt_irrefl a h
theorem plc_keys (add : D → D → D) : ∀ (T : List (List Int × D)) (v : List Int) (d : D), ∀ x ∈ plc add T v d, x.1 = v ∨ ∃ y ∈ T, y.1 = x.1
 | [], v, d, x, hx => by simp [plc] at hx; subst hx; exact .inl rfl
 | y :: r, v, d, x, hx => by
  unfold plc at hx
  split at hx
  ·rcases List.mem_cons.1 hx with rfl | hx
   ·exact .inr ⟨_, List.mem_cons_self, rfl⟩
   rcases plc_keys add r v d x hx with h | ⟨z, hz, e⟩
   ·exact .inl h
   exact .inr ⟨z, List.mem_cons_of_mem _ hz, e⟩
  split at hx
  ·rcases List.mem_cons.1 hx with rfl | hx
   ·exact .inr ⟨y, List.mem_cons_self, rfl⟩
   exact .inr ⟨x, List.mem_cons_of_mem _ hx, rfl⟩
  rcases List.mem_cons.1 hx with rfl | hx
  ·exact .inl rfl
  exact .inr ⟨x, hx, rfl⟩
theorem plc_srt (add : D → D → D) : ∀ (T : List (List Int × D)) (v : List Int) (d : D), SrT T → SrT (plc add T v d)
 | [], v, d, _ => by simp [plc, SrT]
 | y :: r, v, d, h => by
  obtain ⟨h1, h2⟩ := List.pairwise_cons.1 h
  unfold plc
  split
  ·rename_i hv
   refine List.pairwise_cons.2 ⟨fun x hx => ?_, plc_srt add r v d h2⟩
   rcases plc_keys add r v d x hx with e | ⟨z, hz, e⟩
   ·rw [e]; exact hv
   rw [← e]; exact h1 z hz
  rename_i hv
  split
  ·exact List.pairwise_cons.2 ⟨h1, h2⟩
  rename_i hn
  have := tri hv hn
  refine List.pairwise_cons.2 ⟨fun x hx => ?_, h⟩
  rcases List.mem_cons.1 hx with rfl | hx
  ·exact this
  exact List.lt_trans this (h1 x hx)
theorem lk_none {v : List Int} : ∀ {T : List (List Int × D)}, (∀ x ∈ T, x.1 ≠ v) → lk v T = none
 | [], _ => rfl
 | x :: r, h => by
  unfold lk
  rw [if_neg (h x List.mem_cons_self)]
  exact lk_none fun y hy => h y (List.mem_cons_of_mem _ hy)
theorem lk_plc (add : D → D → D) (u : List Int) : ∀ (T : List (List Int × D)) (v : List Int) (d : D), SrT T →
  lk u (plc add T v d) = if v = u then some (match lk v T with | none => d | some e => add e d) else lk u T
 | [], v, d, _ => by simp [plc, lk]
 | y :: r, v, d, h => by
  obtain ⟨h1, h2⟩ := List.pairwise_cons.1 h
  unfold plc
  split
  ·rename_i hv
   have ih := lk_plc add u r v d h2
   have e1 : lk v (y :: r) = lk v r := by
    conv => lhs; unfold lk
    rw [if_neg (lt_ne hv)]
   rw [e1, lk_cons, lk_cons]
   by_cases hy : y.1 = u
   ·rw [if_pos hy, if_pos hy, if_neg]
    intro e; subst e; exact lt_ne hv hy
   rw [if_neg hy, if_neg hy]; exact ih
  rename_i hv
  split
  ·rename_i he
   subst he
   have e1 : lk y.1 (y :: r) = some y.2 := by unfold lk; rw [if_pos rfl]
   rw [e1]
   unfold lk
   by_cases hy : y.1 = u
   ·rw [if_pos hy, if_pos hy]
   rw [if_neg hy, if_neg hy, if_neg hy]
  rename_i hn
  have hlt := tri hv hn
  have e1 : lk v (y :: r) = none := lk_none fun x hx => by
   rcases List.mem_cons.1 hx with rfl | hx
   ·exact hn
   exact (lt_ne (List.lt_trans hlt (h1 x hx))).symm
  rw [e1]
  conv => lhs; unfold lk
theorem lk_mem {v : List Int} {d : D} : ∀ {T : List (List Int × D)}, lk v T = some d → (v, d) ∈ T
 | x :: r, h => by
  unfold lk at h
  split at h
  ·rename_i e
   cases h
   subst e
   exact List.mem_cons_self
  exact List.mem_cons_of_mem _ (lk_mem h)
theorem mem_lk {x : List Int × D} : ∀ {T : List (List Int × D)}, SrT T → x ∈ T → lk x.1 T = some x.2
 | y :: r, h, hx => by
  obtain ⟨h1, h2⟩ := List.pairwise_cons.1 h
  unfold lk
  rcases List.mem_cons.1 hx with rfl | hx
  ·rw [if_pos rfl]
  rw [if_neg (lt_ne (h1 x hx))]; exact mem_lk h2 hx
theorem lk_ext : ∀ {T T' : List (List Int × D)}, SrT T → SrT T' → (∀ v, lk v T = lk v T') → T = T'
 | [], [], _, _, _ => rfl
 | [], y :: r, _, _, h => by have := h y.1; simp [lk] at this
 | x :: r, [], _, _, h => by have := h x.1; simp [lk] at this
 | x :: r, y :: s, hT, hS, h => by
  obtain ⟨h1, h2⟩ := List.pairwise_cons.1 hT
  obtain ⟨k1, k2⟩ := List.pairwise_cons.1 hS
  have hx : x.1 = y.1 := by
   rcases Classical.em (x.1 = y.1) with e | e
   ·exact e
   exfalso
   have a1 := mem_lk hT (x := x) List.mem_cons_self
   have a2 := mem_lk hS (x := y) List.mem_cons_self
   rw [h x.1] at a1
   rw [← h y.1] at a2
   have b1 := lk_mem a1
   have b2 := lk_mem a2
   rcases List.mem_cons.1 b1 with b1 | b1
   ·exact e (by rw [← b1])
   rcases List.mem_cons.1 b2 with b2 | b2
   ·exact e (by rw [← b2])
   exact List.lt_irrefl _ (List.lt_trans (k1 _ b1) (h1 _ b2))
  have hd : x.2 = y.2 := by
   have := h x.1
   unfold lk at this
   rw [if_pos rfl, if_pos hx.symm] at this
   exact Option.some.inj this
  have exy : x = y := Prod.ext hx hd
  subst exy
  congr 1
  refine lk_ext h2 k2 fun v => ?_
  have := h v
  unfold lk at this
  by_cases e : x.1 = v
  ·rw [lk_none fun z hz => ?_, lk_none fun z hz => ?_]
   ·subst e; exact (lt_ne (k1 z hz)).symm
   subst e; exact (lt_ne (h1 z hz)).symm
  rwa [if_neg e, if_neg e] at this
theorem gat_snoc (add : D → D → D) (L : List (List Int × D)) (x : List Int × D) : gat add (L ++ [x]) = plc add (gat add L) x.1 x.2 := by simp [gat]
theorem snoc_ind {α : Type} {p : List α → Prop} (h0 : p []) (h1 : ∀ L x, p L → p (L ++ [x])) : ∀ L, p L := fun L => by
 have : ∀ n (L : List α), L.length = n → p L := by
  intro n
  induction n with
  | zero => intro L h; rw [List.length_eq_zero_iff.1 h]; exact h0
  | succ n ih =>
   intro L h
   have hne : L ≠ [] := fun e => by subst e; simp at h
   rw [← List.dropLast_concat_getLast hne]
   exact h1 _ _ (ih _ (by rw [List.length_dropLast]; omega))
 exact this _ L rfl
theorem gat_srt (add : D → D → D) (L : List (List Int × D)) : SrT (gat add L) := by
 refine snoc_ind (p := fun L => SrT (gat add L)) (by simp [gat, SrT]) (fun L x ih => ?_) L
 rw [gat_snoc]; exact plc_srt add _ _ _ ih
theorem gat_keys (add : D → D → D) (L : List (List Int × D)) : ∀ x ∈ gat add L, ∃ y ∈ L, y.1 = x.1 := by
 refine snoc_ind (p := fun L => ∀ x ∈ gat add L, ∃ y ∈ L, y.1 = x.1) (by simp [gat]) (fun L z ih x hx => ?_) L
 rw [gat_snoc] at hx
 rcases plc_keys add _ _ _ x hx with e | ⟨y, hy, e⟩
 ·exact ⟨z, by simp, e.symm⟩
 obtain ⟨y', h1, h2⟩ := ih y hy
 exact ⟨y', by simp [h1], by rw [h2, e]⟩
theorem fold1_snoc (add : D → D → D) (L : List D) (d : D) : fold1 add (L ++ [d]) = some (match fold1 add L with | none => d | some e => add e d) := by
 cases L with
 | nil => rfl
 | cons a r => simp [fold1]
theorem lk_gat (add : D → D → D) (v : List Int) (L : List (List Int × D)) : lk v (gat add L) = fold1 add ((L.filter fun x => x.1 = v).map (·.2)) := by
 refine snoc_ind (p := fun L => lk v (gat add L) = fold1 add ((L.filter fun x => x.1 = v).map (·.2))) (by simp [gat, lk, fold1]) (fun L x ih => ?_) L
 rw [gat_snoc, lk_plc add v _ _ _ (gat_srt add L), List.filter_append, List.map_append]
 by_cases e : x.1 = v
 ·rw [if_pos e]
  have e1 : (([x] : List (List Int × D)).filter fun x => x.1 = v) = [x] := by simp [e]
  rw [e1, List.map_singleton, fold1_snoc, e, ih]
 rw [if_neg e]
 have e1 : (([x] : List (List Int × D)).filter fun x => x.1 = v) = [] := by simp [e]
 rw [e1, List.map_nil, List.append_nil, ih]
theorem gat_congr (add : D → D → D) {L L' : List (List Int × D)} (h : ∀ v, (L.filter fun x => x.1 = v) = (L'.filter fun x => x.1 = v)) : gat add L = gat add L' :=
 lk_ext (gat_srt add L) (gat_srt add L') fun v => by rw [lk_gat, lk_gat, h v]
theorem plc_last (add : D → D → D) : ∀ (T : List (List Int × D)) (v : List Int) (d : D), (∀ x ∈ T, x.1 < v) → plc add T v d = T ++ [(v, d)]
 | [], _, _, _ => rfl
 | x :: r, v, d, h => by
  unfold plc
  rw [if_pos (h x List.mem_cons_self), plc_last add r v d fun y hy => h y (List.mem_cons_of_mem _ hy)]
  rfl
theorem plc_same (add : D → D → D) : ∀ (T : List (List Int × D)) (v : List Int) (e d : D), (∀ x ∈ T, x.1 < v) → plc add (T ++ [(v, e)]) v d = T ++ [(v, add e d)]
 | [], v, e, d, _ => by
  show plc add [(v, e)] v d = _
  unfold plc
  rw [if_neg (List.lt_irrefl v), if_pos rfl]; rfl
 | x :: r, v, e, d, h => by
  show plc add (x :: (r ++ [(v, e)])) v d = _
  unfold plc
  rw [if_pos (h x List.mem_cons_self), plc_same add r v e d fun y hy => h y (List.mem_cons_of_mem _ hy)]
  rfl
theorem gat_sorted (add : D → D → D) (L : List (List Int × D)) (h : SrT L) : gat add L = L := by
 revert h
 refine snoc_ind (p := fun L => SrT L → gat add L = L) (fun _ => rfl) (fun L x ih h => ?_) L
 obtain ⟨h1, _, h3⟩ := List.pairwise_append.1 h
 rw [gat_snoc, ih h1, plc_last]
 exact fun y hy => h3 y hy x (by simp)
theorem plc_all {p : D → Prop} (add : D → D → D) (hp : ∀ a b, p a → p b → p (add a b)) : ∀ (T : List (List Int × D)) (v : List Int) (d : D), (∀ x ∈ T, p x.2) → p d → ∀ x ∈ plc add T v d, p x.2
 | [], v, d, _, hd, x, hx => by simp [plc] at hx; subst hx; exact hd
 | y :: r, v, d, h, hd, x, hx => by
  have hr := fun z hz => h z (List.mem_cons_of_mem y hz)
  unfold plc at hx
  split at hx
  ·rcases List.mem_cons.1 hx with rfl | hx
   ·exact h _ List.mem_cons_self
   exact plc_all add hp r v d hr hd x hx
  split at hx
  ·rcases List.mem_cons.1 hx with rfl | hx
   ·exact hp _ _ (h y List.mem_cons_self) hd
   exact hr x hx
  rcases List.mem_cons.1 hx with rfl | hx
  ·exact hd
  exact h x hx
theorem gat_all {p : D → Prop} (add : D → D → D) (hp : ∀ a b, p a → p b → p (add a b)) (L : List (List Int × D)) : (∀ x ∈ L, p x.2) → ∀ x ∈ gat add L, p x.2 := by
 refine snoc_ind (p := fun L => (∀ x ∈ L, p x.2) → ∀ x ∈ gat add L, p x.2) (by simp [gat]) (fun L z ih h => ?_) L
 rw [gat_snoc]
 exact plc_all add hp _ _ _ (ih fun x hx => h x (by simp [hx])) (h z (by simp))
def sumT (μ : D → Nat) (T : List (List Int × D)) : Nat := (T.map fun x => μ x.2).sum
theorem sumT_cons (μ : D → Nat) (x : List Int × D) (T) : sumT μ (x :: T) = μ x.2 + sumT μ T := by simp [sumT]
theorem sumT_app (μ : D → Nat) (A B : List (List Int × D)) : sumT μ (A ++ B) = sumT μ A + sumT μ B := by simp [sumT]
theorem sumT_mem (μ : D → Nat) : ∀ {T : List (List Int × D)} {x}, x ∈ T → μ x.2 ≤ sumT μ T
 | y :: r, x, h => by
  rw [sumT_cons]
  rcases List.mem_cons.1 h with rfl | h
  ·omega
  have := sumT_mem μ h; omega
theorem plc_len (add : D → D → D) : ∀ (T : List (List Int × D)) (v : List Int) (d : D), (plc add T v d).length ≤ T.length + 1
 | [], v, d => by simp [plc]
 | y :: r, v, d => by
  unfold plc
  split
  ·have := plc_len add r v d; simp; omega
  split <;> simp
theorem gat_len (add : D → D → D) (L : List (List Int × D)) : (gat add L).length ≤ L.length := by
 refine snoc_ind (p := fun L => (gat add L).length ≤ L.length) (by simp [gat]) (fun L z ih => ?_) L
 rw [gat_snoc, List.length_append]
 have := plc_len add (gat add L) z.1 z.2
 simp
 omega
theorem stable_filter {n : Nat} {K : Nat → List Int} {I : List Nat} (hp : I.Perm (List.range n)) (hs : I.Pairwise fun i j => K i < K j ∨ K i = K j ∧ i < j) (v : List Int) :
  (I.filter fun i => K i = v) = ((List.range n).filter fun i => K i = v) := by
 refine List.Perm.eq_of_pairwise (le := fun i j => i < j) (fun a b _ _ h1 h2 => absurd h1 (by omega)) ?_ ?_ (hp.filter _)
 ·rw [List.pairwise_filter]
  refine hs.imp fun {i j} h hi hj => ?_
  simp only [decide_eq_true_eq] at hi hj
  rcases h with h | h
  ·rw [hi, hj] at h; exact absurd h (List.lt_irrefl v)
  exact h.2
 exact (List.pairwise_lt_range).filter _
theorem gat_stable (add : D → D → D) {n : Nat} {K : Nat → List Int} {V : Nat → D} {I : List Nat} (hp : I.Perm (List.range n)) (hs : I.Pairwise fun i j => K i < K j ∨ K i = K j ∧ i < j) :
  gat add (I.map fun i => (K i, V i)) = gat add ((List.range n).map fun i => (K i, V i)) := by
 refine gat_congr add fun v => ?_
 rw [List.filter_map, List.filter_map]
 have e : ((fun x : List Int × D => decide (x.1 = v)) ∘ fun i => (K i, V i)) = fun i => decide (K i = v) := rfl
 rw [e, stable_filter hp hs v]
end
end Go.Firn.Tb
