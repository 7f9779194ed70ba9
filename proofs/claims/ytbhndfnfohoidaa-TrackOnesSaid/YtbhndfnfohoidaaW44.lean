/- The pairs of points, with how many came before. -/
import Derived.Test.YtbhndfnfohoidaaW14
import Derived.Test.YtbhndfnfohoidaaRap
namespace Go.Proofs.Ytbhndfnfohoidaa
open Go.RowKit Go.Firn Go.Shelf
attribute [local go_sem] Oper.semAt_some
attribute [local simp] wide_fn

theorem prow_len (X : Nat → Int) (k : Nat) : ∀ m, (prow X k m).length ≤ m := by
  intro m
  induction m with
  | zero => exact Nat.le_refl _
  | succ m ih =>
    unfold prow
    rw [List.length_append]
    split <;> simp <;> omega
theorem prs_len (X : Nat → Int) : ∀ k, k ≤ 12 → (prs X k).length ≤ k * 12 := by
  intro k
  induction k with
  | zero => intro _; exact Nat.le_refl _
  | succ k ih =>
    intro h
    have := prow_len X k k
    have := ih (by omega)
    unfold prs
    rw [List.length_append]
    omega
set_option maxRecDepth 100000 in
theorem pairs1_seqP {K : Nat → Prop} (m : Nat) (hm : 1 ≤ m) (bs b o n c : Nat) (X Y : Nat → Int) (w : World) (hn : n ≤ 12) (hbs : w.cell? ⟨bs, 0, none⟩ = some (.slice (some ⟨b, o, none⟩) n c)) (hr : RdM w (some ⟨b, o, none⟩) n X Y) (hK1 : K bs) (hK2 : K b) :
    SeqP Fence.wide m Try.prog 98 #[.pointer (some ⟨bs, 0, none⟩)] encP (fun pre _ => pre.length < 200) (fun x _ => IsPr n X x) (Kc K) (fun xs => xs = prs X n) w := fun l J W hW hJ hY h0 => by
  have HC : ∀ i, i < n → W.cell? ⟨b, o + i * 2, none⟩ = some (.int .i64 (X i)) := fun i hi => by
    obtain ⟨b', o', e, hc⟩ := hr.at hi
    simp at e
    obtain ⟨rfl, rfl⟩ := e
    have := (hc i hi).1
    rw [Below.cell hW (p := ⟨b, o + i * 2, none⟩) (World.block_lt_of_cell? w _ this)]
    exact this
  have HB : W.cell? ⟨bs, 0, none⟩ = some (.slice (some ⟨b, o, none⟩) n c) := by
    rw [Below.cell hW (p := ⟨bs, 0, none⟩) (World.block_lt_of_cell? w _ hbs)]; exact hbs
  have CC := Lib.hid HC
  have BB := Lib.hid HB
  have YY := Lib.hid hY
  have JJ := Lib.hid hJ
  have H0 := Lib.hid h0
  clear HC hr hbs hY hJ h0 hW
  refine callsIn_of_wp Try.func98 rfl trivial ?_ rfl
  simp only [Try.ntmps98, List.size_toArray, List.length_cons, List.length_nil, Nat.reduceAdd, Nat.reduceSub, Array.replicate_succ, Array.replicate_zero, List.push_toArray, List.append_toArray, List.nil_append, List.cons_append]
  gi_wp2
  clear HB
  gi_loopw [7] (fun sa wr => ∃ (A : Nat) (pre : List (Nat × Nat)), A ≤ n ∧ sa = .int .i64 A ∧ Hid (pre = prs X A) ∧ Hid (J pre wr) ∧ Hid (Kc K W wr)) (fun sa _ => n - (intOf sa).toNat)
  case atStart => exact ⟨0, [], Nat.zero_le _, rfl, rfl, H0, Lib.hid (fun _ _ _ h => h)⟩
  case round =>
    obtain ⟨A, pre, hA, rfl, hP, hJp, hKc⟩ := hrel
    by_cases hlt : A < n
    · have i1 : (A : Int) < n := by omega
      gi_wp2
      gi_loopw [11] (fun sb wy => ∃ (B : Nat) (pre2 : List (Nat × Nat)), B ≤ A ∧ sb = .int .i64 (B : Nat) ∧ Hid (pre2 = prs X A ++ prow X A B) ∧ Hid (J pre2 wy) ∧ Hid (Kc K W wy)) (fun sb _ => A - (intOf sb).toNat)
      case atStart => exact ⟨0, pre, Nat.zero_le _, rfl, Lib.hid (by rw [hP.out]; simp [prow]), hJp, hKc⟩
      case round =>
        obtain ⟨B, pre2, hB, rfl, hP2, hJ2, hK2'⟩ := hrel
        have cb := hK2'.out ⟨bs, 0, none⟩ _ hK1 BB.out
        by_cases hlt2 : B < A
        · have j1 : (B : Int) < A := by omega
          have j2 : (B : Int) < n := by omega
          have ca := hK2'.out ⟨b, o + A * 2, none⟩ _ hK2 (CC.out A hlt)
          have cx := hK2'.out ⟨b, o + B * 2, none⟩ _ hK2 (CC.out B (by omega))
          have RS := Lib.hid (show prow X A (B + 1) = prow X A B ++ (if X B ≠ X A then [(B, A)] else []) from rfl)
          by_cases hx : X B ≠ X A
          · have IW := Lib.hid (show IsPr n X (B, A) from ⟨hlt2, hlt, hx⟩)
            have RS' := Lib.hid (show prow X A (B + 1) = prow X A B ++ [(B, A)] by rw [RS.out, if_pos hx])
            have PL := Lib.hid (show pre2.length < 200 by
              have l1 := prow_len X A B
              have l2 := prs_len X A (by omega)
              rw [hP2.out, List.length_append]
              omega)
            generalize X A = xa at *
            generalize X B = xb at *
            have d1 : (xb != xa) = true := by simpa using hx
            have d2 : (xb == xa) = false := by simpa using hx
            clear hx
            gi_wp2
            refine wpIn_region_parts 12 rfl (by kernel_rfl) (by kernel_rfl) (fun _ _ _ _ _ h => h) ?_
            dsimp only [List.take_succ_cons, List.take_zero, List.drop_succ_cons, List.drop_zero]
            repeat (gi_big_quiet_step (fail))
            refine wpQuietIn_nil ?_
            rintro w' ⟨nq, rfl⟩
            have J3 := Lib.hid (JJ.out pre2 _ (wr.drewN nq) none hJ2.out (grown_drewN wr nq) (fun r e => by cases e))
            have K3 := Lib.hid (show Kc K W (wr.drewN nq) from fun p v hp e => hK2'.out p v hp e)
            clear cb ca cx
            generalize wr.drewN nq = w2 at J3 K3
            obtain ⟨fn, tmps, assign, body, hy, hR⟩ := YY.out pre2 (B, A) w2 PL.out J3.out IW.out
            have hy' : (Instr.yield l #[.int .i64 B, .int .i64 A]).run Try.prog w2 = .ok (.round l fn tmps assign body) w2 := hy
            clear hy
            have HRR := Lib.hid hR
            clear hR
            gi_wp2
            refine HRR.out.mono ?_
            rintro e W' ⟨rfl, hJ', hk⟩
            have J5 := Lib.hid hJ'
            have K5 := Lib.hid (K3.out.trans hk)
            clear hJ' hk
            gi_wp2
            go_roundw
            case rel => exact ⟨B + 1, _, by omega, by go_num, Lib.hid (by rw [hP2.out, RS'.out, List.append_assoc]), J5, K5⟩
            case measure => simp [intOf]; omega
          · have RS' := Lib.hid (show prow X A (B + 1) = prow X A B by rw [RS.out, if_neg hx, List.append_nil])
            generalize X A = xa at *
            generalize X B = xb at *
            have d1 : (xb != xa) = false := by simpa using hx
            have d2 : (xb == xa) = true := by simpa using hx
            clear hx RS
            gi_wp2
            gi_big_quiet_th (fail)
            gi_wp2
            have J3 := Lib.hid (JJ.out pre2 _ (wr.drewN nq) none hJ2.out (grown_drewN wr nq) (fun r e => by cases e))
            go_roundw
            case rel => exact ⟨B + 1, pre2, by omega, by go_num, Lib.hid (by rw [RS'.out]; exact hP2.out), J3, Lib.hid (fun p v hp e => hK2'.out p v hp e)⟩
            case measure => simp [intOf]; omega
        · have eB : B = A := by omega
          have P3 := Lib.hid (show pre2 = prs X (A + 1) by rw [hP2.out, eB]; rfl)
          have n1 : (A : Int) ≤ (B : Int) := by omega
          clear eB hlt2
          gi_wp2
          go_roundw
          case rel => exact ⟨A + 1, pre2, by omega, by go_num, P3, hJ2, hK2'⟩
          case measure => simp [intOf]; omega
    · have eA : A = n := by omega
      have P3 := Lib.hid (show pre = prs X n by rw [hP.out, eA])
      have n1 : (n : Int) ≤ (A : Int) := by omega
      clear eA hlt
      gi_wp2
      go_end0
      exact ⟨⟨_, rfl⟩, pre, P3.out, hJp.out⟩


end Go.Proofs.Ytbhndfnfohoidaa
