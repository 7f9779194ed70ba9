/- Contracts of chapter 2: Valid of the program (a set of hits, in a map keyed by a struct) and of the reference; before of the reference. -/
import Derived.Test.YtjokheeegcilhaaDoorW1
import Derived.Maps.OwnSet
import Derived.DeepKeys4
namespace Go.Proofs.YtjokheeegcilhaaDoor
open Go.RowKit Go.Firn Go.Maps

theorem Tryd.laidOut : laidOutB Tryd.prog = true := by kernel_rfl
theorem Tryd.row51 : (51 : TypeId) < Tryd.prog.types.size := of_decide_eq_true (by kernel_rfl)
theorem Tryd.wide51 : (match Tryd.prog.underlying 51 with | some (.array _ _) | some (.struct _) => true | _ => false) = true := by kernel_rfl
set_option maxRecDepth 100000 in
theorem Tryd.keyAt51 : Tryd.prog.keyTypeAt 2 51 = true := by kernel_rfl
set_option maxRecDepth 100000 in
theorem lawK : Keyed Tryd.prog 51 := Keyed.of_law (deep_law_laid Tryd.laidOut (m := 2) (by omega) Tryd.row51 Tryd.keyAt51 Tryd.wide51)
theorem Tryd.zero82 (w : World) : (zeroValue 82).run Tryd.prog w = .ok (.agg #[]) w := by kernel_rfl

/-- A hit as a value, and as the key of a map. -/
def hitV (p t : Int) : Value := .agg #[.int .i64 p, .int .i64 t]
theorem Tryd.key51 : Tryd.prog.keyType 51 = true := by kernel_rfl
theorem Tryd.cells51 : Tryd.prog.cellsOf 51 = 2 := by kernel_rfl
theorem Tryd.cells3 : Tryd.prog.cellsOf 3 = 1 := by kernel_rfl
theorem Tryd.under51 : ∃ f0 f1 : Field, Tryd.prog.underlying 51 = some (.struct #[f0, f1]) ∧ (f0.offset = 0 ∧ f0.type = 3) ∧ (f1.offset = 1 ∧ f1.type = 3) ∧ f0.name ≠ "_" ∧ f1.name ≠ "_" := ⟨_, _, Tryd.underlying51, ⟨rfl, rfl⟩, ⟨rfl, rfl⟩, by decide, by decide⟩

/-- What a hit reads as, as a key. -/
def kl (p t : Int) : Lit := .string (keyBytes [.int .i64 p, .int .i64 t])
theorem key_of (p t : Int) (hp : (Lit.int .i64 p).wf = true) (ht : (Lit.int .i64 t).wf = true) : keyOf Tryd.prog 51 (hitV p t) = some (kl p t) := by
  obtain ⟨f0, f1, hu, ⟨o0, t0⟩, ⟨o1, t1⟩, n0, n1⟩ := Tryd.under51
  have h1 : ∀ m, Tryd.prog.keyLits (m + 2) 51 [.int .i64 p, .int .i64 t] = some [.int .i64 p, .int .i64 t] := by
    intro m
    simp [Program.keyLits, hu, Tryd.cells51, n0, n1, t0, t1, o0, o1, Tryd.cells3, Tryd.underlying3, hp, ht]
  unfold keyOf
  rw [hu]
  simp [Tryd.key51, Value.formed, hu, hitV, Tryd.cells51, Value.cells, kl]
  exact ⟨_, h1 168, rfl⟩
theorem kl_inj {p t p' t' : Int} (hp : (Lit.int .i64 p).wf = true) (ht : (Lit.int .i64 t).wf = true) (hp' : (Lit.int .i64 p').wf = true) (ht' : (Lit.int .i64 t').wf = true) (h : kl p t = kl p' t') : p = p' ∧ t = t' := by
  have h1 := key_of p t hp ht
  rw [h] at h1
  have := lawK.inj h1 (key_of p' t' hp' ht')
  simpa [hitV] using this
theorem kl_same {p t p' t' : Int} (hp : (Lit.int .i64 p).wf = true) (ht : (Lit.int .i64 t).wf = true) (hp' : (Lit.int .i64 p').wf = true) (ht' : (Lit.int .i64 t').wf = true) :
    (kl p t).sameKey (kl p' t') = (p' == p && t' == t) := by
  by_cases h : p = p' ∧ t = t'
  · obtain ⟨rfl, rfl⟩ := h
    rw [WideAt.sameKey_self (lawK.key (key_of p t hp ht))]
    simp
  · have : (p' == p && t' == t) = false := by
      rw [Bool.and_eq_false_iff]
      by_cases h1 : p = p'
      · right; simp; exact fun e => h ⟨h1, e.symm⟩
      · left; simp; exact fun e => h1 e.symm
    rw [this]
    cases hs : (kl p t).sameKey (kl p' t')
    · rfl
    · exact absurd (kl_inj hp ht hp' ht' (WideAt.sameKey_eq hs)) h

/-- The set of the first k hits. -/
def seen (P T : Nat → Int) (k : Nat) : DataW Unit := setOf (.agg []) ((List.range k).map fun j => kl (P j) (T j))
theorem seen_zero (P T : Nat → Int) : seen P T 0 = .map [] := rfl
theorem seen_succ (P T : Nat → Int) (k : Nat) : seen P T (k + 1) = (seen P T k).put (kl (P k) (T k)) (.agg []) := by
  unfold seen
  rw [List.range_succ, List.map_append, List.map_singleton, setOf_snoc]
/-- Hits that are ints. -/
def WfH (n : Nat) (P T : Nat → Int) : Prop := ∀ i, i < n → (Lit.int .i64 (P i)).wf = true ∧ (Lit.int .i64 (T i)).wf = true
theorem has_seen {n : Nat} {P T : Nat → Int} (hw : WfH n P T) {k i : Nat} (hk : k ≤ n) (hi : i < n) : Maps.has (seen P T k) (kl (P i) (T i)) = wasH P T k i := by
  unfold seen wasH
  rw [has_setOf _ _ _ (fun y hy => by
    obtain ⟨j, hj, rfl⟩ := List.mem_map.1 hy
    have hj : j < k := by simpa using hj
    exact lawK.key (key_of _ _ (hw j (by omega)).1 (hw j (by omega)).2)), List.any_map]
  have : ∀ l : List Nat, (∀ j ∈ l, j < n) → l.any ((fun x => x.sameKey (kl (P i) (T i))) ∘ fun j => kl (P j) (T j)) = l.any fun j => P i == P j && T i == T j := by
    intro l hl
    induction l with
    | nil => rfl
    | cons j l ih =>
      rw [List.any_cons, List.any_cons, ih fun x hx => hl x (by simp [hx])]
      congr 1
      have hj := hl j (by simp)
      exact kl_same (hw j hj).1 (hw j hj).2 (hw i hi).1 (hw i hi).2
  exact this _ fun j hj => by have : j < k := by simpa using hj
                              omega

theorem okH_btw (P T : Nat → Int) (k : Nat) : okH P T k = (btw (-1000) (P k) 1000 && btw (-1000) (T k) 1000) := by
  unfold okH btw
  simp [Bool.and_assoc]

set_option maxHeartbeats 1000000 in
theorem Valid_any (a : Option Addr) (n c : Nat) (P T : Nat → Int) (w : World) (hn : n ≤ 1000) (hw : WfH n P T) (hr : RdM w a n P T) :
    Calls Tryd.prog 26 #[.slice a n c] w (RetB (vH n P T) w) := by
  have HW := Lib.hid hw
  clear hw
  have hmm := @run_makeMap Tryd.prog
  go_enter Tryd.func26, Tryd.ntmps26
  go_wp2
  go_loopw [11] (fun i wr => ∃ k : Nat, k ≤ n ∧ i = .int .i64 k ∧ Hid (fineH P T k = true) ∧ wr.ownsMap Tryd.prog 51 unitElem w.heap.size k (seen P T k) ∧ Gr w wr) (fun i _ => n - (intOf i).toNat)
  case atStart => exact ⟨0, Nat.zero_le _, rfl, fineH_zero P T, by rw [seen_zero]; exact World.ownsMap_made _ _ _ _, (Gr.refl w).alloc _⟩
  case round =>
    obtain ⟨k, hk, rfl, hf, hown, g⟩ := hrel
    by_cases hlt : k < n
    · obtain ⟨b, o, rfl, hc⟩ := (hr.gr g).at hlt
      have hck := hc k hlt
      obtain ⟨c0, c1⟩ := hck
      clear hc hr
      have hkey := key_of (P k) (T k) (HW.out k hlt).1 (HW.out k hlt).2
      unfold hitV at hkey
      have hh := has_seen HW.out hk hlt
      have kb : k < maxLen := by unfold maxLen; omega
      by_cases t1 : wasH P T k k = true
      · have E := Lib.hid (show vH n P T = false by unfold vH; rw [fineH_stop hlt (by rw [t1]; simp)]; rfl)
        rw [t1] at hh
        clear kb
        go_wp2_with (first
          | (at_lookup; refine wpList_lookup_own_unit _ rfl _ _ 81 rfl 51 82 lawK Tryd.underlying81 (Tryd.zero82 _) w.heap.size k _ rfl (hown.alloc _) _ _ rfl hkey ?_; rw [hh])
          | go_in)
        go_ret
        rw [E.out]
        exact ⟨rfl, (g.alloc _).alloc _⟩
      · have t1' : wasH P T k k = false := by simpa using t1
        clear t1
        rw [t1'] at hh
        by_cases t2 : btw (-1000) (P k) 1000 = true
        · by_cases t3 : btw (-1000) (T k) 1000 = true
          · have F := Lib.hid (show fineH P T (k + 1) = true by rw [fineH_succ, hf.out, okH_btw, t2, t3, t1']; rfl)
            go_wp2_with (first
              | (at_lookup; refine wpList_lookup_own_unit _ rfl _ _ 81 rfl 51 82 lawK Tryd.underlying81 (Tryd.zero82 _) w.heap.size k _ rfl (hown.alloc _) _ _ rfl hkey ?_; rw [hh])
              | (at_mapUpdate; refine wpList_mapUpdate_own _ rfl _ _ _ 81 rfl 51 82 lawK Tryd.underlying81 (unitElem (H := Unit)) w.heap.size k _ rfl ((hown.alloc _).alloc _) kb _ _ _ rfl rfl hkey _ [] unitElem_mk ?_; intro w1 hown1 hgrow1)
              | (go_at_call 71; refine (between_any _ _ _ _).mono ?_; rintro e w1 ⟨rfl, rfl⟩))
            go_roundw
            case rel => exact ⟨k + 1, by omega, by go_num, F, by rw [seen_succ]; exact hown1, ((g.alloc _).alloc _).grown hgrow1 fun j hj => by cases hj; exact Nat.le_refl _⟩
            case measure => simp [intOf]; omega
          · have t3' : btw (-1000) (T k) 1000 = false := by simpa using t3
            clear t3 kb
            have E := Lib.hid (show vH n P T = false by unfold vH; rw [fineH_stop hlt (by rw [okH_btw, t2, t3']; rfl)]; rfl)
            go_wp2_with (first
              | (at_lookup; refine wpList_lookup_own_unit _ rfl _ _ 81 rfl 51 82 lawK Tryd.underlying81 (Tryd.zero82 _) w.heap.size k _ rfl (hown.alloc _) _ _ rfl hkey ?_; rw [hh])
              | (go_at_call 71; refine (between_any _ _ _ _).mono ?_; rintro e w1 ⟨rfl, rfl⟩))
            go_ret
            rw [E.out]
            exact ⟨rfl, (g.alloc _).alloc _⟩
        · have t2' : btw (-1000) (P k) 1000 = false := by simpa using t2
          clear t2 kb
          have E := Lib.hid (show vH n P T = false by unfold vH; rw [fineH_stop hlt (by rw [okH_btw, t2']; rfl)]; rfl)
          go_wp2_with (first
            | (at_lookup; refine wpList_lookup_own_unit _ rfl _ _ 81 rfl 51 82 lawK Tryd.underlying81 (Tryd.zero82 _) w.heap.size k _ rfl (hown.alloc _) _ _ rfl hkey ?_; rw [hh])
            | (go_at_call 71; refine (between_any _ _ _ _).mono ?_; rintro e w1 ⟨rfl, rfl⟩))
          go_ret
          rw [E.out]
          exact ⟨rfl, (g.alloc _).alloc _⟩
    · obtain rfl : k = n := by omega
      have E := Lib.hid (show vH k P T = btw 1 k 14 by
        unfold vH btw
        rw [hf.out]
        simp only [Bool.true_and]
        congr 1 <;> (congr 1; apply propext; omega))
      go_wp2_with (go_at_call 71; refine (between_any _ _ _ _).mono ?_; rintro e w1 ⟨rfl, rfl⟩)
      go_ret
      rw [E.out]
      exact ⟨rfl, g⟩

end Go.Proofs.YtjokheeegcilhaaDoor
