/- Contracts of chapter 2: has of the laws; Before, Past of valid hits. -/
import Derived.Test.YthgbnjndljjbgaaDoorW16
namespace Go.Proofs.YthgbnjndljjbgaaDoor
open Go.RowKit Go.Firn

/-- One of the first k numbers is x. -/
def anyB (k : Nat) (f : Nat → Int) (x : Int) : Bool := (List.range k).any fun i => decide (f i = x)
theorem anyB_succ (k : Nat) (f : Nat → Int) (x : Int) : anyB (k + 1) f x = (anyB k f x || decide (f k = x)) := by
  unfold anyB
  rw [List.range_succ, List.any_append]
  simp
theorem anyB_stop {k m : Nat} {f : Nat → Int} {x : Int} (h : k < m) (e : f k = x) : anyB m f x = true := by
  unfold anyB
  rw [List.any_eq_true]
  exact ⟨k, by simpa using h, by simpa using e⟩
theorem anyB_list (l : List Nat) (j : Nat) : anyB l.length (nf l) j = l.contains j := by
  rw [Bool.eq_iff_iff]
  unfold anyB
  rw [List.any_eq_true, List.contains_iff_mem, List.mem_iff_getElem]
  constructor
  · rintro ⟨i, hi, h⟩
    have hi : i < l.length := by simpa using hi
    refine ⟨i, hi, ?_⟩
    have : nf l i = (j : Int) := by simpa using h
    unfold nf at this
    rw [List.getD, List.getElem?_eq_getElem hi] at this
    have h2 : ((l[i] : Nat) : Int) = (j : Int) := by simpa using this
    omega
  · rintro ⟨i, hi, rfl⟩
    refine ⟨i, by simpa using hi, ?_⟩
    unfold nf
    rw [List.getD, List.getElem?_eq_getElem hi]
    simp
theorem els_contains {p : Nat → Bool} {n j : Nat} (hj : j < n) : (els p n).contains j = p j := by
  rw [Bool.eq_iff_iff, List.contains_iff_mem, els_mem]
  exact ⟨fun h => h.2, fun h => ⟨hj, h⟩⟩

theorem hasl_any (a : Option Addr) (m c : Nat) (f : Nat → Int) (x : Int) (w : World) (hm : m ≤ 9223372036854775807) (hr : RdI w a m f) :
    Calls Tryd.prog 30 #[.slice a m c, .int .i64 x] w fun e w' => e = .returned (.bool (anyB m f x)) ∧ w = w' := by
  go_enter Tryd.func30, Tryd.ntmps30
  go_wp2
  go_loop [5] (fun s => ∃ k : Nat, k ≤ m ∧ s = .int .i64 k ∧ Hid (anyB k f x = false)) (fun s => m - (intOf s).toNat)
  case atStart => exact ⟨0, Nat.zero_le _, rfl, rfl⟩
  case round =>
    obtain ⟨k, hk, rfl, hF⟩ := hrel
    by_cases hlt : k < m
    · obtain ⟨b, o, rfl, hc⟩ := hr.at hlt
      have ck := hc k hlt
      have k1 : (k : Int) < (m : Int) := by omega
      clear hc hr
      by_cases e : f k = x
      · have E := Lib.hid (anyB_stop hlt e)
        have e1 : (f k == x) = true := by simp [e]
        clear e
        go_wp2
        go_ret
        rw [E.out]
        exact ⟨rfl, rfl⟩
      · have F2 := Lib.hid (show anyB (k + 1) f x = false by rw [anyB_succ, hF.out]; simp [e])
        have e1 : (f k == x) = false := by simp [e]
        clear e
        go_wp2
        go_roundw
        case rel => exact ⟨k + 1, hlt, by go_num, F2⟩
        case measure => simp [intOf]; omega
    · obtain rfl : k = m := by omega
      go_wp2
      go_ret
      rw [hF.out]
      exact ⟨rfl, rfl⟩

theorem inH_of {n I : Nat} (h : I < n) : inH n I = true := by unfold inH; simp; omega

/-- Before of two hits of valid hits. -/
theorem Before_ok (adr : Option Addr) (n c : Nat) (P T : Nat → Int) (I J : Nat) (w : World) (V : VH n P T) (hI : I < n) (hJ : J < n) (hw : WfH n P T) (hr : RdM w adr n P T) :
    Calls Tryd.prog 22 #[.slice adr n c, .int .i64 I, .int .i64 J] w (RetBE (bf P T I J) 0 w) := by
  have := Before_any adr n c P T I J w (by have := V.few; omega) hw hr
  have e1 : befG n P T I J = bf P T I J := by unfold befG; rw [vH_iff.2 V, inH_of hI, inH_of hJ]; rfl
  have e2 : errB n P T I J = 0 := by unfold errB; rw [vH_iff.2 V, inH_of hI, inH_of hJ]; rfl
  rwa [e1, e2] at this
theorem Past_ok (adr : Option Addr) (n c : Nat) (P T : Nat → Int) (I : Nat) (w : World) (V : VH n P T) (hI : I < n) (hw : WfH n P T) (hr : RdM w adr n P T) (hT : Tab w) :
    Calls Tryd.prog 24 #[.slice adr n c, .int .i64 I] w (RetLE (pastL n P T I) 0 w) := by
  have := Past_any adr n c P T I w (by have := V.few; omega) hw hr hT
  have e1 : pasG n P T I = pastL n P T I := by unfold pasG; rw [vH_iff.2 V, inH_of hI]; rfl
  have e2 : errP n P T I = 0 := by unfold errP; rw [vH_iff.2 V, inH_of hI]; rfl
  rwa [e1, e2] at this
theorem First_ok (adr : Option Addr) (n c : Nat) (P T : Nat → Int) (w : World) (V : VH n P T) (hw : WfH n P T) (hr : RdM w adr n P T) (hT : Tab w) :
    Calls Tryd.prog 28 #[.slice adr n c] w (RetLE (firstL n P T fun _ => true) 0 w) := by
  have := First_any adr n c P T w (by have := V.few; omega) hw hr hT
  have e1 : firG n P T = firstL n P T fun _ => true := by unfold firG; rw [vH_iff.2 V]; rfl
  have e2 : errH n P T = 0 := by unfold errH; rw [vH_iff.2 V]; rfl
  rwa [e1, e2] at this

/-- A hit is among those before which there is none just if nothing is before it. -/
theorem first_past {n : Nat} {P T : Nat → Int} {b : Nat} (hb : b < n) : (firstL n P T fun _ => true).contains b = decide ((pastL n P T b).length = 0) := by
  unfold firstL
  rw [els_contains hb, Bool.eq_iff_iff, decide_eq_true_eq]
  unfold frB pastL
  simp only [Bool.true_and, List.all_eq_true]
  constructor
  · intro h
    rw [els_none fun i hi => by simpa using h i (by simpa using hi)]
    rfl
  · intro h i hi
    have hi : i < n := by simpa using hi
    cases e : bf P T i b
    · rfl
    · have : i ∈ els (fun i => bf P T i b) n := els_mem.2 ⟨hi, e⟩
      rw [List.eq_nil_of_length_eq_zero h] at this
      cases this

end Go.Proofs.YthgbnjndljjbgaaDoor
