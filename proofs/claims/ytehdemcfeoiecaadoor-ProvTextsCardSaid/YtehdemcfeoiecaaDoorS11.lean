/- slices.Sort at []byte. -/
import Derived.Test.YtehdemcfeoiecaaDoorS10
import Derived.Sort.WalkA14
import Derived.Test.YtehdemcfeoiecaaDoorP2
namespace Go.Proofs.YtehdemcfeoiecaaDoor
open Go.RowKit Go.Firn Go.Sort Go.Shelf

theorem bitsLen_any (n : Nat) (hn : n ≤ 1000000) (w : World) : Calls Tryd.prog 74 #[.int .u64 (n : Int)] w fun e w' => e = .returned (.int .i64 ((bitsLen n : Nat) : Int)) ∧ w' = w := by
  have h := Any.bits_Len (SlLaysF0.n15.bits Tryd.blen74) (n : Int) w (by omega) (by omega)
  rw [Int.toNat_natCast, bitLen_eq _ (by omega)] at h
  exact h

set_option maxRecDepth 100000 in
set_option maxHeartbeats 2000000 in
theorem sort8_any (b cap n : Nat) (d : Array Int) (w : World) (hd : d.size = n) (hn : n ≤ 1000000) (hw : RowB w b d) (hb : b < w.heap.size) :
    Calls Tryd.prog 47 #[.slice (some ⟨b, 0, none⟩) n cap] w fun e w' => e = .returned (.tuple #[]) ∧ Wr b w w' ∧ ∃ d', RowB w' b d' ∧ d'.toList = d.toList.mergeSort (fun x y => decide (x ≤ y)) := by
  have hl : bitsLen n ≤ 62 := (bitsLen_le_iff n 62).2 (by omega)
  have CL := Lib.hid (fun w1 => bitsLen_any n hn w1)
  have CP := Lib.hid (show Calls Tryd.prog 73 #[.slice (some ⟨b, 0, none⟩) n cap, .int .i64 0, .int .i64 n, .int .i64 ((bitsLen n : Nat) : Int)] w (RetPdq b 0 n d w) from pdq_any b cap n hn _ 0 n (bitsLen n) d w rfl hd (Nat.zero_le _) (Nat.le_refl _) (by omega) (.inl rfl) hw hb)
  have HS := Lib.hid (fun d' (h1 : PermIn 0 n d d') (h2 : SortedIn ltInt 0 n d') => show d'.toList = d.toList.mergeSort (fun x y => decide (x ≤ y)) by
    have := sorted_unique_holds (lt := ltInt) swo_ltInt (fun x y a b => by unfold ltInt at a b; simp at a b; omega) d d' (by rw [hd]; exact h1) (by rw [hd]; exact h2)
    rw [this]
    congr 1
    funext x y
    unfold ltInt
    by_cases h : x ≤ y
    · simp [h]
    · simp [h]; omega)
  have u1 : IntKind.u64.wrap (n : Int) = (n : Int) := by rw [IntKind.wrap_u64]; omega
  generalize bitsLen n = k at *
  clear hw hb hd hl
  go_enter Tryd.func47, Tryd.ntmps47
  go_wp2_with (first
    | (go_at_call 74; (with_reducible refine (CL.out _).mono ?_); rintro e w1 ⟨rfl, rfl⟩)
    | (go_at_call 73; (with_reducible refine CP.out.mono ?_); rintro e w1 ⟨rfl, g, d', r, r1, r2⟩; have G := Lib.hid g; have R := Lib.hid r; have E := Lib.hid (HS.out d' r1 r2); clear g r r1 r2))
  go_end0
  exact ⟨rfl, G.out, d', R.out, E.out⟩

/-- The bytes of a key. -/
def kb (k : Key) : Array Int := (k.map fun b : UInt8 => (b.toNat : Int)).toArray
theorem kb_size (k : Key) : (kb k).size = k.length := by simp [kb]
theorem kb_at {k : Key} {j : Nat} (h : j < k.length) : (kb k)[j]! = ((k[j]'h).toNat : Int) := by
  unfold kb
  simp [h]
theorem kb_sort {k : Key} {d : Array Int} (h : d.toList = (kb k).toList.mergeSort (fun x y => decide (x ≤ y))) : d = kb (k.mergeSort fun a b => decide (a ≤ b)) := by
  apply Array.toList_inj.1
  rw [h]
  have e : ∀ k : Key, (kb k).toList = k.map fun b : UInt8 => (b.toNat : Int) := fun k => rfl
  rw [e, e]
  have tr : ∀ a b c : Int, decide (a ≤ b) = true → decide (b ≤ c) = true → decide (a ≤ c) = true := fun a b c h1 h2 => by simp only [decide_eq_true_eq] at *; omega
  have tt : ∀ a b : Int, (decide (a ≤ b) || decide (b ≤ a)) = true := fun a b => by simp only [Bool.or_eq_true, decide_eq_true_eq]; omega
  refine List.Perm.eq_of_pairwise (le := fun a b : Int => decide (a ≤ b) = true) (fun a b _ _ h1 h2 => ?_) (List.pairwise_mergeSort tr tt _) ?_ ((List.mergeSort_perm _ _).trans ((List.mergeSort_perm k _).map _).symm)
  · simp only [decide_eq_true_eq] at h1 h2; omega
  · rw [List.pairwise_map]
    refine (List.pairwise_mergeSort u8tr u8tot k).imp fun {a b} h => ?_
    simp only [decide_eq_true_eq, UInt8.le_iff_toNat_le] at h ⊢
    omega

end Go.Proofs.YtehdemcfeoiecaaDoor
