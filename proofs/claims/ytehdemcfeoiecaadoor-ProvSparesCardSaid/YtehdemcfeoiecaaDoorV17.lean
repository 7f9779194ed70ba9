/- Contracts of chapter 9: the tokens of a sum. -/
import Derived.Test.YtehdemcfeoiecaaDoorV16
import Derived.Test.YtehdemcfeoiecaaDoorV3
import Derived.Lib.AppendStr
import Derived.Lib.UnsafeStr
namespace Go.Proofs.YtehdemcfeoiecaaDoor
open Go.RowKit Go.Firn Go.Shelf Go.Maps Go.WideMaps

/-- All bytes of a sum's products; its tokens. -/
def allK (L : SL) : Key := L.flatMap (·.1)
def sortU (k : Key) : Key := k.mergeSort fun a b => decide (a ≤ b)
def tokK (L : SL) : Key := Lib.compact (sortU (allK L))
theorem allK_next {L : SL} {k : Nat} (h : k < L.length) : allK (L.take (k + 1)) = allK (L.take k) ++ (sx L k).data.toList := by
  unfold allK
  rw [take_next h, List.flatMap_append]
  simp
theorem allK_len {L : SL} (h : ∀ x ∈ L, x.1.length ≤ 12) : (allK L).length ≤ 12 * L.length := by
  induction L with
  | nil => simp [allK]
  | cons x r ih =>
    have a := h x List.mem_cons_self
    have b := ih fun y hy => h y (List.mem_cons_of_mem _ hy)
    have e : allK (x :: r) = x.1 ++ allK r := rfl
    rw [e, List.length_append, List.length_cons]
    omega

/-- Nothing is returned, and nothing turned. -/
def RetV (w : World) (e : Ending) (w' : World) : Prop := e = .returned (.tuple #[]) ∧ w = w'
set_option maxHeartbeats 1000000 in
theorem ins_nil (w : World) : Calls Tryd.prog 96 #[.slice none 0 0, .int .i64 0, .int .i64 0] w (RetV w) := by
  go_enter Tryd.func96, Tryd.ntmps96
  go_wp2_with fail
  go_loopw [6] (fun s wr => s = .int .i64 1 ∧ wr = w) (fun _ _ => 0)
  case atStart => exact ⟨rfl, rfl⟩
  case round =>
    obtain ⟨rfl, rfl⟩ := hrel
    go_wp2_with fail
    go_end0
    exact ⟨rfl, rfl⟩
set_option maxHeartbeats 1000000 in
theorem pdq_nil (w : World) : Calls Tryd.prog 73 #[.slice none 0 0, .int .i64 0, .int .i64 0, .int .i64 0] w (RetV w) := by
  have C := Lib.hid (fun wx => ins_nil wx)
  go_enter Tryd.func73, Tryd.ntmps73
  go_wp2_with fail
  go_loopw [1, 2, 3, 8, 9] (fun va vb vl v8 v9 wr => va = .int .i64 0 ∧ vb = .int .i64 0 ∧ vl = .int .i64 0 ∧ v8 = .bool true ∧ v9 = .bool true ∧ wr = w) (fun _ _ _ _ _ _ => 0)
  case atStart => exact ⟨rfl, rfl, rfl, rfl, rfl, rfl⟩
  case round =>
    obtain ⟨rfl, rfl, rfl, rfl, rfl, rfl⟩ := hrel
    go_wp2_with (go_at_call 96; (with_reducible refine (C.out _).mono ?_); rintro e w1 ⟨rfl, rfl⟩)
    go_end0
    exact ⟨rfl, rfl⟩
theorem sort_nil (w : World) : Calls Tryd.prog 47 #[.slice none 0 0] w (RetV w) := by
  have CL := Lib.hid (fun wx => show Calls Tryd.prog 74 #[.int .u64 0] wx fun e w' => e = .returned (.int .i64 0) ∧ w' = wx from bitsLen_any 0 (by omega) wx)
  have CP := Lib.hid (fun wx => pdq_nil wx)
  go_enter Tryd.func47, Tryd.ntmps47
  go_wp2_with (first
    | (go_at_call 74; (with_reducible refine (CL.out _).mono ?_); rintro e w1 ⟨rfl, rfl⟩)
    | (go_at_call 73; (with_reducible refine (CP.out _).mono ?_); rintro e w1 ⟨rfl, rfl⟩))
  go_end0
  exact ⟨rfl, rfl⟩
theorem compact_nil (w : World) : Calls Tryd.prog 48 #[.slice none 0 0] w fun e w' => e = .returned (.slice none 0 0) ∧ w = w' := by
  go_enter Tryd.func48, Tryd.ntmps48
  go_wp2_with fail
  go_ret
  exact ⟨rfl, rfl⟩

theorem u8_eq (x y : UInt8) : ((x.toNat : Int) == (y.toNat : Int)) = decide (x = y) := by
  by_cases h : x = y
  · subst h; simp
  · have : x.toNat ≠ y.toNat := fun e => h (UInt8.toNat_inj.1 e)
    simp [h]
    omega
/-- A byte as a cell. -/
def encB (b : UInt8) : Value := .int .u8 (b.toNat : Nat)
theorem encB_eql : EqlAt Tryd.prog 5 encB (fun x y => decide (x = y)) := by
  refine ⟨fun x y w => ?_, fun op a b x y w => (EqlAt.int Tryd.prog 5 .u8).2 op a b _ _ w⟩
  rw [show (binOp .eql 5 (encB x) (encB y)).run Tryd.prog w = _ from (EqlAt.int Tryd.prog 5 .u8).1 (x.toNat : Int) (y.toNat : Int) w]
  show Result.ok (Value.bool ((x.toNat : Int) == (y.toNat : Int))) w = Result.ok (Value.bool (decide (x = y))) w
  rw [u8_eq]
theorem encB_neq : NeqAt Tryd.prog 5 encB (fun x y => decide (x = y)) := by
  refine ⟨fun x y w => ?_, fun op a b x y w => (NeqAt.int Tryd.prog 5 .u8).2 op a b _ _ w⟩
  rw [show (binOp .neq 5 (encB x) (encB y)).run Tryd.prog w = _ from (NeqAt.int Tryd.prog 5 .u8).1 (x.toNat : Int) (y.toNat : Int) w]
  show Result.ok (Value.bool (!((x.toNat : Int) == (y.toNat : Int)))) w = Result.ok (Value.bool (!(decide (x = y)))) w
  rw [u8_eq]
theorem holds_row {w : World} {g : Nat} {k : Key} (h : RowB w g (kb k)) : Sort.Holds encB w g 0 k.toArray := by
  intro j hj
  have hj' : j < k.length := by simpa using hj
  obtain ⟨h1, h2⟩ := h j (by rw [kb_size]; exact hj')
  rw [Nat.zero_add]
  rw [kb_at hj'] at h1
  refine ⟨?_, h2⟩
  rw [h1]
  simp [encB, hj']
theorem row_holds {w : World} {g : Nat} {k : Key} {d : Array UInt8} (h : Sort.Holds encB w g 0 d) (hk : k.length ≤ d.size) (hd : ∀ j (hj : j < k.length), d[j]! = k[j]) : RowB w g (kb k) := by
  intro j hj
  rw [kb_size] at hj
  obtain ⟨h1, h2⟩ := h j (by omega)
  rw [Nat.zero_add] at h1 h2
  rw [hd j hj] at h1
  rw [kb_at hj]
  exact ⟨h1, h2⟩
theorem grow_put {w : World} {g q : Nat} {d : Array UInt8} : Wr g w (Sort.putRow encB (Sort.ahead w q) g 0 d) := by
  refine ⟨rfl, rfl, rfl, by simp [Sort.ahead], fun k hk hne => ?_⟩
  have : g ≠ k := fun e => hne (by rw [e])
  simp [Sort.putRow, Sort.mapBlock, Sort.ahead, Array.getElem?_modify, this]

theorem z8 (w : World) : (zeroValue 5).run Tryd.prog w = .ok (encB 0) w := Tryd.zeroValue5 w
theorem compact_raw (g cp : Nat) (k : Array UInt8) (w : World) (hH : Sort.Holds encB w g 0 k) (h1 : k.size ≤ 9223372036854775807) (h2 : k.size ≤ cp) :
    Calls Tryd.prog 48 #[.slice (some ⟨g, 0, none⟩) k.size cp] w fun e w' => e = .returned (.slice (some ⟨g, 0, none⟩) (Lib.compactUpTo k k.size).length cp) ∧ ∃ q, w' = Sort.putRow encB (Sort.ahead w q) g 0 (Lib.compactUpTo k k.size ++ List.replicate (k.size - (Lib.compactUpTo k k.size).length) 0).toArray :=
  AnyE.slices_Compact Tryd.compact48 encB (fun _ => rfl) encB_eql encB_neq 0 z8 g 0 cp k w hH h1 h2
theorem compact_any (g cp n : Nat) (k : Key) (w : World) (hn : k.length = n) (hcp : n ≤ cp) (hb : n ≤ 1000000) (h : RowB w g (kb k)) :
    Calls Tryd.prog 48 #[.slice (some ⟨g, 0, none⟩) n cp] w fun e w' => e = .returned (.slice (some ⟨g, 0, none⟩) (Lib.compact k).length cp) ∧ Wr g w w' ∧ RowB w' g (kb (Lib.compact k)) := by
  have hs : k.toArray.size = n := by simpa using hn
  have hH := holds_row h
  have hc : Lib.compactUpTo k.toArray n = Lib.compact k := by simp [Lib.compact, hn]
  have h := compact_raw g cp k.toArray w hH (by omega) (by omega)
  rw [hs, hc] at h
  have hle : (Lib.compact k).length ≤ n := by
    rw [← hc]
    unfold Lib.compactUpTo
    rw [List.length_map]
    refine Nat.le_trans (List.length_filter_le _ _) ?_
    simp
  have fin : ∀ q, Wr g w (Sort.putRow encB (Sort.ahead w q) g 0 (Lib.compact k ++ List.replicate (n - (Lib.compact k).length) 0).toArray) ∧ RowB (Sort.putRow encB (Sort.ahead w q) g 0 (Lib.compact k ++ List.replicate (n - (Lib.compact k).length) 0).toArray) g (kb (Lib.compact k)) := by
    intro q
    have hH2 : Sort.Holds encB (Sort.ahead w q) g 0 k.toArray := fun j hj => hH j hj
    have h3 := Sort.holds_putRow encB (Sort.ahead w q) g 0 k.toArray (Lib.compact k ++ List.replicate (n - (Lib.compact k).length) 0).toArray hH2 (by simp; omega)
    exact ⟨grow_put, row_holds h3 (by simp) (fun j hj => by
      rw [getElem!_pos _ j (by simp; omega)]
      simp [List.getElem_append_left hj])⟩
  clear hH hs hc
  generalize (Lib.compact k ++ List.replicate (n - (Lib.compact k).length) 0).toArray = dd at *
  refine Calls.mono h ?_
  intro e w' ⟨h1, q, h2⟩
  rw [h2]
  exact ⟨h1, fin q⟩
end Go.Proofs.YtehdemcfeoiecaaDoor
