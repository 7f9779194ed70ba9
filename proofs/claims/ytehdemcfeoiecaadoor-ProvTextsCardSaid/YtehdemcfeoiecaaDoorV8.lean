/- Contracts of chapter 9: the reference mixes two products' tokens. -/
import Derived.Test.YtehdemcfeoiecaaDoorV7
namespace Go.Proofs.YtehdemcfeoiecaaDoor
open Go.RowKit Go.Firn Go.Shelf Go.Maps Go.WideMaps

/-- A text of its bytes. -/
def tx (A : Key) : ByteArray := ⟨A.toArray⟩
theorem tx_size (A : Key) : (tx A).size = A.length := by simp [tx, ByteArray.size]
theorem tx_list (A : Key) : (tx A).data.toList = A := rfl
def szV : Value → Nat
  | .string s => s.size
  | _ => 0
theorem tx_head (x : UInt8) (A : Key) : (tx (x :: A)).extract 0 1 = tx [x] := by
  apply ByteArray.ext
  apply Array.ext'
  simp [tx]
theorem tx_tail (x : UInt8) (A : Key) : (tx (x :: A)).extract 1 (A.length + 1) = tx A := by
  apply ByteArray.ext
  apply Array.ext'
  simp [tx]
theorem tx_add (O : Key) (x : UInt8) (h : O.length ≤ 2000) (w : World) : (Op.stringOp .add (tx O) (tx [x])).run Tryd.prog w = .ok (.string (tx (O ++ [x]))) w := by
  rw [run_string_add w (tx O) (tx [x]) (by rw [tx_size]; omega) (by rw [tx_size]; simp)]
  have e : tx O ++ tx [x] = tx (O ++ [x]) := by
    apply ByteArray.ext
    apply Array.ext'
    simp [tx]
  rw [e]

set_option maxRecDepth 100000 in
set_option maxHeartbeats 4000000 in
theorem mixed_any (P Q : Key) (hP : P.length ≤ 1000) (hQ : Q.length ≤ 1000) (w : World) :
    Calls Tryd.prog 66 #[.string (tx P), .string (tx Q)] w (fun e w' => e = .returned (.string (tx (mgK P Q))) ∧ Gr w w') := by
  go_enter Tryd.func66, Tryd.ntmps66
  go_wp2
  go_loopw [0, 1, 5] (fun va vb vo wr => ∃ A B O : Key, va = .string (tx A) ∧ vb = .string (tx B) ∧ vo = .string (tx O) ∧ A.length ≤ 1000 ∧ B.length ≤ 1000 ∧ O.length + A.length + B.length ≤ 2000 ∧ Hid (O ++ mgK A B = mgK P Q) ∧ Hid (Gr w wr)) (fun va vb _ _ => szV va + szV vb)
  case atStart => exact ⟨P, Q, [], rfl, rfl, rfl, hP, hQ, by simp; omega, Lib.hid rfl, Gr.refl w⟩
  case round =>
    obtain ⟨A, B, O, rfl, rfl, rfl, hA, hB, hO, HM, HG⟩ := hrel
    have zA := tx_size A
    have zB := tx_size B
    cases A with
    | nil =>
      cases B with
      | nil =>
        have HE := Lib.hid (show O = mgK P Q by have := HM.out; rwa [mgK_nil, List.append_nil] at this)
        clear HM
        go_wp2_with fail
        go_ret
        rw [← HE.out]
        exact ⟨rfl, HG.out⟩
      | cons y B =>
        have HM2 := Lib.hid (show (O ++ [y]) ++ mgK [] B = mgK P Q by have := HM.out; rw [mgK_nil] at *; simpa using this)
        have e1 := tx_head y B
        have e2 := tx_tail y B
        have e3 := tx_add O y (by simp at hO; omega)
        clear HM
        go_wp2_with fail
        go_quiet (fail)
        go_wp2
        exact ⟨⟨[], B, O ++ [y], rfl, rfl, rfl, by simp at hA ⊢ <;> omega, by simp at hB ⊢ <;> omega, by simp at hO ⊢ <;> omega, HM2, Lib.hid (HG.out.drewN nq)⟩, by simp [szV, tx_size]⟩
    | cons x A =>
      have e1 := tx_head x A
      have e2 := tx_tail x A
      have e3 := tx_add O x (by simp at hO; omega)
      cases B with
      | nil =>
        have HM2 := Lib.hid (show (O ++ [x]) ++ mgK A [] = mgK P Q by have := HM.out; rw [mgK_nil'] at *; simpa using this)
        clear HM
        go_wp2_with fail
        go_quiet (fail)
        go_wp2
        exact ⟨⟨A, [], O ++ [x], rfl, rfl, rfl, by simp at hA ⊢ <;> omega, by simp at hB ⊢ <;> omega, by simp at hO ⊢ <;> omega, HM2, Lib.hid (HG.out.drewN nq)⟩, by simp [szV, tx_size]⟩
      | cons y B =>
        have f1 := tx_head y B
        have f2 := tx_tail y B
        have f3 := tx_add O y (by simp at hO; omega)
        go_wp2_with fail
        go_quiet (fail)
        go_wp2
        · rename_i h
          have hxy : x ≤ y := by
            rcases h with h | h
            · simp at h; omega
            · exact UInt8.le_iff_toNat_le.2 h
          have HM2 := Lib.hid (show (O ++ [x]) ++ mgK A (y :: B) = mgK P Q by have := HM.out; rw [mgK_cons, if_pos hxy] at this; simpa using this)
          exact ⟨⟨A, y :: B, O ++ [x], rfl, rfl, rfl, by simp at hA ⊢ <;> omega, by simp at hB ⊢ <;> omega, by simp at hO ⊢ <;> omega, HM2, Lib.hid (HG.out.drewN nq)⟩, by simp [szV, tx_size]⟩
        · rename_i h
          have hxy : ¬ x ≤ y := fun e => h.2 (UInt8.le_iff_toNat_le.1 e)
          have HM2 := Lib.hid (show (O ++ [y]) ++ mgK (x :: A) B = mgK P Q by have := HM.out; rw [mgK_cons, if_neg hxy] at this; simpa using this)
          exact ⟨⟨x :: A, B, O ++ [y], rfl, rfl, rfl, by simp at hA ⊢ <;> omega, by simp at hB ⊢ <;> omega, by simp at hO ⊢ <;> omega, HM2, Lib.hid (HG.out.drewN nq)⟩, by simp [szV, tx_size]⟩

end Go.Proofs.YtehdemcfeoiecaaDoor
