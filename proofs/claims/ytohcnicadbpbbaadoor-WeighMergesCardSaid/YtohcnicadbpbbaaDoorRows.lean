/-
  NARROWER THAN 'FOR EVERY INPUT', by the rows' own cells (each row's printed sentence says how): WeighGains: laid · WeighProofs: laid · WeighFar: laid · WeighMerges: laid · WeighRows: laid.
  DERIVED. THE GIVEN ROWS OF THIS SEAT. 5 by the template 'for every input the law returns true; each argument reads behind the call as it read before'; 0 by the template 'total and deterministic' (their statements: YtohcnicadbpbbaaDoorTotals.lean).
  GIVEN WITH THE SEED: the statements are not yours to turn. If you find one false, say at which input.
  Laid BY PROGRAM, IN A SANDBOX (cutbox-rows.mjs): the forced cells as the released guide's own fill.sh prints them over the translation 8636d6ecb72326e6… (all of the seat's roots in one cut). By AI agents, Wed Nov 11 2026. No macro, syntax, notation, axiom, sorry.
-/
import Derived.Test.YtohcnicadbpbbaaDoorChecked
import GoSem.Claim
import GoSem.ClaimJoined
import GoSem.ClaimMapViews
import Derived.JoinedTies
import Derived.KernelRfl
namespace Go.Proofs.YtohcnicadbpbbaaDoor
/- THE CELL 'sum', in the pinned program and in every row, IS THE sha256 OF THE DUMP (.gsa) THAT YtohcnicadbpbbaaDoorProg.lean LOADS. Nothing in Lean hashes anything: it is a label: what it is worth is what the hold of that sum in a sandbox is worth. -/
noncomputable def Tryd.pinned : Pinned := { name := "ytohcnicadbpbbaadoor", sum := "8636d6ecb72326e669e005cce379b82c5e51b1bf099c6300b7c4e5cc3737875a", checked := Tryd.checked }
namespace Rows
def none {H : Type} : Left H := { results := [], args := [] }

/- WHAT THE LISTED PACKAGE-LEVEL VARIABLES READ AS WHEN THE CALL BEGINS. Each datum BY PROGRAM (the guide's laid-datum.mjs) off the statement by which the dump's own 'gosem.cut.vars' lays the variable. In a bare row this is a premise. The card (YtohcnicadbpbbaaDoorCards.lean) ties it to the program's text. -/
def laid_math_bits_deBruijn32tab {H : Type} : DataW H := .agg [.lit (.int .u8 0), .lit (.int .u8 1), .lit (.int .u8 28), .lit (.int .u8 2), .lit (.int .u8 29), .lit (.int .u8 14), .lit (.int .u8 24), .lit (.int .u8 3), .lit (.int .u8 30), .lit (.int .u8 22), .lit (.int .u8 20), .lit (.int .u8 15), .lit (.int .u8 25), .lit (.int .u8 17), .lit (.int .u8 4), .lit (.int .u8 8), .lit (.int .u8 31), .lit (.int .u8 27), .lit (.int .u8 13), .lit (.int .u8 23), .lit (.int .u8 21), .lit (.int .u8 19), .lit (.int .u8 16), .lit (.int .u8 7), .lit (.int .u8 26), .lit (.int .u8 12), .lit (.int .u8 18), .lit (.int .u8 6), .lit (.int .u8 11), .lit (.int .u8 5), .lit (.int .u8 10), .lit (.int .u8 9)]
def laid_math_bits_deBruijn64tab {H : Type} : DataW H := .agg [.lit (.int .u8 0), .lit (.int .u8 1), .lit (.int .u8 56), .lit (.int .u8 2), .lit (.int .u8 57), .lit (.int .u8 49), .lit (.int .u8 28), .lit (.int .u8 3), .lit (.int .u8 61), .lit (.int .u8 58), .lit (.int .u8 42), .lit (.int .u8 50), .lit (.int .u8 38), .lit (.int .u8 29), .lit (.int .u8 17), .lit (.int .u8 4), .lit (.int .u8 62), .lit (.int .u8 47), .lit (.int .u8 59), .lit (.int .u8 36), .lit (.int .u8 45), .lit (.int .u8 43), .lit (.int .u8 51), .lit (.int .u8 22), .lit (.int .u8 53), .lit (.int .u8 39), .lit (.int .u8 33), .lit (.int .u8 30), .lit (.int .u8 24), .lit (.int .u8 18), .lit (.int .u8 12), .lit (.int .u8 5), .lit (.int .u8 63), .lit (.int .u8 55), .lit (.int .u8 48), .lit (.int .u8 27), .lit (.int .u8 60), .lit (.int .u8 41), .lit (.int .u8 37), .lit (.int .u8 16), .lit (.int .u8 46), .lit (.int .u8 35), .lit (.int .u8 44), .lit (.int .u8 21), .lit (.int .u8 52), .lit (.int .u8 32), .lit (.int .u8 23), .lit (.int .u8 11), .lit (.int .u8 54), .lit (.int .u8 26), .lit (.int .u8 40), .lit (.int .u8 15), .lit (.int .u8 34), .lit (.int .u8 20), .lit (.int .u8 31), .lit (.int .u8 10), .lit (.int .u8 25), .lit (.int .u8 14), .lit (.int .u8 19), .lit (.int .u8 9), .lit (.int .u8 13), .lit (.int .u8 8), .lit (.int .u8 7), .lit (.int .u8 6)]

/-- 'firnlaw07.WeighGains': WHATEVER THE INPUT: true; the input reads as it did. -/
def weighGainsSpec : ChangeSpec := { name := "weighGains", fn := fun _ => fun
  | [d1, d2, d3] => { results := [.lit (.bool true)], args := [d1, d2, d3] }
  | _ => none }
def weighGainsRow : OpenClaim := { program := "ytohcnicadbpbbaadoor", sum := "8636d6ecb72326e669e005cce379b82c5e51b1bf099c6300b7c4e5cc3737875a", func := "firn/firnlaw07.WeighGains", spec := "weighGains", unfollowed := true, recurses := true, named := ["math/bits.deBruijn32tab", "math/bits.deBruijn64tab"], apart := false, laid := [("math/bits.deBruijn32tab", laid_math_bits_deBruijn32tab), ("math/bits.deBruijn64tab", laid_math_bits_deBruijn64tab)] }
def WeighGainsSaid : Prop := weighGainsRow.holds Tryd.pinned (OpenSpec.ofChange weighGainsSpec)

/-- ITS FALSE NEIGHBOUR: 'it returns false'. Refute it at one input. -/
def weighGainsWrong : ChangeSpec := { name := "weighGains", fn := fun _ => fun
  | [d1, d2, d3] => { results := [.lit (.bool false)], args := [d1, d2, d3] }
  | _ => none }
def WeighGainsWrongFalsely : Prop := weighGainsRow.holds Tryd.pinned (OpenSpec.ofChange weighGainsWrong)

/-- 'firnlaw07.WeighProofs': WHATEVER THE INPUT: true; the input reads as it did. -/
def weighProofsSpec : ChangeSpec := { name := "weighProofs", fn := fun _ => fun
  | [d1, d2, d3, d4] => { results := [.lit (.bool true)], args := [d1, d2, d3, d4] }
  | _ => none }
def weighProofsRow : OpenClaim := { program := "ytohcnicadbpbbaadoor", sum := "8636d6ecb72326e669e005cce379b82c5e51b1bf099c6300b7c4e5cc3737875a", func := "firn/firnlaw07.WeighProofs", spec := "weighProofs", unfollowed := true, recurses := true, named := ["math/bits.deBruijn32tab", "math/bits.deBruijn64tab"], apart := false, laid := [("math/bits.deBruijn32tab", laid_math_bits_deBruijn32tab), ("math/bits.deBruijn64tab", laid_math_bits_deBruijn64tab)] }
def WeighProofsSaid : Prop := weighProofsRow.holds Tryd.pinned (OpenSpec.ofChange weighProofsSpec)

/-- ITS FALSE NEIGHBOUR: 'it returns false'. Refute it at one input. -/
def weighProofsWrong : ChangeSpec := { name := "weighProofs", fn := fun _ => fun
  | [d1, d2, d3, d4] => { results := [.lit (.bool false)], args := [d1, d2, d3, d4] }
  | _ => none }
def WeighProofsWrongFalsely : Prop := weighProofsRow.holds Tryd.pinned (OpenSpec.ofChange weighProofsWrong)

/-- 'firnlaw07.WeighFar': WHATEVER THE INPUT: true; the input reads as it did. -/
def weighFarSpec : ChangeSpec := { name := "weighFar", fn := fun _ => fun
  | [d1, d2] => { results := [.lit (.bool true)], args := [d1, d2] }
  | _ => none }
def weighFarRow : OpenClaim := { program := "ytohcnicadbpbbaadoor", sum := "8636d6ecb72326e669e005cce379b82c5e51b1bf099c6300b7c4e5cc3737875a", func := "firn/firnlaw07.WeighFar", spec := "weighFar", unfollowed := true, recurses := true, named := ["math/bits.deBruijn32tab", "math/bits.deBruijn64tab"], apart := false, laid := [("math/bits.deBruijn32tab", laid_math_bits_deBruijn32tab), ("math/bits.deBruijn64tab", laid_math_bits_deBruijn64tab)] }
def WeighFarSaid : Prop := weighFarRow.holds Tryd.pinned (OpenSpec.ofChange weighFarSpec)

/-- ITS FALSE NEIGHBOUR: 'it returns false'. Refute it at one input. -/
def weighFarWrong : ChangeSpec := { name := "weighFar", fn := fun _ => fun
  | [d1, d2] => { results := [.lit (.bool false)], args := [d1, d2] }
  | _ => none }
def WeighFarWrongFalsely : Prop := weighFarRow.holds Tryd.pinned (OpenSpec.ofChange weighFarWrong)

/-- 'firnlaw07.WeighMerges': WHATEVER THE INPUT: true; the input reads as it did. -/
def weighMergesSpec : ChangeSpec := { name := "weighMerges", fn := fun _ => fun
  | [d1, d2, d3, d4] => { results := [.lit (.bool true)], args := [d1, d2, d3, d4] }
  | _ => none }
def weighMergesRow : OpenClaim := { program := "ytohcnicadbpbbaadoor", sum := "8636d6ecb72326e669e005cce379b82c5e51b1bf099c6300b7c4e5cc3737875a", func := "firn/firnlaw07.WeighMerges", spec := "weighMerges", unfollowed := true, recurses := true, named := ["math/bits.deBruijn32tab", "math/bits.deBruijn64tab"], apart := false, laid := [("math/bits.deBruijn32tab", laid_math_bits_deBruijn32tab), ("math/bits.deBruijn64tab", laid_math_bits_deBruijn64tab)] }
def WeighMergesSaid : Prop := weighMergesRow.holds Tryd.pinned (OpenSpec.ofChange weighMergesSpec)

/-- ITS FALSE NEIGHBOUR: 'it returns false'. Refute it at one input. -/
def weighMergesWrong : ChangeSpec := { name := "weighMerges", fn := fun _ => fun
  | [d1, d2, d3, d4] => { results := [.lit (.bool false)], args := [d1, d2, d3, d4] }
  | _ => none }
def WeighMergesWrongFalsely : Prop := weighMergesRow.holds Tryd.pinned (OpenSpec.ofChange weighMergesWrong)

/-- 'firnlaw07.WeighRows': WHATEVER THE INPUT: true; the input reads as it did. -/
def weighRowsSpec : ChangeSpec := { name := "weighRows", fn := fun _ => fun
  | [d1, d2, d3] => { results := [.lit (.bool true)], args := [d1, d2, d3] }
  | _ => none }
def weighRowsRow : OpenClaim := { program := "ytohcnicadbpbbaadoor", sum := "8636d6ecb72326e669e005cce379b82c5e51b1bf099c6300b7c4e5cc3737875a", func := "firn/firnlaw07.WeighRows", spec := "weighRows", unfollowed := true, recurses := true, named := ["math/bits.deBruijn32tab", "math/bits.deBruijn64tab"], apart := false, laid := [("math/bits.deBruijn32tab", laid_math_bits_deBruijn32tab), ("math/bits.deBruijn64tab", laid_math_bits_deBruijn64tab)] }
def WeighRowsSaid : Prop := weighRowsRow.holds Tryd.pinned (OpenSpec.ofChange weighRowsSpec)

/-- ITS FALSE NEIGHBOUR: 'it returns false'. Refute it at one input. -/
def weighRowsWrong : ChangeSpec := { name := "weighRows", fn := fun _ => fun
  | [d1, d2, d3] => { results := [.lit (.bool false)], args := [d1, d2, d3] }
  | _ => none }
def WeighRowsWrongFalsely : Prop := weighRowsRow.holds Tryd.pinned (OpenSpec.ofChange weighRowsWrong)

/- THE SECOND FORM. 'bulk': how many values and letters a reading holds, each counted each time it is reached (what is shared counts as often as it is met; a slice's spare places count too). A statement '..UptoSaid' is the law's where the arguments, and the package variables that the reading takes, are together of bulk at most 1048576: NARROWER than '..Said'. Prove '..Said' where nothing that the law and all that it calls make is longer than what came in: it says more and counts as full. Else prove '..UptoSaid'. A law counts once. -/
mutual
def uptoBulk {H : Type} : DataW H → Nat
  | .lit (.string bytes) => bytes.length + 1
  | .lit _ => 1
  | .nil => 1
  | .ptr d => uptoBulk d + 1
  | .slice elems spare => uptoBulkAll elems + uptoBulkAll spare + 1
  | .agg parts => uptoBulkAll parts + 1
  | .iface _ d => uptoBulk d + 1
  | .map entries => uptoBulkEntries entries + 1
  | .held _ => 1
def uptoBulkAll {H : Type} : List (DataW H) → Nat
  | [] => 0
  | d :: r => uptoBulk d + uptoBulkAll r
def uptoBulkEntries {H : Type} : List (Lit × DataW H) → Nat
  | [] => 0
  | x :: r => uptoBulkEntry x + uptoBulkEntries r
def uptoBulkEntry {H : Type} : Lit × DataW H → Nat
  | (.string bytes, d) => bytes.length + uptoBulk d + 1
  | (_, d) => uptoBulk d + 1
 end
def uptoSmall : (H : Type) → List (DataW H) → Bool := fun _ ds => decide (uptoBulkAll ds ≤ 1048576)
def OpenSpec.upto (s : _root_.Go.ChangeSpec) : _root_.Go.OpenSpec := { _root_.Go.OpenSpec.ofChange s with cond := some uptoSmall }

/-- 'firnlaw07.WeighGains', WHERE WHAT IT READS IS OF BULK AT MOST 1048576: true; the input reads as it did. -/
def weighGainsUptoRow : OpenClaim := { program := "ytohcnicadbpbbaadoor", sum := "8636d6ecb72326e669e005cce379b82c5e51b1bf099c6300b7c4e5cc3737875a", func := "firn/firnlaw07.WeighGains", spec := "weighGains", unfollowed := true, recurses := true, named := ["math/bits.deBruijn32tab", "math/bits.deBruijn64tab"], apart := false, laid := [("math/bits.deBruijn32tab", laid_math_bits_deBruijn32tab), ("math/bits.deBruijn64tab", laid_math_bits_deBruijn64tab)], narrowed := true }
def WeighGainsUptoSaid : Prop := weighGainsUptoRow.holds Tryd.pinned (OpenSpec.upto weighGainsSpec)

/-- 'firnlaw07.WeighProofs', WHERE WHAT IT READS IS OF BULK AT MOST 1048576: true; the input reads as it did. -/
def weighProofsUptoRow : OpenClaim := { program := "ytohcnicadbpbbaadoor", sum := "8636d6ecb72326e669e005cce379b82c5e51b1bf099c6300b7c4e5cc3737875a", func := "firn/firnlaw07.WeighProofs", spec := "weighProofs", unfollowed := true, recurses := true, named := ["math/bits.deBruijn32tab", "math/bits.deBruijn64tab"], apart := false, laid := [("math/bits.deBruijn32tab", laid_math_bits_deBruijn32tab), ("math/bits.deBruijn64tab", laid_math_bits_deBruijn64tab)], narrowed := true }
def WeighProofsUptoSaid : Prop := weighProofsUptoRow.holds Tryd.pinned (OpenSpec.upto weighProofsSpec)

/-- 'firnlaw07.WeighFar', WHERE WHAT IT READS IS OF BULK AT MOST 1048576: true; the input reads as it did. -/
def weighFarUptoRow : OpenClaim := { program := "ytohcnicadbpbbaadoor", sum := "8636d6ecb72326e669e005cce379b82c5e51b1bf099c6300b7c4e5cc3737875a", func := "firn/firnlaw07.WeighFar", spec := "weighFar", unfollowed := true, recurses := true, named := ["math/bits.deBruijn32tab", "math/bits.deBruijn64tab"], apart := false, laid := [("math/bits.deBruijn32tab", laid_math_bits_deBruijn32tab), ("math/bits.deBruijn64tab", laid_math_bits_deBruijn64tab)], narrowed := true }
def WeighFarUptoSaid : Prop := weighFarUptoRow.holds Tryd.pinned (OpenSpec.upto weighFarSpec)

/-- 'firnlaw07.WeighMerges', WHERE WHAT IT READS IS OF BULK AT MOST 1048576: true; the input reads as it did. -/
def weighMergesUptoRow : OpenClaim := { program := "ytohcnicadbpbbaadoor", sum := "8636d6ecb72326e669e005cce379b82c5e51b1bf099c6300b7c4e5cc3737875a", func := "firn/firnlaw07.WeighMerges", spec := "weighMerges", unfollowed := true, recurses := true, named := ["math/bits.deBruijn32tab", "math/bits.deBruijn64tab"], apart := false, laid := [("math/bits.deBruijn32tab", laid_math_bits_deBruijn32tab), ("math/bits.deBruijn64tab", laid_math_bits_deBruijn64tab)], narrowed := true }
def WeighMergesUptoSaid : Prop := weighMergesUptoRow.holds Tryd.pinned (OpenSpec.upto weighMergesSpec)

/-- 'firnlaw07.WeighRows', WHERE WHAT IT READS IS OF BULK AT MOST 1048576: true; the input reads as it did. -/
def weighRowsUptoRow : OpenClaim := { program := "ytohcnicadbpbbaadoor", sum := "8636d6ecb72326e669e005cce379b82c5e51b1bf099c6300b7c4e5cc3737875a", func := "firn/firnlaw07.WeighRows", spec := "weighRows", unfollowed := true, recurses := true, named := ["math/bits.deBruijn32tab", "math/bits.deBruijn64tab"], apart := false, laid := [("math/bits.deBruijn32tab", laid_math_bits_deBruijn32tab), ("math/bits.deBruijn64tab", laid_math_bits_deBruijn64tab)], narrowed := true }
def WeighRowsUptoSaid : Prop := weighRowsUptoRow.holds Tryd.pinned (OpenSpec.upto weighRowsSpec)

end Rows
end Go.Proofs.YtohcnicadbpbbaaDoor
