/-
  NARROWER THAN 'FOR EVERY INPUT', by the rows' own cells (each row's printed sentence says how): ConeLayer: laid · ConeBefores: laid · ConeOrders: laid · ConeMoves: laid · ConeLayers: laid · ConeThreads: laid · TopCone: laid · ConeBoth: laid · ConeTriggers: laid · ConeTimes: laid · ConeChains: laid · ConeTurns: laid.
  DERIVED. THE GIVEN ROWS OF THIS SEAT. 12 by the template 'for every input the law returns true; each argument reads behind the call as it read before'; 0 by the template 'total and deterministic' (their statements: YtjokheeegcilhaaDoorTotals.lean).
  GIVEN WITH THE SEED: the statements are not yours to turn. If you find one false, say at which input.
  Laid BY PROGRAM, IN A SANDBOX (cutbox-rows.mjs): the forced cells as the released guide's own fill.sh prints them over the translation e422f591da47598b… (all of the seat's roots in one cut). By AI agents, Wed Nov 11 2026. No macro, syntax, notation, axiom, sorry.
-/
import Derived.Test.YtjokheeegcilhaaDoorChecked
import GoSem.Claim
import GoSem.ClaimJoined
import GoSem.ClaimMapViews
import Derived.JoinedTies
import Derived.KernelRfl
namespace Go.Proofs.YtjokheeegcilhaaDoor
/- THE CELL 'sum', in the pinned program and in every row, IS THE sha256 OF THE DUMP (.gsa) THAT YtjokheeegcilhaaDoorProg.lean LOADS. Nothing in Lean hashes anything: it is a label: what it is worth is what the hold of that sum in a sandbox is worth. -/
noncomputable def Tryd.pinned : Pinned := { name := "ytjokheeegcilhaadoor", sum := "e422f591da47598bf1fcc444d9f68001430dfc8d5db2ac43ebcb27f796d3bbff", checked := Tryd.checked }
namespace Rows
def none {H : Type} : Left H := { results := [], args := [] }

/- WHAT THE LISTED PACKAGE-LEVEL VARIABLES READ AS WHEN THE CALL BEGINS. Each datum BY PROGRAM (the guide's laid-datum.mjs) off the statement by which the dump's own 'gosem.cut.vars' lays the variable. In a bare row this is a premise. The card (YtjokheeegcilhaaDoorCards.lean) ties it to the program's text. -/
def laid_math_bits_deBruijn32tab {H : Type} : DataW H := .agg [.lit (.int .u8 0), .lit (.int .u8 1), .lit (.int .u8 28), .lit (.int .u8 2), .lit (.int .u8 29), .lit (.int .u8 14), .lit (.int .u8 24), .lit (.int .u8 3), .lit (.int .u8 30), .lit (.int .u8 22), .lit (.int .u8 20), .lit (.int .u8 15), .lit (.int .u8 25), .lit (.int .u8 17), .lit (.int .u8 4), .lit (.int .u8 8), .lit (.int .u8 31), .lit (.int .u8 27), .lit (.int .u8 13), .lit (.int .u8 23), .lit (.int .u8 21), .lit (.int .u8 19), .lit (.int .u8 16), .lit (.int .u8 7), .lit (.int .u8 26), .lit (.int .u8 12), .lit (.int .u8 18), .lit (.int .u8 6), .lit (.int .u8 11), .lit (.int .u8 5), .lit (.int .u8 10), .lit (.int .u8 9)]

/-- 'firnlaw02.ConeLayer': WHATEVER THE INPUT: true; the input reads as it did. -/
def coneLayerSpec : ChangeSpec := { name := "coneLayer", fn := fun _ => fun
  | [d1, d2] => { results := [.lit (.bool true)], args := [d1, d2] }
  | _ => none }
def coneLayerRow : OpenClaim := { program := "ytjokheeegcilhaadoor", sum := "e422f591da47598bf1fcc444d9f68001430dfc8d5db2ac43ebcb27f796d3bbff", func := "firn/firnlaw02.ConeLayer", spec := "coneLayer", unfollowed := true, recurses := true, named := ["math/bits.deBruijn32tab"], plainKeys := false, apart := false, laid := [("math/bits.deBruijn32tab", laid_math_bits_deBruijn32tab)] }
def ConeLayerSaid : Prop := coneLayerRow.holds Tryd.pinned (OpenSpec.ofChange coneLayerSpec)

/-- ITS FALSE NEIGHBOUR: 'it returns false'. Refute it at one input. -/
def coneLayerWrong : ChangeSpec := { name := "coneLayer", fn := fun _ => fun
  | [d1, d2] => { results := [.lit (.bool false)], args := [d1, d2] }
  | _ => none }
def ConeLayerWrongFalsely : Prop := coneLayerRow.holds Tryd.pinned (OpenSpec.ofChange coneLayerWrong)

/-- 'firnlaw02.ConeBefores': WHATEVER THE INPUT: true; the input reads as it did. -/
def coneBeforesSpec : ChangeSpec := { name := "coneBefores", fn := fun _ => fun
  | [d1, d2, d3] => { results := [.lit (.bool true)], args := [d1, d2, d3] }
  | _ => none }
def coneBeforesRow : OpenClaim := { program := "ytjokheeegcilhaadoor", sum := "e422f591da47598bf1fcc444d9f68001430dfc8d5db2ac43ebcb27f796d3bbff", func := "firn/firnlaw02.ConeBefores", spec := "coneBefores", unfollowed := true, recurses := true, named := ["math/bits.deBruijn32tab"], plainKeys := false, apart := false, laid := [("math/bits.deBruijn32tab", laid_math_bits_deBruijn32tab)] }
def ConeBeforesSaid : Prop := coneBeforesRow.holds Tryd.pinned (OpenSpec.ofChange coneBeforesSpec)

/-- ITS FALSE NEIGHBOUR: 'it returns false'. Refute it at one input. -/
def coneBeforesWrong : ChangeSpec := { name := "coneBefores", fn := fun _ => fun
  | [d1, d2, d3] => { results := [.lit (.bool false)], args := [d1, d2, d3] }
  | _ => none }
def ConeBeforesWrongFalsely : Prop := coneBeforesRow.holds Tryd.pinned (OpenSpec.ofChange coneBeforesWrong)

/-- 'firnlaw02.ConeOrders': WHATEVER THE INPUT: true; the input reads as it did. -/
def coneOrdersSpec : ChangeSpec := { name := "coneOrders", fn := fun _ => fun
  | [d1, d2] => { results := [.lit (.bool true)], args := [d1, d2] }
  | _ => none }
def coneOrdersRow : OpenClaim := { program := "ytjokheeegcilhaadoor", sum := "e422f591da47598bf1fcc444d9f68001430dfc8d5db2ac43ebcb27f796d3bbff", func := "firn/firnlaw02.ConeOrders", spec := "coneOrders", unfollowed := true, recurses := true, named := ["math/bits.deBruijn32tab"], plainKeys := false, apart := false, laid := [("math/bits.deBruijn32tab", laid_math_bits_deBruijn32tab)] }
def ConeOrdersSaid : Prop := coneOrdersRow.holds Tryd.pinned (OpenSpec.ofChange coneOrdersSpec)

/-- ITS FALSE NEIGHBOUR: 'it returns false'. Refute it at one input. -/
def coneOrdersWrong : ChangeSpec := { name := "coneOrders", fn := fun _ => fun
  | [d1, d2] => { results := [.lit (.bool false)], args := [d1, d2] }
  | _ => none }
def ConeOrdersWrongFalsely : Prop := coneOrdersRow.holds Tryd.pinned (OpenSpec.ofChange coneOrdersWrong)

/-- 'firnlaw02.ConeMoves': WHATEVER THE INPUT: true; the input reads as it did. -/
def coneMovesSpec : ChangeSpec := { name := "coneMoves", fn := fun _ => fun
  | [d1, d2, d3] => { results := [.lit (.bool true)], args := [d1, d2, d3] }
  | _ => none }
def coneMovesRow : OpenClaim := { program := "ytjokheeegcilhaadoor", sum := "e422f591da47598bf1fcc444d9f68001430dfc8d5db2ac43ebcb27f796d3bbff", func := "firn/firnlaw02.ConeMoves", spec := "coneMoves", unfollowed := true, recurses := true, named := ["math/bits.deBruijn32tab"], plainKeys := false, apart := false, laid := [("math/bits.deBruijn32tab", laid_math_bits_deBruijn32tab)] }
def ConeMovesSaid : Prop := coneMovesRow.holds Tryd.pinned (OpenSpec.ofChange coneMovesSpec)

/-- ITS FALSE NEIGHBOUR: 'it returns false'. Refute it at one input. -/
def coneMovesWrong : ChangeSpec := { name := "coneMoves", fn := fun _ => fun
  | [d1, d2, d3] => { results := [.lit (.bool false)], args := [d1, d2, d3] }
  | _ => none }
def ConeMovesWrongFalsely : Prop := coneMovesRow.holds Tryd.pinned (OpenSpec.ofChange coneMovesWrong)

/-- 'firnlaw02.ConeLayers': WHATEVER THE INPUT: true; the input reads as it did. -/
def coneLayersSpec : ChangeSpec := { name := "coneLayers", fn := fun _ => fun
  | [d1, d2] => { results := [.lit (.bool true)], args := [d1, d2] }
  | _ => none }
def coneLayersRow : OpenClaim := { program := "ytjokheeegcilhaadoor", sum := "e422f591da47598bf1fcc444d9f68001430dfc8d5db2ac43ebcb27f796d3bbff", func := "firn/firnlaw02.ConeLayers", spec := "coneLayers", unfollowed := true, recurses := true, named := ["math/bits.deBruijn32tab"], plainKeys := false, apart := false, laid := [("math/bits.deBruijn32tab", laid_math_bits_deBruijn32tab)] }
def ConeLayersSaid : Prop := coneLayersRow.holds Tryd.pinned (OpenSpec.ofChange coneLayersSpec)

/-- ITS FALSE NEIGHBOUR: 'it returns false'. Refute it at one input. -/
def coneLayersWrong : ChangeSpec := { name := "coneLayers", fn := fun _ => fun
  | [d1, d2] => { results := [.lit (.bool false)], args := [d1, d2] }
  | _ => none }
def ConeLayersWrongFalsely : Prop := coneLayersRow.holds Tryd.pinned (OpenSpec.ofChange coneLayersWrong)

/-- 'firnlaw02.ConeThreads': WHATEVER THE INPUT: true; the input reads as it did. -/
def coneThreadsSpec : ChangeSpec := { name := "coneThreads", fn := fun _ => fun
  | [d1, d2] => { results := [.lit (.bool true)], args := [d1, d2] }
  | _ => none }
def coneThreadsRow : OpenClaim := { program := "ytjokheeegcilhaadoor", sum := "e422f591da47598bf1fcc444d9f68001430dfc8d5db2ac43ebcb27f796d3bbff", func := "firn/firnlaw02.ConeThreads", spec := "coneThreads", unfollowed := true, recurses := true, named := ["math/bits.deBruijn32tab"], plainKeys := false, apart := false, laid := [("math/bits.deBruijn32tab", laid_math_bits_deBruijn32tab)] }
def ConeThreadsSaid : Prop := coneThreadsRow.holds Tryd.pinned (OpenSpec.ofChange coneThreadsSpec)

/-- ITS FALSE NEIGHBOUR: 'it returns false'. Refute it at one input. -/
def coneThreadsWrong : ChangeSpec := { name := "coneThreads", fn := fun _ => fun
  | [d1, d2] => { results := [.lit (.bool false)], args := [d1, d2] }
  | _ => none }
def ConeThreadsWrongFalsely : Prop := coneThreadsRow.holds Tryd.pinned (OpenSpec.ofChange coneThreadsWrong)

/-- 'firntop.TopCone': WHATEVER THE INPUT: true; the input reads as it did. -/
def topConeSpec : ChangeSpec := { name := "topCone", fn := fun _ => fun
  | [d1, d2, d3] => { results := [.lit (.bool true)], args := [d1, d2, d3] }
  | _ => none }
def topConeRow : OpenClaim := { program := "ytjokheeegcilhaadoor", sum := "e422f591da47598bf1fcc444d9f68001430dfc8d5db2ac43ebcb27f796d3bbff", func := "firn/firntop.TopCone", spec := "topCone", unfollowed := true, recurses := true, named := ["math/bits.deBruijn32tab"], plainKeys := false, apart := false, laid := [("math/bits.deBruijn32tab", laid_math_bits_deBruijn32tab)] }
def TopConeSaid : Prop := topConeRow.holds Tryd.pinned (OpenSpec.ofChange topConeSpec)

/-- ITS FALSE NEIGHBOUR: 'it returns false'. Refute it at one input. -/
def topConeWrong : ChangeSpec := { name := "topCone", fn := fun _ => fun
  | [d1, d2, d3] => { results := [.lit (.bool false)], args := [d1, d2, d3] }
  | _ => none }
def TopConeWrongFalsely : Prop := topConeRow.holds Tryd.pinned (OpenSpec.ofChange topConeWrong)

/-- 'firnlaw02.ConeBoth': WHATEVER THE INPUT: true; the input reads as it did. -/
def coneBothSpec : ChangeSpec := { name := "coneBoth", fn := fun _ => fun
  | [d1, d2, d3] => { results := [.lit (.bool true)], args := [d1, d2, d3] }
  | _ => none }
def coneBothRow : OpenClaim := { program := "ytjokheeegcilhaadoor", sum := "e422f591da47598bf1fcc444d9f68001430dfc8d5db2ac43ebcb27f796d3bbff", func := "firn/firnlaw02.ConeBoth", spec := "coneBoth", unfollowed := true, recurses := true, named := ["math/bits.deBruijn32tab"], plainKeys := false, apart := false, laid := [("math/bits.deBruijn32tab", laid_math_bits_deBruijn32tab)] }
def ConeBothSaid : Prop := coneBothRow.holds Tryd.pinned (OpenSpec.ofChange coneBothSpec)

/-- ITS FALSE NEIGHBOUR: 'it returns false'. Refute it at one input. -/
def coneBothWrong : ChangeSpec := { name := "coneBoth", fn := fun _ => fun
  | [d1, d2, d3] => { results := [.lit (.bool false)], args := [d1, d2, d3] }
  | _ => none }
def ConeBothWrongFalsely : Prop := coneBothRow.holds Tryd.pinned (OpenSpec.ofChange coneBothWrong)

/-- 'firnlaw02.ConeTriggers': WHATEVER THE INPUT: true; the input reads as it did. -/
def coneTriggersSpec : ChangeSpec := { name := "coneTriggers", fn := fun _ => fun
  | [d1, d2, d3] => { results := [.lit (.bool true)], args := [d1, d2, d3] }
  | _ => none }
def coneTriggersRow : OpenClaim := { program := "ytjokheeegcilhaadoor", sum := "e422f591da47598bf1fcc444d9f68001430dfc8d5db2ac43ebcb27f796d3bbff", func := "firn/firnlaw02.ConeTriggers", spec := "coneTriggers", unfollowed := true, recurses := true, named := ["math/bits.deBruijn32tab"], plainKeys := false, apart := false, laid := [("math/bits.deBruijn32tab", laid_math_bits_deBruijn32tab)] }
def ConeTriggersSaid : Prop := coneTriggersRow.holds Tryd.pinned (OpenSpec.ofChange coneTriggersSpec)

/-- ITS FALSE NEIGHBOUR: 'it returns false'. Refute it at one input. -/
def coneTriggersWrong : ChangeSpec := { name := "coneTriggers", fn := fun _ => fun
  | [d1, d2, d3] => { results := [.lit (.bool false)], args := [d1, d2, d3] }
  | _ => none }
def ConeTriggersWrongFalsely : Prop := coneTriggersRow.holds Tryd.pinned (OpenSpec.ofChange coneTriggersWrong)

/-- 'firnlaw02.ConeTimes': WHATEVER THE INPUT: true; the input reads as it did. -/
def coneTimesSpec : ChangeSpec := { name := "coneTimes", fn := fun _ => fun
  | [d1, d2, d3] => { results := [.lit (.bool true)], args := [d1, d2, d3] }
  | _ => none }
def coneTimesRow : OpenClaim := { program := "ytjokheeegcilhaadoor", sum := "e422f591da47598bf1fcc444d9f68001430dfc8d5db2ac43ebcb27f796d3bbff", func := "firn/firnlaw02.ConeTimes", spec := "coneTimes", unfollowed := true, recurses := true, named := ["math/bits.deBruijn32tab"], plainKeys := false, apart := false, laid := [("math/bits.deBruijn32tab", laid_math_bits_deBruijn32tab)] }
def ConeTimesSaid : Prop := coneTimesRow.holds Tryd.pinned (OpenSpec.ofChange coneTimesSpec)

/-- ITS FALSE NEIGHBOUR: 'it returns false'. Refute it at one input. -/
def coneTimesWrong : ChangeSpec := { name := "coneTimes", fn := fun _ => fun
  | [d1, d2, d3] => { results := [.lit (.bool false)], args := [d1, d2, d3] }
  | _ => none }
def ConeTimesWrongFalsely : Prop := coneTimesRow.holds Tryd.pinned (OpenSpec.ofChange coneTimesWrong)

/-- 'firnlaw02.ConeChains': WHATEVER THE INPUT: true; the input reads as it did. -/
def coneChainsSpec : ChangeSpec := { name := "coneChains", fn := fun _ => fun
  | [d1, d2] => { results := [.lit (.bool true)], args := [d1, d2] }
  | _ => none }
def coneChainsRow : OpenClaim := { program := "ytjokheeegcilhaadoor", sum := "e422f591da47598bf1fcc444d9f68001430dfc8d5db2ac43ebcb27f796d3bbff", func := "firn/firnlaw02.ConeChains", spec := "coneChains", unfollowed := true, recurses := true, named := ["math/bits.deBruijn32tab"], plainKeys := false, apart := false, laid := [("math/bits.deBruijn32tab", laid_math_bits_deBruijn32tab)] }
def ConeChainsSaid : Prop := coneChainsRow.holds Tryd.pinned (OpenSpec.ofChange coneChainsSpec)

/-- ITS FALSE NEIGHBOUR: 'it returns false'. Refute it at one input. -/
def coneChainsWrong : ChangeSpec := { name := "coneChains", fn := fun _ => fun
  | [d1, d2] => { results := [.lit (.bool false)], args := [d1, d2] }
  | _ => none }
def ConeChainsWrongFalsely : Prop := coneChainsRow.holds Tryd.pinned (OpenSpec.ofChange coneChainsWrong)

/-- 'firnlaw02.ConeTurns': WHATEVER THE INPUT: true; the input reads as it did. -/
def coneTurnsSpec : ChangeSpec := { name := "coneTurns", fn := fun _ => fun
  | [d1, d2, d3] => { results := [.lit (.bool true)], args := [d1, d2, d3] }
  | _ => none }
def coneTurnsRow : OpenClaim := { program := "ytjokheeegcilhaadoor", sum := "e422f591da47598bf1fcc444d9f68001430dfc8d5db2ac43ebcb27f796d3bbff", func := "firn/firnlaw02.ConeTurns", spec := "coneTurns", unfollowed := true, recurses := true, named := ["math/bits.deBruijn32tab"], plainKeys := false, apart := false, laid := [("math/bits.deBruijn32tab", laid_math_bits_deBruijn32tab)] }
def ConeTurnsSaid : Prop := coneTurnsRow.holds Tryd.pinned (OpenSpec.ofChange coneTurnsSpec)

/-- ITS FALSE NEIGHBOUR: 'it returns false'. Refute it at one input. -/
def coneTurnsWrong : ChangeSpec := { name := "coneTurns", fn := fun _ => fun
  | [d1, d2, d3] => { results := [.lit (.bool false)], args := [d1, d2, d3] }
  | _ => none }
def ConeTurnsWrongFalsely : Prop := coneTurnsRow.holds Tryd.pinned (OpenSpec.ofChange coneTurnsWrong)

/- THE SECOND FORM. 'bulk': how many values and letters a reading holds, each counted each time it is reached (what is shared counts as often as it is met; a slice's spare places count too). A statement '..UptoSaid' is the law's where the arguments, and the package variables that the reading takes, are together of bulk at most 1048576: NARROWER than '..Said'. Prove '..Said' where nothing that the law and all that it calls make is longer than what came in: it says more and counts as full. Else prove '..UptoSaid'. A law counts once. -/
mutual
def uptoBulk {H : Type} : DataW H → Nat
  | .lit (.string bytes) => bytes.length + 1
  | .lit _ => 1
  | .nil => 1
  | .ptr d => uptoBulk d + 1
  | .slice elems spare => uptoBulkAll elems + uptoBulkAll spare + 1
  | .agg parts => uptoBulkAll parts + 1
  | .iface _ d => uptoBulk d + 1
  | .map entries => uptoBulkEntries entries + 1
  | .held _ => 1
def uptoBulkAll {H : Type} : List (DataW H) → Nat
  | [] => 0
  | d :: r => uptoBulk d + uptoBulkAll r
def uptoBulkEntries {H : Type} : List (Lit × DataW H) → Nat
  | [] => 0
  | x :: r => uptoBulkEntry x + uptoBulkEntries r
def uptoBulkEntry {H : Type} : Lit × DataW H → Nat
  | (.string bytes, d) => bytes.length + uptoBulk d + 1
  | (_, d) => uptoBulk d + 1
 end
def uptoSmall : (H : Type) → List (DataW H) → Bool := fun _ ds => decide (uptoBulkAll ds ≤ 1048576)
def OpenSpec.upto (s : _root_.Go.ChangeSpec) : _root_.Go.OpenSpec := { _root_.Go.OpenSpec.ofChange s with cond := some uptoSmall }

/-- 'firnlaw02.ConeLayer', WHERE WHAT IT READS IS OF BULK AT MOST 1048576: true; the input reads as it did. -/
def coneLayerUptoRow : OpenClaim := { program := "ytjokheeegcilhaadoor", sum := "e422f591da47598bf1fcc444d9f68001430dfc8d5db2ac43ebcb27f796d3bbff", func := "firn/firnlaw02.ConeLayer", spec := "coneLayer", unfollowed := true, recurses := true, named := ["math/bits.deBruijn32tab"], plainKeys := false, apart := false, laid := [("math/bits.deBruijn32tab", laid_math_bits_deBruijn32tab)], narrowed := true }
def ConeLayerUptoSaid : Prop := coneLayerUptoRow.holds Tryd.pinned (OpenSpec.upto coneLayerSpec)

/-- 'firnlaw02.ConeBefores', WHERE WHAT IT READS IS OF BULK AT MOST 1048576: true; the input reads as it did. -/
def coneBeforesUptoRow : OpenClaim := { program := "ytjokheeegcilhaadoor", sum := "e422f591da47598bf1fcc444d9f68001430dfc8d5db2ac43ebcb27f796d3bbff", func := "firn/firnlaw02.ConeBefores", spec := "coneBefores", unfollowed := true, recurses := true, named := ["math/bits.deBruijn32tab"], plainKeys := false, apart := false, laid := [("math/bits.deBruijn32tab", laid_math_bits_deBruijn32tab)], narrowed := true }
def ConeBeforesUptoSaid : Prop := coneBeforesUptoRow.holds Tryd.pinned (OpenSpec.upto coneBeforesSpec)

/-- 'firnlaw02.ConeOrders', WHERE WHAT IT READS IS OF BULK AT MOST 1048576: true; the input reads as it did. -/
def coneOrdersUptoRow : OpenClaim := { program := "ytjokheeegcilhaadoor", sum := "e422f591da47598bf1fcc444d9f68001430dfc8d5db2ac43ebcb27f796d3bbff", func := "firn/firnlaw02.ConeOrders", spec := "coneOrders", unfollowed := true, recurses := true, named := ["math/bits.deBruijn32tab"], plainKeys := false, apart := false, laid := [("math/bits.deBruijn32tab", laid_math_bits_deBruijn32tab)], narrowed := true }
def ConeOrdersUptoSaid : Prop := coneOrdersUptoRow.holds Tryd.pinned (OpenSpec.upto coneOrdersSpec)

/-- 'firnlaw02.ConeMoves', WHERE WHAT IT READS IS OF BULK AT MOST 1048576: true; the input reads as it did. -/
def coneMovesUptoRow : OpenClaim := { program := "ytjokheeegcilhaadoor", sum := "e422f591da47598bf1fcc444d9f68001430dfc8d5db2ac43ebcb27f796d3bbff", func := "firn/firnlaw02.ConeMoves", spec := "coneMoves", unfollowed := true, recurses := true, named := ["math/bits.deBruijn32tab"], plainKeys := false, apart := false, laid := [("math/bits.deBruijn32tab", laid_math_bits_deBruijn32tab)], narrowed := true }
def ConeMovesUptoSaid : Prop := coneMovesUptoRow.holds Tryd.pinned (OpenSpec.upto coneMovesSpec)

/-- 'firnlaw02.ConeLayers', WHERE WHAT IT READS IS OF BULK AT MOST 1048576: true; the input reads as it did. -/
def coneLayersUptoRow : OpenClaim := { program := "ytjokheeegcilhaadoor", sum := "e422f591da47598bf1fcc444d9f68001430dfc8d5db2ac43ebcb27f796d3bbff", func := "firn/firnlaw02.ConeLayers", spec := "coneLayers", unfollowed := true, recurses := true, named := ["math/bits.deBruijn32tab"], plainKeys := false, apart := false, laid := [("math/bits.deBruijn32tab", laid_math_bits_deBruijn32tab)], narrowed := true }
def ConeLayersUptoSaid : Prop := coneLayersUptoRow.holds Tryd.pinned (OpenSpec.upto coneLayersSpec)

/-- 'firnlaw02.ConeThreads', WHERE WHAT IT READS IS OF BULK AT MOST 1048576: true; the input reads as it did. -/
def coneThreadsUptoRow : OpenClaim := { program := "ytjokheeegcilhaadoor", sum := "e422f591da47598bf1fcc444d9f68001430dfc8d5db2ac43ebcb27f796d3bbff", func := "firn/firnlaw02.ConeThreads", spec := "coneThreads", unfollowed := true, recurses := true, named := ["math/bits.deBruijn32tab"], plainKeys := false, apart := false, laid := [("math/bits.deBruijn32tab", laid_math_bits_deBruijn32tab)], narrowed := true }
def ConeThreadsUptoSaid : Prop := coneThreadsUptoRow.holds Tryd.pinned (OpenSpec.upto coneThreadsSpec)

/-- 'firntop.TopCone', WHERE WHAT IT READS IS OF BULK AT MOST 1048576: true; the input reads as it did. -/
def topConeUptoRow : OpenClaim := { program := "ytjokheeegcilhaadoor", sum := "e422f591da47598bf1fcc444d9f68001430dfc8d5db2ac43ebcb27f796d3bbff", func := "firn/firntop.TopCone", spec := "topCone", unfollowed := true, recurses := true, named := ["math/bits.deBruijn32tab"], plainKeys := false, apart := false, laid := [("math/bits.deBruijn32tab", laid_math_bits_deBruijn32tab)], narrowed := true }
def TopConeUptoSaid : Prop := topConeUptoRow.holds Tryd.pinned (OpenSpec.upto topConeSpec)

/-- 'firnlaw02.ConeBoth', WHERE WHAT IT READS IS OF BULK AT MOST 1048576: true; the input reads as it did. -/
def coneBothUptoRow : OpenClaim := { program := "ytjokheeegcilhaadoor", sum := "e422f591da47598bf1fcc444d9f68001430dfc8d5db2ac43ebcb27f796d3bbff", func := "firn/firnlaw02.ConeBoth", spec := "coneBoth", unfollowed := true, recurses := true, named := ["math/bits.deBruijn32tab"], plainKeys := false, apart := false, laid := [("math/bits.deBruijn32tab", laid_math_bits_deBruijn32tab)], narrowed := true }
def ConeBothUptoSaid : Prop := coneBothUptoRow.holds Tryd.pinned (OpenSpec.upto coneBothSpec)

/-- 'firnlaw02.ConeTriggers', WHERE WHAT IT READS IS OF BULK AT MOST 1048576: true; the input reads as it did. -/
def coneTriggersUptoRow : OpenClaim := { program := "ytjokheeegcilhaadoor", sum := "e422f591da47598bf1fcc444d9f68001430dfc8d5db2ac43ebcb27f796d3bbff", func := "firn/firnlaw02.ConeTriggers", spec := "coneTriggers", unfollowed := true, recurses := true, named := ["math/bits.deBruijn32tab"], plainKeys := false, apart := false, laid := [("math/bits.deBruijn32tab", laid_math_bits_deBruijn32tab)], narrowed := true }
def ConeTriggersUptoSaid : Prop := coneTriggersUptoRow.holds Tryd.pinned (OpenSpec.upto coneTriggersSpec)

/-- 'firnlaw02.ConeTimes', WHERE WHAT IT READS IS OF BULK AT MOST 1048576: true; the input reads as it did. -/
def coneTimesUptoRow : OpenClaim := { program := "ytjokheeegcilhaadoor", sum := "e422f591da47598bf1fcc444d9f68001430dfc8d5db2ac43ebcb27f796d3bbff", func := "firn/firnlaw02.ConeTimes", spec := "coneTimes", unfollowed := true, recurses := true, named := ["math/bits.deBruijn32tab"], plainKeys := false, apart := false, laid := [("math/bits.deBruijn32tab", laid_math_bits_deBruijn32tab)], narrowed := true }
def ConeTimesUptoSaid : Prop := coneTimesUptoRow.holds Tryd.pinned (OpenSpec.upto coneTimesSpec)

/-- 'firnlaw02.ConeChains', WHERE WHAT IT READS IS OF BULK AT MOST 1048576: true; the input reads as it did. -/
def coneChainsUptoRow : OpenClaim := { program := "ytjokheeegcilhaadoor", sum := "e422f591da47598bf1fcc444d9f68001430dfc8d5db2ac43ebcb27f796d3bbff", func := "firn/firnlaw02.ConeChains", spec := "coneChains", unfollowed := true, recurses := true, named := ["math/bits.deBruijn32tab"], plainKeys := false, apart := false, laid := [("math/bits.deBruijn32tab", laid_math_bits_deBruijn32tab)], narrowed := true }
def ConeChainsUptoSaid : Prop := coneChainsUptoRow.holds Tryd.pinned (OpenSpec.upto coneChainsSpec)

/-- 'firnlaw02.ConeTurns', WHERE WHAT IT READS IS OF BULK AT MOST 1048576: true; the input reads as it did. -/
def coneTurnsUptoRow : OpenClaim := { program := "ytjokheeegcilhaadoor", sum := "e422f591da47598bf1fcc444d9f68001430dfc8d5db2ac43ebcb27f796d3bbff", func := "firn/firnlaw02.ConeTurns", spec := "coneTurns", unfollowed := true, recurses := true, named := ["math/bits.deBruijn32tab"], plainKeys := false, apart := false, laid := [("math/bits.deBruijn32tab", laid_math_bits_deBruijn32tab)], narrowed := true }
def ConeTurnsUptoSaid : Prop := coneTurnsUptoRow.holds Tryd.pinned (OpenSpec.upto coneTurnsSpec)

end Rows
end Go.Proofs.YtjokheeegcilhaaDoor
