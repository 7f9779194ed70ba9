/- What the law of texts needs of its row: the listed table and the two error values in every world that holds them, and a world for the witness. -/
import Derived.Test.YtdlbgelidcfmiaaDoorTE
import Derived.Test.YtdlbgelidcfmiaaDoorCards
import Derived.Test.YtdlbgelidcfmiaaDoorTie
import Derived.ProofKit
import Derived.OpenShut
import Derived.ShutString
import Derived.ChangeOld
import Derived.Below
import Derived.Deep.DeepHandedRow
import Derived.Lib.LaidTab
import Derived.Stop.LaidErr
import Derived.LaidSub
namespace Go.Proofs.YtdlbgelidcfmiaaDoor
open Go.ChangeShapes Go.WideShapes Go.ChangeAt Go.RowKit Go.Firn

theorem own : ownKnob Tryd.prog.godebug = none := by kernel_rfl
theorem laidOut : laidOutB Tryd.prog = true := by kernel_rfl
/-- A block filled with bytes. -/
def fillObj (zs : List Nat) : Obj → Obj
  | .cells _ t frozen => .cells (zs.map fun x : Nat => Value.int .u8 (x : Int)).toArray t frozen
  | o => o
def accZ : List Nat := [128, 191, 160, 191, 128, 159, 144, 191, 128, 143]
theorem gPow : Tryd.prog.globalNamed "internal/strconv.uint64pow10" = some 5 := by kernel_rfl
theorem gPowType : (Tryd.prog.globals[5]?).map (·.type) = some 109 := by kernel_rfl
theorem gES : Tryd.prog.globalNamed "strconv.ErrSyntax" = some 1 := by kernel_rfl
theorem gESType : (Tryd.prog.globals[1]?).map (·.type) = some 42 := by kernel_rfl
theorem gER : Tryd.prog.globalNamed "strconv.ErrRange" = some 2 := by kernel_rfl
theorem gERType : (Tryd.prog.globals[2]?).map (·.type) = some 42 := by kernel_rfl
theorem cells109 : Tryd.prog.cellsOf 109 = 20 := by kernel_rfl
theorem cells80 : Tryd.prog.cellsOf 80 = 1 := by kernel_rfl
theorem cells106 : Tryd.prog.cellsOf 106 = 1 := by kernel_rfl
theorem cells9 : Tryd.prog.cellsOf 9 = 1 := by kernel_rfl
theorem starE : "*" ++ "errors.errorString" = "*errors.errorString" := by decide
theorem row104 (u : TypeId) (h : Tryd.prog.typeName? 3 u = some "*errors.errorString") : u = 104 :=
  typeName_ptr_named (nm := "errors.errorString") (by rw [starE]; kernel_rfl) (by kernel_rfl) (by decide) u (by rw [starE]; exact h)
theorem pow_of {W : World} (h : laidMetH Tryd.prog Rows.tickTextsRow.laid W) : Pow10 W :=
  Lib.tabIs_of_head (rest := []) (zs := Lib.pow10Tab) gPow gPowType Tryd.underlying109 Tryd.underlying80 cells80 cells109 (laidMetH.filter (fun x => x.1 == "internal/strconv.uint64pow10") h)
theorem errs_of {W : World} (h : laidMetH Tryd.prog Rows.tickTextsRow.laid W) : Errs W := by
  obtain ⟨a0, s0, hv0, -, -, -⟩ := laid_sentinel (r := []) (laidMetH.filter (fun x => x.1 == "strconv.ErrSyntax") h) gES gESType Tryd.underlying42 row104 Tryd.underlying104 Tryd.underlying106 rfl rfl Tryd.underlying9 cells106 cells9
  obtain ⟨a1, s1, hv1, -, -, -⟩ := laid_sentinel (r := []) (laidMetH.filter (fun x => x.1 == "strconv.ErrRange") h) gER gERType Tryd.underlying42 row104 Tryd.underlying104 Tryd.underlying106 rfl rfl Tryd.underlying9 cells106 cells9
  rintro g (rfl | rfl)
  · exact ⟨_, by have h0 := World.var?_cell gES hv0 0; simpa using h0, .inr ⟨_, _, rfl⟩⟩
  · exact ⟨_, by have h0 := World.var?_cell gER hv1 0; simpa using h0, .inr ⟨_, _, rfl⟩⟩

/-- A world for the witness. -/
abbrev textES : ByteArray := { data := #[105, 110, 118, 97, 108, 105, 100, 32, 115, 121, 110, 116, 97, 120] }
abbrev textER : ByteArray := { data := #[118, 97, 108, 117, 101, 32, 111, 117, 116, 32, 111, 102, 32, 114, 97, 110, 103, 101] }
noncomputable def low : Nat := (World.holding Tryd.prog default ⟨#[], #[], []⟩).heap.size
def db32 : List Nat := [0, 1, 28, 2, 29, 14, 24, 3, 30, 22, 20, 15, 25, 17, 4, 8, 31, 27, 13, 23, 21, 19, 16, 7, 26, 12, 18, 6, 11, 5, 10, 9]
def db64 : List Nat := [0, 1, 56, 2, 57, 49, 28, 3, 61, 58, 42, 50, 38, 29, 17, 4, 62, 47, 59, 36, 45, 43, 51, 22, 53, 39, 33, 30, 24, 18, 12, 5, 63, 55, 48, 27, 60, 41, 37, 16, 46, 35, 44, 21, 52, 32, 23, 11, 54, 26, 40, 15, 34, 20, 31, 10, 25, 14, 19, 9, 13, 8, 7, 6]
def fillU64 (zs : List Int) : Obj → Obj
  | .cells _ t frozen => .cells (zs.map fun x => Value.int .u64 x).toArray t frozen
  | o => o
def fillErr (b : Nat) : Obj → Obj
  | .cells _ t frozen => .cells #[.iface 104 (.pointer (some ⟨b, 0, none⟩))] t frozen
  | o => o
noncomputable def laidWorldT (os : Os) : World :=
  let w0 := World.holding Tryd.prog os ⟨#[.cells #[.string textES] 106, .cells #[.string textER] 106], #[], []⟩
  { w0 with heap := ((((((w0.heap.modify 3 (fillObj Go.Pinned.utf8FirstZ)).modify 4 (fillObj (accZ ++ List.replicate 22 0))).modify 1 (fillErr low)).modify 2 (fillErr (low + 1))).modify 5 (fillU64 Lib.pow10Tab)).modify 6 (fillObj db32)).modify 7 (fillObj db64) }
set_option maxRecDepth 100000 in
theorem metT (os : Os) : laidMet Tryd.prog Rows.tickTextsRow.laid ((laidWorldT os).forCall (fun _ _ => 0) ⟨#[], #[.slice none 0 0, .string ⟨#[]⟩], []⟩).memory :=
  laidMet_of_run' 8 (by kernel_rfl) (by kernel_rfl)
end Go.Proofs.YtdlbgelidcfmiaaDoor
