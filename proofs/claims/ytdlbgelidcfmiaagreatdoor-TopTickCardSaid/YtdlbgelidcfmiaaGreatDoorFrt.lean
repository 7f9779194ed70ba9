/- What the law of texts needs of its row: the listed table and the two error values in every world that holds them, and a world for the witness. -/
import Derived.Test.YtdlbgelidcfmiaaGreatDoorTU
import Derived.Test.YtdlbgelidcfmiaaGreatDoorCards
import Derived.Test.YtdlbgelidcfmiaaGreatDoorTie
import Derived.ProofKit
import Derived.OpenShut
import Derived.ShutString
import Derived.ChangeOld
import Derived.Below
import Derived.Deep.DeepHandedRow
import Derived.Lib.LaidTab
import Derived.Stop.LaidErr
import Derived.LaidSub
namespace Go.Proofs.YtdlbgelidcfmiaaGreatDoor
open Go.ChangeShapes Go.WideShapes Go.ChangeAt Go.RowKit Go.Firn

theorem own : ownKnob Tryz.prog.godebug = none := by kernel_rfl
theorem laidOut : laidOutB Tryz.prog = true := by kernel_rfl
/-- A block filled with bytes. -/
def fillObj (zs : List Nat) : Obj → Obj
  | .cells _ t frozen => .cells (zs.map fun x : Nat => Value.int .u8 (x : Int)).toArray t frozen
  | o => o
def accZ : List Nat := [128, 191, 160, 191, 128, 159, 144, 191, 128, 143]
theorem gPow : Tryz.prog.globalNamed "internal/strconv.uint64pow10" = some 5 := by kernel_rfl
theorem gPowType : (Tryz.prog.globals[5]?).map (·.type) = some 167 := by kernel_rfl
theorem gES : Tryz.prog.globalNamed "strconv.ErrSyntax" = some 1 := by kernel_rfl
theorem gESType : (Tryz.prog.globals[1]?).map (·.type) = some 71 := by kernel_rfl
theorem gER : Tryz.prog.globalNamed "strconv.ErrRange" = some 2 := by kernel_rfl
theorem gERType : (Tryz.prog.globals[2]?).map (·.type) = some 71 := by kernel_rfl
theorem cells167 : Tryz.prog.cellsOf 167 = 20 := by kernel_rfl
theorem cells96 : Tryz.prog.cellsOf 96 = 1 := by kernel_rfl
theorem cells162 : Tryz.prog.cellsOf 162 = 1 := by kernel_rfl
theorem cells9 : Tryz.prog.cellsOf 9 = 1 := by kernel_rfl
theorem starE : "*" ++ "errors.errorString" = "*errors.errorString" := by decide
theorem row160 (u : TypeId) (h : Tryz.prog.typeName? 3 u = some "*errors.errorString") : u = 160 :=
  typeName_ptr_named (nm := "errors.errorString") (by rw [starE]; kernel_rfl) (by kernel_rfl) (by decide) u (by rw [starE]; exact h)
theorem pow_of {W : World} (h : laidMetH Tryz.prog Rows.topTickRow.laid W) : Pow10 W :=
  Lib.tabIs_of_head (rest := []) (zs := Lib.pow10Tab) gPow gPowType Tryz.underlying167 Tryz.underlying96 cells96 cells167 (laidMetH.filter (fun x => x.1 == "internal/strconv.uint64pow10") h)
theorem errs_of {W : World} (h : laidMetH Tryz.prog Rows.topTickRow.laid W) : Errs W := by
  obtain ⟨a0, s0, hv0, -, -, -⟩ := laid_sentinel (r := []) (laidMetH.filter (fun x => x.1 == "strconv.ErrSyntax") h) gES gESType Tryz.underlying71 row160 Tryz.underlying160 Tryz.underlying162 rfl rfl Tryz.underlying9 cells162 cells9
  obtain ⟨a1, s1, hv1, -, -, -⟩ := laid_sentinel (r := []) (laidMetH.filter (fun x => x.1 == "strconv.ErrRange") h) gER gERType Tryz.underlying71 row160 Tryz.underlying160 Tryz.underlying162 rfl rfl Tryz.underlying9 cells162 cells9
  rintro g (rfl | rfl)
  · exact ⟨_, by have h0 := World.var?_cell gES hv0 0; simpa using h0, .inr ⟨_, _, rfl⟩⟩
  · exact ⟨_, by have h0 := World.var?_cell gER hv1 0; simpa using h0, .inr ⟨_, _, rfl⟩⟩

/-- A world for the witness. -/
abbrev textES : ByteArray := { data := #[105, 110, 118, 97, 108, 105, 100, 32, 115, 121, 110, 116, 97, 120] }
abbrev textER : ByteArray := { data := #[118, 97, 108, 117, 101, 32, 111, 117, 116, 32, 111, 102, 32, 114, 97, 110, 103, 101] }
noncomputable def low : Nat := (World.holding Tryz.prog default ⟨#[], #[], []⟩).heap.size
def db32 : List Nat := [0, 1, 28, 2, 29, 14, 24, 3, 30, 22, 20, 15, 25, 17, 4, 8, 31, 27, 13, 23, 21, 19, 16, 7, 26, 12, 18, 6, 11, 5, 10, 9]
def db64 : List Nat := [0, 1, 56, 2, 57, 49, 28, 3, 61, 58, 42, 50, 38, 29, 17, 4, 62, 47, 59, 36, 45, 43, 51, 22, 53, 39, 33, 30, 24, 18, 12, 5, 63, 55, 48, 27, 60, 41, 37, 16, 46, 35, 44, 21, 52, 32, 23, 11, 54, 26, 40, 15, 34, 20, 31, 10, 25, 14, 19, 9, 13, 8, 7, 6]
def fillU64 (zs : List Int) : Obj → Obj
  | .cells _ t frozen => .cells (zs.map fun x => Value.int .u64 x).toArray t frozen
  | o => o
def fillErr (b : Nat) : Obj → Obj
  | .cells _ t frozen => .cells #[.iface 160 (.pointer (some ⟨b, 0, none⟩))] t frozen
  | o => o
noncomputable def laidWorldT (os : Os) : World :=
  let w0 := World.holding Tryz.prog os ⟨#[.cells #[.string textES] 162, .cells #[.string textER] 162], #[], []⟩
  { w0 with heap := ((((((w0.heap.modify 3 (fillObj Go.Pinned.utf8FirstZ)).modify 4 (fillObj (accZ ++ List.replicate 22 0))).modify 1 (fillErr low)).modify 2 (fillErr (low + 1))).modify 5 (fillU64 Lib.pow10Tab)).modify 6 (fillObj db32)).modify 7 (fillObj db64) }
end Go.Proofs.YtdlbgelidcfmiaaGreatDoor
