import Derived.Shelf.SlicesE.Clone
import Derived.Ground.SlgnProg
import Derived.Test.YtehdemcfeoiecaaGreatDoorL00
set_option maxHeartbeats 64000000
set_option maxRecDepth 100000
namespace Go.Firn
open Go.RowKit Go.Proofs.YtehdemcfeoiecaaGreatDoor
section
variable {P : Program} {ops : Array Oper} {rest : List Oper} {o : Oper} {a : Act} {Q : Exit → Act → World → Prop}
theorem wpList_cat_prod (hgd : o.guard = none) (s x : Operand) (t e : TypeId)
  (ho : o.op = .call { callee := .builtin .append, args := #[s, x], argTypes := #[t, t] })
  (ht : P.underlying t = some (.slice e)) (hinfo : (P.info? e).map (fun i => (i.zero, i.size, i.bytes)) = some (some (.agg #[.string ⟨#[]⟩, .int .i64 0]), 2, 24))
  {w0 w : World} (v : Value) (L : SL) (hs : a.eval s = v) (hown : OwnS w0 e w v L)
  (b off n c : Nat) (F : Nat → ByteArray) (G : Nat → Int) (hx : a.eval x = .slice (some ⟨b, off, none⟩) n c) (hc : ∀ i, i < n → w.cell? ⟨b, off + i * 2, none⟩ = some (.string (F i)) ∧ w.cell? ⟨b, off + i * 2 + 1, none⟩ = some (.int .i64 (G i))) (hk : L.length + n ≤ 1000000)
  (h : ∀ v' w', OwnS w0 e w' v' (L ++ ofS F G n) → w.grownBy w' v.ownBlock → wpList P ops Q rest (a.put o.dst v') w') : wpList P ops Q (o :: rest) a w :=
 wpList_plain hgd fun _ hK => wp_cat_prod s x t e ho ht hinfo v L hs hown b off n c F G hx hc hk fun v' w' h1 h2 => hK _ _ (h v' w' h1 h2)
end
end Go.Firn
namespace Go.Firn.Tb
section
variable {D : Type}
theorem drop_get {α : Type} {T : List α} {k : Nat} {x : α} (h : T[k]? = some x) : T.drop k = x :: T.drop (k + 1) := by
 obtain ⟨hk, e⟩ := List.getElem?_eq_some_iff.1 h
 rw [List.drop_eq_getElem_cons hk, e]
end
end Go.Firn.Tb
namespace Go.Proofs.YtehdemcfeoiecaaGreatDoor
open Go.Firn Go.Firn.Tb
theorem spr_vL {c : UInt8} {L : SL} (h : vL L = true) : vL (sprL c L) = true := by
 obtain ⟨h1, h2⟩ := vL_iff.1 h
 exact vL_iff.2 ⟨VL.spr h1, spr_over h2⟩
end Go.Proofs.YtehdemcfeoiecaaGreatDoor
/-
 DERIVED: THE SHELF's CONTRACTS AT THIS DUMP, IN PLAIN WORDS (tools/lay-plain.mjs out of 'YtehdemcfeoiecaaGreatDoorShelf.lean', which tools/lay-shelf.mjs wrote): THE SAME DECLARATIONS UNDER THE SAME NAMES: 'import', 'namespace', 'open', 'def', 'theorem' AND NOTHING ELSE: no command of the shelf's: FOR A HAND-IN. Each laying: the table of numbers ('.._ren') and one theorem, a field a fact of the dump's own or the kernel's comparison; each contract: ONE APPLICATION.
-/
namespace Go.Proofs
open Go.Shelf
def Tryz.has69_ren : Go.Shelf.Ren := ⟨fun | 144 => 93 | 143 => 126 | 219 => 159 | 217 => 193 | 225 => 194 | 224 => 195 | 267 => 196 | 266 => 231 | 314 => 232 | n => n, fun | 9 => 9 | 4 => 4 | 3 => 3 | 5 => 5 | 46 => 219 | 146 => 267 | 51 => 245 | n => n, fun | 1 => 0 | n => n⟩
theorem Tryz.has69 : Go.Proofs.Lays.n144 Tryz.prog Tryz.has69_ren := {
 mixed := by kernel_rfl
 f143 := Tryz.func126.trans (congrArg some (by kernel_rfl))
 f144 := Tryz.func93.trans (congrArg some (by kernel_rfl))
 f217 := Tryz.func193.trans (congrArg some (by kernel_rfl))
 f219 := Tryz.func159.trans (congrArg some (by kernel_rfl))
 f224 := Tryz.func195.trans (congrArg some (by kernel_rfl))
 f225 := Tryz.func194.trans (congrArg some (by kernel_rfl))
 f266 := Tryz.func231.trans (congrArg some (by kernel_rfl))
 f267 := Tryz.func196.trans (congrArg some (by kernel_rfl))
 f314 := Tryz.func232.trans (congrArg some (by kernel_rfl))
 t3 := Tryz.underlying3
 a3 := Tryz.isAgg3
 z3 := Tryz.sizeOf3
 v3 := Tryz.zeroValue3
 t4 := Tryz.underlying4
 a4 := Tryz.isAgg4
 z4 := Tryz.sizeOf4
 v4 := Tryz.zeroValue4
 t5 := Tryz.underlying5
 a5 := Tryz.isAgg5
 z5 := Tryz.sizeOf5
 v5 := Tryz.zeroValue5
 t9 := Tryz.underlying9
 a9 := Tryz.isAgg9
 z9 := Tryz.sizeOf9
 v9 := Tryz.zeroValue9
 t46 := Tryz.underlying219
 a46 := Tryz.isAgg219
 z46 := Tryz.sizeOf219
 v46 := Tryz.zeroValue219
 t51 := Tryz.underlying245
 a51 := Tryz.isAgg245
 z51 := Tryz.sizeOf245
 v51 := Tryz.zeroValue245
 t146 := Tryz.underlying267
 a146 := Tryz.isAgg267
 z146 := Tryz.sizeOf267
 v146 := Tryz.zeroValue267
 g1 := by kernel_rfl }
end Go.Proofs
