/- Contracts of chapter 1: the line of the reference. -/
import Derived.Test.YtdlbgelidcfmiaaGreatDoorW14
namespace Go.Proofs.YtdlbgelidcfmiaaGreatDoor
open Go.RowKit Go.Firn

/-- Two marks. -/
def RetMM (a b c d : Int) (w : World) (e : Ending) (w' : World) : Prop := e = .returned (.tuple #[.agg #[.int .i64 a, .int .i64 b], .agg #[.int .i64 c, .int .i64 d]]) ∧ Gr w w'

end Go.Proofs.YtdlbgelidcfmiaaGreatDoor
