/- Contracts of chapter 1: Readings and Steps of the program and of the reference. -/
import Derived.Test.YtdlbgelidcfmiaaDoorW5
namespace Go.Proofs.YtdlbgelidcfmiaaDoor
open Go.RowKit Go.Firn

/-- The error of a list that must be counts. -/
def errC (v : Bool) : Int := if v then 0 else 10

end Go.Proofs.YtdlbgelidcfmiaaDoor
