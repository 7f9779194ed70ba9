/- Contracts of chapter 1: Speeds, of the program and of the reference. -/
import Derived.Test.YtdlbgelidcfmiaaGreatDoorW24
import Derived.Deep.DeepCutAuto
namespace Go.Proofs.YtdlbgelidcfmiaaGreatDoor
open Go.RowKit Go.Firn

end Go.Proofs.YtdlbgelidcfmiaaGreatDoor
