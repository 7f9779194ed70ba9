/- Contracts of chapter 1: Back of the reference. -/
import Derived.Test.YtdlbgelidcfmiaaGreatDoorW17
import Derived.Test.YtdlbgelidcfmiaaGreatDoorP6
import Derived.Deep.DeepCutAuto
namespace Go.Proofs.YtdlbgelidcfmiaaGreatDoor
open Go.RowKit Go.Firn

end Go.Proofs.YtdlbgelidcfmiaaGreatDoor
