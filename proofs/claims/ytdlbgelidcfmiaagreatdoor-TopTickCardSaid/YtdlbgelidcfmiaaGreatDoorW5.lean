/- Contracts of chapter 1: Counts and Readings of the reference, Readings of the program, Steps of both. -/
import Derived.Test.YtdlbgelidcfmiaaGreatDoorW4
import Derived.Deep.RegionHeld3
namespace Go.Proofs.YtdlbgelidcfmiaaGreatDoor
open Go.RowKit Go.Firn

end Go.Proofs.YtdlbgelidcfmiaaGreatDoor
