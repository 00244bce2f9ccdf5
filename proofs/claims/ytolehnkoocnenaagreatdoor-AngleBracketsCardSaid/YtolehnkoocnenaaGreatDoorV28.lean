/- A part of a proof; the last text of this claim says of what. -/
import Derived.Test.YtolehnkoocnenaaGreatDoorV27
import Derived.Lib.Repeat
set_option linter.unusedVariables false
set_option linter.unusedSimpArgs false
set_option linter.unusedSectionVars false
namespace Gb
open Go Go.RowKit Go.Sx
end Gb
namespace Go.Proofs.YtolehnkoocnenaaGreatDoor.S
open Go Go.Sx Go.RowKit Gb Go.Shelf
end Go.Proofs.YtolehnkoocnenaaGreatDoor.S
namespace Gb
open Go Go.RowKit Go.Sx
end Gb
namespace Gb
open Go Go.RowKit Go.Sx
end Gb
namespace Go.Proofs.YtolehnkoocnenaaGreatDoor.S
open Go Go.Sx Go.RowKit Gb Go.Shelf
end Go.Proofs.YtolehnkoocnenaaGreatDoor.S
namespace Gb
open Go Go.RowKit Go.Sx
end Gb
namespace Go.Proofs.YtolehnkoocnenaaGreatDoor.S
open Go Go.Sx Go.RowKit Gb
variable {G : World → Prop} (hG : ∀ w w' : World, G w → Below w.heap.size w w' → G w')
include hG
end Go.Proofs.YtolehnkoocnenaaGreatDoor.S
namespace Gb
open Go Go.RowKit Go.Sx
end Gb
namespace Go.Proofs.YtolehnkoocnenaaGreatDoor.S
open Go Go.Sx Go.RowKit Gb
variable {G : World → Prop} (hG : ∀ w w' : World, G w → Below w.heap.size w w' → G w')
include hG
end Go.Proofs.YtolehnkoocnenaaGreatDoor.S
namespace Gb
open Go Go.RowKit Go.Sx
end Gb
namespace Go.Proofs.YtolehnkoocnenaaGreatDoor.S
open Go Go.Sx Go.RowKit Gb Go.Shelf
end Go.Proofs.YtolehnkoocnenaaGreatDoor.S
namespace Gb
open Go Go.RowKit Go.Sx
end Gb
namespace Go.Proofs.YtolehnkoocnenaaGreatDoor.S
open Go Go.Sx Go.RowKit Gb Go.Shelf
end Go.Proofs.YtolehnkoocnenaaGreatDoor.S
namespace Gb
open Go Go.RowKit Go.Sx
end Gb
namespace Go.Proofs.YtolehnkoocnenaaGreatDoor.S
open Go Go.Sx Go.RowKit Gb Go.Shelf
end Go.Proofs.YtolehnkoocnenaaGreatDoor.S
