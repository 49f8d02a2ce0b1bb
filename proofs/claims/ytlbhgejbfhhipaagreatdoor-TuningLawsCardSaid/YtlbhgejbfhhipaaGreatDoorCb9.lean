/- Closed facts on the statement's function, by the kernel. -/
import Derived.Test.YtlbhgejbfhhipaaGreatDoorB06
namespace Go.Proofs.YtlbhgejbfhhipaaGreatDoor
open Go Go.Am Go.Lib Go.Sp Z1 Z2 Z3 Z4 Z5 Z6
open Go.ChangeShapes Go.WideShapes Go.ChangeAt Go.RowKit
namespace lawsLaw
theorem closed : joinedFacts Tryz.pinned.checked.prog 9 Tryz.f9 (OpenSpec.ofChange Rows.tuningLawsSpec).bare Rows.tuningLawsRow = true := by kernel_rfl
end lawsLaw
end Go.Proofs.YtlbhgejbfhhipaaGreatDoor
