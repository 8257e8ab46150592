/- PermGroup: for every input the statement returns true, and nothing that was there has changed. -/
import Derived.Test.YtkimbhmijgfhnaaPerm
namespace Go.Proofs.Ytkimbhmijgfhnaa
open Go.RowKit Go.Sl

end Go.Proofs.Ytkimbhmijgfhnaa
