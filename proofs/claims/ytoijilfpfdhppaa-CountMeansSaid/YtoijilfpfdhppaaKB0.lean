/- What the vectors' walks import besides. -/
import Derived.Test.YtoijilfpfdhppaaRows
import Derived.Test.YtoijilfpfdhppaaMp
import Derived.WalkKit
import Derived.Lib.Hide
namespace Go.Proofs.Ytoijilfpfdhppaa
end Go.Proofs.Ytoijilfpfdhppaa
