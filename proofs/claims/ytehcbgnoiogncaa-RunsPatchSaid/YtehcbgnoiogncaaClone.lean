/- slices.Clone and slices.Clip at byte slices. -/
import Derived.Test.YtehcbgnoiogncaaBase
namespace Go.Proofs.Ytehcbgnoiogncaa
open Go.RowKit

end Go.Proofs.Ytehcbgnoiogncaa
