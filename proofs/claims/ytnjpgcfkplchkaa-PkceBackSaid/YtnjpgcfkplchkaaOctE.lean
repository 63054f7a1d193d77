/-
  The walks of layer 1's laws that ask no document's answer.
-/
import Derived.Test.YtnjpgcfkplchkaaOctD
import Derived.Test.YtnjpgcfkplchkaaRoom
import Derived.Lib.SlBytesConst
namespace Go.Proofs.Ytnjpgcfkplchkaa
open Go.RowKit

end Go.Proofs.Ytnjpgcfkplchkaa
