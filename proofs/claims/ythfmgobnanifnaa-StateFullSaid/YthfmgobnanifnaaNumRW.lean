/-
  Plain facts of numbers' and bytes' bytes: what the document's reader and writer come to.
-/
import Derived.Test.YthfmgobnanifnaaNumW
namespace Go.Proofs.Ythfmgobnanifnaa
open Go.Lab
set_option maxRecDepth 10000

end Go.Proofs.Ythfmgobnanifnaa
