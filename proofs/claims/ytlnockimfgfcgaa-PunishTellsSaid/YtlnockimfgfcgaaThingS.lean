/-
  A thing, where the walks have no list of them.
-/
import Derived.Test.YtlnockimfgfcgaaWPt5
namespace Go.Proofs.Ytlnockimfgfcgaa
open Go.Lab
set_option maxRecDepth 10000

structure S_punish_Thing where
  f1 : Int
  f2 : Arr Int 8
  f3 : Int
  f4 : List Int
  f5 : Arr Int 8
  f6 : Int
  f7 : Arr Int 8
  f8 : List Int
  f9 : List Int

instance : Inhabited S_punish_Thing := ⟨⟨0, zA 8, 0, [], zA 8, 0, zA 8, [], []⟩⟩

end Go.Proofs.Ytlnockimfgfcgaa
