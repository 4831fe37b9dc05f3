/-
  The walks of Check at a kind, all versions. No condition.
-/
import Derived.Test.YtmlkapmaebakbaaSchka
import Derived.Test.YtmlkapmaebakbaaSchkb
import Derived.Test.YtmlkapmaebakbaaSchkc
import Derived.Test.YtmlkapmaebakbaaSchkd
namespace Go.Proofs.Ytmlkapmaebakbaa
end Go.Proofs.Ytmlkapmaebakbaa
