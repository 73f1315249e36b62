/- One feature stands for another one. What a disc and a polygon cover at each scale; which one holds which (plain geometry). Which feature stands for which, in plain words: what it covers at each scale; it is so for itself, and from one to the next. -/
import Derived.Test.YtblgdlnmabkpoaaGreatPgX
import Derived.Test.YtblgdlnmabkpoaaGreatRuI
import Derived.Test.YtblgdlnmabkpoaaGreatJoN
import Derived.Test.YtblgdlnmabkpoaaGreatSgX
set_option linter.unusedSimpArgs false
set_option linter.unusedVariables false
namespace Go.Proofs.YtblgdlnmabkpoaaGreat
/-- A place z of scale d lies in a disc. -/
def Dsk (c:Pt)(r d:Int)(z:Pt):Prop:=sqd (sc d c) z≤(d*r)*(d*r)
open Go.RowKit Go.Sort
end Go.Proofs.YtblgdlnmabkpoaaGreat
