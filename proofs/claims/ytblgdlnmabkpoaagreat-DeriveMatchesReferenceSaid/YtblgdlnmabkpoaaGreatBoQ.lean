/- A polygon and the rectangle of its box: the laws. A polygon and the rectangle of its box: which places are in them. -/
import Derived.Test.YtblgdlnmabkpoaaGreatToQ
import Derived.Test.YtblgdlnmabkpoaaGreatPov
import Derived.Test.YtblgdlnmabkpoaaGreatPgX
set_option linter.unusedSimpArgs false
set_option linter.unusedVariables false
namespace Go.Proofs.YtblgdlnmabkpoaaGreat
section
variable {b:B4} (hx:b.1.1<b.1.2) (hy:b.2.1<b.2.2)
end
section
variable {ps:List Pt} (hn:0<ps.length) (ht:∀i,i<ps.length→0<cr (cor ps (i+ps.length-1)) (cor ps i) (cor ps (i+1)))
include ht in
end
section
variable {b:B4} (hx:b.1.1<b.1.2) (hy:b.2.1<b.2.2)
include hx hy in
end
end Go.Proofs.YtblgdlnmabkpoaaGreat
