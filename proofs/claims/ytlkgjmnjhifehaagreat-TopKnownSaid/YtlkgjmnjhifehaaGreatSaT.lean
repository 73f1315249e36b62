/- The reference's comparisons at equal lists: proofs, integers. -/
import Derived.Test.YtlkgjmnjhifehaaGreatSaL
set_option linter.unusedSimpArgs false
set_option linter.unusedVariables false
namespace Go.Proofs.YtlkgjmnjhifehaaGreat
open Go.RowKit Go.Sort
attribute [local go_sem] dC steadyUpon
attribute [local go_sem ↓] bQ bJ bg aZ aY aX aW
attribute [local go_sem] bH aN aK size_grow tape_grow cell?_grow' aF aC grow_grow bV bn dZ bZ bW bM aO cO bu bY bK
attribute [local irreducible] wpSteady
end Go.Proofs.YtlkgjmnjhifehaaGreat
