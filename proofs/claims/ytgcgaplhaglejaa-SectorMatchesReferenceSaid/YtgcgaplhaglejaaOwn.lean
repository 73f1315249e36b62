/- Rows of a call's own: small words. -/
import Derived.Test.YtgcgaplhaglejaaSecE
namespace Go.Proofs.Ytgcgaplhaglejaa
set_option linter.unusedVariables false
set_option linter.unusedSimpArgs false
open Go.RowKit Go.Sort

theorem own_grew {w w' : World} {base : Nat} {e : TypeId} {size : Nat} {v : Value} {n : Nat} {xs : List Value} (h : w.ownsRow base e size v n xs) (hg : Grew w w') : w'.ownsRow base e size v n xs :=
  h.kept (hg.grownBy none) (Decidable.em _)
theorem own_slice {X : World} {base : Nat} {e : TypeId} {size : Nat} {v : Value} {n : Nat} {xs : List Value} (h : X.ownsRow base e size v n xs) : ∃ A c, v = .slice A n c ∧ n ≤ c := by
  rcases h.2 with ⟨rfl, rfl⟩ | ⟨g, cap, cur, rfl, _, _, hn, _⟩
  · exact ⟨none, 0, rfl, Nat.le_refl _⟩
  · exact ⟨_, _, rfl, hn⟩
end Go.Proofs.Ytgcgaplhaglejaa
