/-
  A column's numbers, the first of them.
-/
import Derived.Test.YtnigpmbpipmgfaaDoorBsX
namespace Go.Proofs.YtnigpmbpipmgfaaDoor
open Go.RowKit Tess

theorem vI_take {l : List Int} (h : ∀ i, -9223372036854775808 ≤ vI l i ∧ vI l i ≤ 9223372036854775807) (k : Nat) : ∀ i, -9223372036854775808 ≤ vI (l.take k) i ∧ vI (l.take k) i ≤ 9223372036854775807 := by
  intro i
  by_cases hi : i < k
  · have e : vI (l.take k) i = vI l i := by unfold vI; rw [List.getElem?_take_of_lt hi]
    rw [e]; exact h i
  · have e : vI (l.take k) i = 0 := by
      unfold vI
      rw [List.getElem?_eq_none (by rw [List.length_take]; omega)]; rfl
    rw [e]; omega
end Go.Proofs.YtnigpmbpipmgfaaDoor
