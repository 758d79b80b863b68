/-
  cont's Values, Select: a set's numbers as a new slice.
-/
import Derived.Test.YtnigpmbpipmgfaaDoorRank
import Derived.Test.YtnigpmbpipmgfaaDoorPlain
namespace Go.Proofs.YtnigpmbpipmgfaaDoor
open Go.RowKit Go.Shelf Tess

attribute [local go_sem] Oper.semAt_some

/-- A number in memory. -/
def iv (x : Nat) : Value := .int .i64 (x : Int)

/-- The iterator, outside of the fenced walks. -/
theorem numbers_any (a : Option Addr) (w : World) :
    Calls Tryd.prog 116 #[.pointer a] w fun e w' => e = .returned (.func (.func 118) #[] #[.pointer (some ⟨w.heap.size, 0, none⟩)]) ∧ w' = w.alloc (.cells #[.pointer a] 138) :=
  (callsIn_wide (n := 9)).1 (numbers_in 9 a w)

theorem ints_of_vals {W : World} {base : Nat} {v : Value} {s : Nat} (h : W.ownsRow base 3 1 v (nums s).length ((nums s).map iv)) : Ints W.heap.size W v ((nums s).map Int.ofNat) :=
  ints_of_row h (by rw [List.map_map]; rfl)

end Go.Proofs.YtnigpmbpipmgfaaDoor
