/-
  The reference's Ints: two slices of the same numbers are the same. (The general part of Ints, for the seats above cont.)
-/
import Derived.Test.YtnigpmbpipmgfaaDoorPlainR
namespace Go.Proofs.YtnigpmbpipmgfaaDoor
open Go.RowKit Tess

/-- A slice of ints, in one spelling. -/
theorem Ints.slice {n₀ : Nat} {W : World} {v : Value} {zs : List Int} (h : Ints n₀ W v zs) :
    ∃ p cap, v = .slice p zs.length cap ∧ ∀ j, j < zs.length → ∃ b off, p = some ⟨b, off, none⟩ ∧ b < n₀ ∧ W.cell? ⟨b, off + j, none⟩ = some (.int .i64 (zs[j]?.getD 0)) := by
  rcases h with ⟨⟨p, rfl⟩, rfl⟩ | ⟨b, off, cap, rfl, hb, hc⟩
  · exact ⟨p, 0, rfl, fun j hj => by simp at hj⟩
  · exact ⟨_, _, rfl, fun j hj => ⟨b, off, rfl, hb, hc j hj⟩⟩

/-- The slice v holds the ints zs. -/
def HI (W : World) (v : Value) (zs : List Int) : Prop := Hid (Ints W.heap.size W v zs)
theorem HI.later {W W' : World} {v : Value} {zs : List Int} (h : HI W v zs) (hb : Below W.heap.size W W') : HI W' v zs := Lib.hid ((Hid.out h).below hb (Nat.le_refl _) |>.more hb.size)
end Go.Proofs.YtnigpmbpipmgfaaDoor
