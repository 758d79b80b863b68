/-
  Bitmaps in boxes of their own, many at once.
-/
import Derived.Test.YtnigpmbpipmgfaaDoorBmM
import Derived.Test.YtnigpmbpipmgfaaDoorOp7
namespace Go.Proofs.YtnigpmbpipmgfaaDoor
open Go.RowKit Tess

/-- A bitmap in a box, and its chunks. -/
structure RB (W : World) (b : Nat) (v : Value) (l : List Ch) : Prop where
  box : RBox W b v
  chs : HC W v l
theorem RB.later {W W' : World} {b : Nat} {v : Value} {l : List Ch} (h : RB W b v l) (hb : Below W.heap.size W W') : RB W' b v l := ⟨h.box.later hb, h.chs.later hb⟩
theorem RB.alloc {W : World} {b : Nat} {v : Value} {l : List Ch} (h : RB W b v l) (o : Obj) : RB (W.alloc o) b v l := h.later ((Below.refl _ W).alloc (Nat.le_refl _) _)
theorem RB.new {W : World} {v : Value} {l : List Ch} (h : HC W v l) : RB (W.alloc (.cells #[v] 28)) W.heap.size v l := ⟨RBox.new W v, h.alloc _⟩

/-- Many. -/
def RBs (W : World) (L : List (Nat × Value × List Ch)) : Prop := ∀ x ∈ L, RB W x.1 x.2.1 x.2.2
theorem RBs.none (W : World) : RBs W [] := fun x hx => by cases hx
theorem RBs.later {W W' : World} {L : List (Nat × Value × List Ch)} (h : RBs W L) (hb : Below W.heap.size W W') : RBs W' L := fun x hx => (h x hx).later hb
theorem RBs.more {W W' : World} {L : List (Nat × Value × List Ch)} (h : RBs W L) (hb : Below W.heap.size W W') {v : Value} {l : List Ch} (hv : HC W' v l) : RBs (W'.alloc (.cells #[v] 28)) ((W'.heap.size, v, l) :: L) := by
  intro x hx
  rcases List.mem_cons.1 hx with rfl | hx
  · exact RB.new hv
  · exact ((h x hx).later hb).alloc _
/-- What holds through a call in a region. -/
theorem rb_keep {w W W' : World} {L : List (Nat × Value × List Ch)} {C : World → Prop} (hC : Hid (∀ W, RBs W L → C W)) (hb : Below W.heap.size W W') (h1 : Hid (Below w.heap.size w W)) (h2 : Hid (RBs W L)) :
    Hid (Below w.heap.size w W') ∧ Hid (RBs W' L) ∧ C W' :=
  ⟨Lib.hid (h1.out.trans (hb.mono h1.out.size)), Lib.hid (h2.out.later hb), hC.out _ (h2.out.later hb)⟩
theorem cntL_range {l : List Ch} (h : rightL l = true) : 0 ≤ cntL l ∧ cntL l ≤ 65536 := by
  rw [cntL_bits h]
  have := List.length_filter_le (bitL l) (List.range 65536)
  rw [List.length_range] at this
  omega
end Go.Proofs.YtnigpmbpipmgfaaDoor
