/-
  roar's iterator over a bitmap's numbers: for whatever loop body that keeps what lay below n₀, and all cells but its own collecting slice.
-/
import Derived.Maps.OwnIn
import Derived.Test.YtnigpmbpipmgfaaDoorAsk8
namespace Go.Proofs.YtnigpmbpipmgfaaDoor
open Go.RowKit Go.Shelf Tess

attribute [local go_sem] Oper.semAt_some

/-! ## a body that collects into a slice in box B0 -/
def rowOf (W : World) (B0 : Nat) : Option Nat := match W.cell? ⟨B0, 0, none⟩ with | some v => v.ownBlock | none => none
theorem rowOf_cell {W : World} {B0 : Nat} {v : Value} (h : W.cell? ⟨B0, 0, none⟩ = some v) : rowOf W B0 = v.ownBlock := by unfold rowOf; rw [h]
theorem rowOf_block {W W' : World} {B0 : Nat} (h : W'.heap[B0]? = W.heap[B0]?) : rowOf W' B0 = rowOf W B0 := by
  have e : W'.cell? ⟨B0, 0, none⟩ = W.cell? ⟨B0, 0, none⟩ := World.cell?_of_block (a := ⟨B0, 0, none⟩) h
  unfold rowOf; rw [e]
/-- WHAT SUCH A ROUND KEEPS. -/
structure KeepC (n₀ B0 : Nat) (W W' : World) : Prop where
  below : Below n₀ W W'
  cells : ∀ (b : Nat) (cs : Array Value) (t : TypeId) (fr : Nat × Nat), W.heap[b]? = some (.cells cs t fr) → b ≠ B0 → rowOf W B0 ≠ some b → W'.heap[b]? = W.heap[b]?
  row : rowOf W' B0 = rowOf W B0 ∨ ∃ g, rowOf W' B0 = some g ∧ W.heap.size ≤ g ∧ g < W'.heap.size
theorem KeepC.trans {n₀ B0 : Nat} {A B C : World} (h : KeepC n₀ B0 A B) (k : KeepC n₀ B0 B C) : KeepC n₀ B0 A C := by
  refine ⟨h.below.trans k.below, fun b cs t fr hb hne hr => ?_, ?_⟩
  · have e := h.cells b cs t fr hb hne hr
    refine (k.cells b cs t fr (e.trans hb) hne ?_).trans e
    rcases h.row with h1 | ⟨g, h1, h2, _⟩
    · rw [h1]; exact hr
    · rw [h1]; intro e1; cases e1; have := lt_of_heap hb; omega
  · rcases k.row with k1 | ⟨g, k1, k2, k3⟩
    · rcases h.row with h1 | ⟨g, h1, h2, h3⟩
      · exact .inl (k1.trans h1)
      · exact .inr ⟨g, k1.trans h1, h2, Nat.lt_of_lt_of_le h3 k.below.size⟩
    · exact .inr ⟨g, k1, Nat.le_trans h.below.size k2, k3⟩
theorem keepC_b {n₀ B0 : Nat} {w : World} (hn : n₀ ≤ w.heap.size) (hB : B0 < w.heap.size) (W : World) (l : Nat) (o o' : Obj) (hl : w.heap.size ≤ l) (h : W.heap[l]? = some o) (hc : o.isCells = false) (hw : o.isWalk = false) : KeepC n₀ B0 W (W.putObj l o') := by
  refine ⟨belowK_b hn W l o o' hl h hc hw, fun b cs t fr hb hne _ => ?_, .inl (rowOf_block ?_)⟩
  · refine World.putObj_heap_other ?_
    intro e
    subst e
    rw [h] at hb
    cases hb; cases hc
  · exact World.putObj_heap_other (by omega)
/-- The collecting slice lies in a block that is there. -/
def OkB (W : World) (B0 : Nat) : Prop := ∀ g, rowOf W B0 = some g → g < W.heap.size
theorem OkB.keep {n₀ B0 : Nat} {W W' : World} (h : OkB W B0) (k : KeepC n₀ B0 W W') : OkB W' B0 := by
  intro g hg
  rcases k.row with h1 | ⟨g', h1, _, h3⟩
  · rw [h1] at hg; exact Nat.lt_of_lt_of_le (h g hg) k.below.size
  · rw [h1] at hg; cases hg; exact h3
theorem OkB.later {B0 : Nat} {W W' : World} (h : OkB W B0) (hB : B0 < W.heap.size) (hb : Below W.heap.size W W') : OkB W' B0 := by
  intro g hg
  rw [rowOf_block (hb.block B0 hB)] at hg
  exact Nat.lt_of_lt_of_le (h g hg) hb.size
/-- A block of cells that no such round touches. -/
def Safe (W : World) (B0 b : Nat) : Prop := b ≠ B0 ∧ rowOf W B0 ≠ some b ∧ b < W.heap.size
theorem Safe.keep {n₀ B0 b : Nat} {W W' : World} (h : Safe W B0 b) (k : KeepC n₀ B0 W W') : Safe W' B0 b := by
  refine ⟨h.1, ?_, Nat.lt_of_lt_of_le h.2.2 k.below.size⟩
  rcases k.row with h1 | ⟨g', h1, h2, _⟩
  · rw [h1]; exact h.2.1
  · rw [h1]; intro e; cases e; have := h.2.2; omega
theorem Safe.later {B0 b : Nat} {W W' : World} (h : Safe W B0 b) (hB : B0 < W.heap.size) (hb : Below W.heap.size W W') : Safe W' B0 b :=
  ⟨h.1, by rw [rowOf_block (hb.block B0 hB)]; exact h.2.1, Nat.lt_of_lt_of_le h.2.2 hb.size⟩
theorem Safe.new {B0 b : Nat} {W W' : World} (hok : OkB W B0) (hB : B0 < W.heap.size) (hb : Below W.heap.size W W') (h1 : W.heap.size ≤ b) (h2 : b < W'.heap.size) : Safe W' B0 b :=
  ⟨by omega, by rw [rowOf_block (hb.block B0 hB)]; intro e; have := hok b e; omega, h2⟩
theorem KBox.keep {n₀ B0 b : Nat} {W W' : World} {x : Ch} (h : KBox W b x) (hs : Safe W B0 b) (k : KeepC n₀ B0 W W') : KBox W' b x := (k.cells b _ _ _ h hs.1 hs.2.1).trans h
theorem own_keep {n₀ B0 base n size : Nat} {e : TypeId} {W W' : World} {v : Value} {xs : List Value} (h : W.ownsRow base e size v n xs) (hs : ∀ g, v.ownBlock = some g → Safe W B0 g) (k : KeepC n₀ B0 W W') : W'.ownsRow base e size v n xs := by
  refine ⟨h.1, ?_⟩
  rcases h.2 with h0 | ⟨g, cap, cur, rfl, hg, hh, rest⟩
  · exact .inl h0
  · have hs' := hs g rfl
    exact .inr ⟨g, cap, cur, rfl, hg, (k.cells g _ _ _ hh hs'.1 hs'.2.1).trans hh, rest⟩

/-! ## the numbers -/
abbrev N16 := Fin 65536
def vals16 (l : List N16) : List Nat := l.map (·.val)
theorem vals16_snoc (l : List N16) (x : N16) : vals16 (l ++ [x]) = vals16 l ++ [x.val] := by simp [vals16]
/-- A chunk's numbers; those of all chunks. -/
def chN (x : Ch) : List Nat := (nums x.set).map fun m => x.key.toNat * 256 + m
def allN (l : List Ch) : List Nat := l.flatMap chN
theorem allN_take {l : List Ch} {k : Nat} (h : k < l.length) : allN (l.take (k + 1)) = allN (l.take k) ++ chN l[k] := by
  unfold allN; rw [List.take_succ_eq_append_getElem h, List.flatMap_append]; simp
theorem allN_prefix (l : List Ch) (k : Nat) : allN (l.take k) <+: allN l := by
  unfold allN
  conv => rhs; rw [← List.take_append_drop k l, List.flatMap_append]
  exact List.prefix_append _ _
theorem chN_len (x : Ch) : (chN x).length ≤ 256 := by unfold chN; rw [List.length_map]; exact count_le _
theorem allN_len (l : List Ch) : (allN l).length ≤ 256 * l.length := by
  induction l with
  | nil => exact Nat.le_refl _
  | cons x l ih => show (chN x ++ allN l).length ≤ _; rw [List.length_append, List.length_cons]; have := chN_len x; omega

theorem rowVal {W : World} {base : Nat} {v : Value} {s : Nat} (h : W.ownsRow base 3 1 v (nums s).length ((nums s).map iv)) {j : Nat} (hj : j < (nums s).length) : ∃ g cap, v = .slice (some ⟨g, 0, none⟩) (nums s).length cap ∧ W.cell? ⟨g, j, none⟩ = some (.int .i64 (((nums s)[j] : Nat) : Int)) := by
  have h0 := h
  rcases h.2 with ⟨_, h1⟩ | ⟨g, cap, cur, rfl, _, _, _⟩
  · omega
  · refine ⟨g, cap, rfl, ?_⟩
    have hcx := h0.cellAt j (by omega)
    rw [List.getElem?_map, List.getElem?_eq_getElem hj] at hcx
    simpa [iv] using hcx
theorem rowSlice {W : World} {base n : Nat} {e : TypeId} {size : Nat} {v : Value} {xs : List Value} (h : W.ownsRow base e size v n xs) : ∃ p cap, v = .slice p n cap := by
  rcases h.2 with ⟨rfl, rfl⟩ | ⟨g, cap, cur, rfl, _⟩
  · exact ⟨_, _, rfl⟩
  · exact ⟨_, _, rfl⟩

end Go.Proofs.YtnigpmbpipmgfaaDoor
