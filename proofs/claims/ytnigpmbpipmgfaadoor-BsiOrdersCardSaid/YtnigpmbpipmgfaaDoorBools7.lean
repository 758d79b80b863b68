/-
  A slice of 65536 truths in memory.
-/
import Derived.Test.YtnigpmbpipmgfaaDoorRMake6
import Derived.Test.YtnigpmbpipmgfaaDoorBmM
namespace Go.Proofs.YtnigpmbpipmgfaaDoor
open Go.RowKit Tess

theorem info_bool : (Tryd.prog.info? 4).map (fun i => (i.zero, i.size, i.bytes)) = some (some (.bool false), 1, 1) := by kernel_rfl
/-- BLOCK g HOLDS THE 65536 TRUTHS B. -/
def Bo (W : World) (g : Nat) (B : Nat → Bool) : Prop := ∃ cur : Array Value, W.heap[g]? = some (.cells cur 4 (0, 0)) ∧ cur.size = 65536 ∧ ∀ j, j < 65536 → cur[j]? = some (.bool (B j))
section
variable {W W' : World} {g : Nat} {B : Nat → Bool}
theorem Bo.lt (h : Bo W g B) : g < W.heap.size := by obtain ⟨_, h, _⟩ := h; exact lt_of_heap h
theorem Bo.cell (h : Bo W g B) {j : Nat} (hj : j < 65536) : W.cell? ⟨g, j, none⟩ = some (.bool (B j)) := by
  obtain ⟨cur, h, _, hc⟩ := h
  rw [cell_of_row W g j _ _ (0, 0) h, hc j hj]
theorem Bo.frozen (h : Bo W g B) (i : Nat) : W.frozen? ⟨g, i, none⟩ = false := by
  obtain ⟨cur, h, _⟩ := h
  simp [World.frozen?, h]
theorem Bo.later (h : Bo W g B) (hb : Below W.heap.size W W') : Bo W' g B := by
  have hl := h.lt
  obtain ⟨cur, h, r⟩ := h
  exact ⟨cur, (hb.block g hl).trans h, r⟩
theorem Bo.alloc (h : Bo W g B) (o : Obj) : Bo (W.alloc o) g B := h.later ((Below.refl _ W).alloc (Nat.le_refl _) _)
theorem Bo.drew (h : Bo W g B) : Bo W.drew g B := h
theorem Bo.grown {row : Option Nat} (h : Bo W g B) (hg : W.grownBy W' row) (hne : some g ≠ row) : Bo W' g B := by
  have hl := h.lt
  obtain ⟨cur, h, r⟩ := h
  exact ⟨cur, (hg.block g hl hne).trans h, r⟩
theorem Bo.far (h : Bo W g B) {p : Addr} (hp : g ≠ p.block) (u : Value) : Bo (W.setCell p u) g B := by
  obtain ⟨cur, h, r⟩ := h
  exact ⟨cur, (Below.heap_setCell W p u g hp).trans h, r⟩
theorem Bo.congr (h : Bo W g B) {B' : Nat → Bool} (hB : ∀ j, j < 65536 → B j = B' j) : Bo W g B' := by
  obtain ⟨cur, h, hs, hc⟩ := h
  exact ⟨cur, h, hs, fun j hj => by rw [hc j hj, hB j hj]⟩
theorem Bo.set (h : Bo W g B) {i : Nat} (hi : i < 65536) (v : Bool) : Bo (W.setCell ⟨g, i, none⟩ (.bool v)) g (fun j => if j = i then v else B j) := by
  obtain ⟨cur, h, hs, hc⟩ := h
  refine ⟨cur.setIfInBounds i (.bool v), ?_, by simpa using hs, fun j hj => ?_⟩
  · simp [World.setCell, Array.getElem?_modify, h]
  · rw [Array.getElem?_setIfInBounds]
    by_cases e : i = j
    · subst e; simp [hs, hi]
    · have e' : ¬ j = i := fun h => e h.symm
      simp [e, e', hc j hj]
end
theorem Bo.new (W : World) : Bo (W.alloc (.cells (madeCells #[.bool false] 65536) 4)) W.heap.size (fun _ => false) := by
  refine ⟨_, heap_alloc_new W _, size_madeCells _ _, fun j hj => ?_⟩
  simp [madeCells, hj, Nat.mod_one]
theorem mkBools (w : World) : (Instr.makeSlice 23 (.int .i64 65536) (.int .i64 65536)).run Tryd.prog w = .ok (.slice (some ⟨w.heap.size, 0, none⟩) 65536 65536) (w.alloc (.cells (madeCells #[.bool false] 65536) 4)) := by
  obtain ⟨i0, hi, hz0, hz1, hz2⟩ := info_parts info_bool
  have h := run_make (P := Tryd.prog) w 23 4 i0 (.bool false) Tryd.underlying23 hi hz0 .i64 .i64 65536 65536 (by omega) (by omega) (by rw [hz2]; decide) (by decide)
  rw [hz1] at h
  exact h
end Go.Proofs.YtnigpmbpipmgfaaDoor
