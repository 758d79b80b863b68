/-
  The reference's [256]bool in memory: a variable that holds a set.
-/
import Derived.Deep.WholeRow
import Derived.Test.YtnigpmbpipmgfaaDoorPlainR
namespace Go.Proofs.YtnigpmbpipmgfaaDoor
open Go.RowKit Tess

/-- The 256 cells of a set. -/
def bl (s : Nat) : List Value := (List.range 256).map fun n => Value.bool (s.testBit n)
def bc (s : Nat) : Array Value := (bl s).toArray
theorem bc_size (s : Nat) : (bc s).size = 256 := by simp [bc, bl]
theorem bc_get (s : Nat) {i : Nat} (h : i < 256) : (bc s)[i]? = some (.bool (s.testBit i)) := by simp [bc, bl, h]
theorem bc_ext {s : Nat} {a : Array Value} (hs : a.size = 256) (h : ∀ i, i < 256 → a[i]? = some (.bool (s.testBit i))) : a = bc s := by
  apply Array.ext_getElem?
  intro i
  by_cases hi : i < 256
  · rw [h i hi, bc_get s hi]
  · rw [Array.getElem?_eq_none (by omega), Array.getElem?_eq_none (by rw [bc_size]; omega)]
theorem bc_one (s : Nat) : (bc s).all (·.oneCell') = true := by
  rw [Array.all_eq_true_iff_forall_mem]
  intro v hv
  simp [bc, bl] at hv
  obtain ⟨n, _, rfl⟩ := hv
  rfl
theorem infoArr : (Tryd.prog.info? 149).map (fun i => (i.zero, i.size)) = some (some (.agg (bc 0)), 256) := by kernel_rfl
theorem zeroArr (w : World) : (zeroValue 149).run Tryd.prog w = .ok (.agg (bc 0)) w := (zero_of_info infoArr).1 w
theorem sizeArr (s : Nat) : (Tryd.prog.info? 149).map (·.size) = some (bc s).size := by rw [bc_size]; exact (zero_of_info infoArr).2

/-- BLOCK b IS A VARIABLE [256]bool THAT HOLDS s. -/
def Arr (w : World) (b s : Nat) : Prop := w.heap[b]? = some (.cells (bc s) 149 (0, 0))
section
variable {w w' : World} {b s : Nat}
theorem Arr.lt (h : Arr w b s) : b < w.heap.size := lt_of_heap h
theorem Arr.cell (h : Arr w b s) {i : Nat} (hi : i < 256) : w.cell? ⟨b, i, none⟩ = some (.bool (s.testBit i)) := by
  rw [cell_of_row w b i _ _ (0, 0) h, bc_get s hi]
theorem Arr.frozen (h : Arr w b s) (i : Nat) : w.frozen? ⟨b, i, none⟩ = false := by
  unfold Arr at h
  simp [World.frozen?, h]
theorem Arr.new (w : World) (s : Nat) : Arr (w.alloc (.cells (bc s) 149)) w.heap.size s := heap_alloc_new w _
theorem Arr.alloc (h : Arr w b s) (o : Obj) : Arr (w.alloc o) b s := (Below.heap_alloc w o b h.lt).trans h
theorem Arr.drew (h : Arr w b s) : Arr w.drew b s := h
theorem Arr.below {B : Nat} (h : Arr w b s) (hb : Below B w w') (hB : b < B) : Arr w' b s := (hb.block b hB).trans h
theorem Arr.later (h : Arr w b s) (hb : Below w.heap.size w w') : Arr w' b s := h.below hb h.lt
theorem Arr.grown {row : Option Nat} (h : Arr w b s) (hg : w.grownBy w' row) (hne : some b ≠ row) : Arr w' b s := (hg.block b h.lt hne).trans h
theorem Arr.far (h : Arr w b s) {p : Addr} (hp : b ≠ p.block) (u : Value) : Arr (w.setCell p u) b s := (Below.heap_setCell w p u b hp).trans h
theorem Arr.set_ (h : Arr w b s) {i s' : Nat} {v : Bool} (hi : i < 256) (hs : ∀ j, j < 256 → s'.testBit j = if j = i then v else s.testBit j) :
    Arr (w.setCell ⟨b, i, none⟩ (.bool v)) b s' := by
  unfold Arr at h ⊢
  have e : (bc s).setIfInBounds i (.bool v) = bc s' := by
    refine bc_ext (by simp [bc_size]) fun j hj => ?_
    rw [hs j hj, Array.getElem?_setIfInBounds]
    by_cases e : i = j
    · subst e; simp [bc_size, hi]
    · have e' : ¬ j = i := fun h => e h.symm
      simp [e, e', bc_get s hj]
  simp [World.setCell, Array.getElem?_modify, h, e]
theorem Arr.load (h : Arr w b s) : (Instr.loadAt 149 (.pointer (some ⟨b, 0, none⟩))).run Tryd.prog w = .ok (.agg (bc s)) w := by
  simp only [Instr.loadAt, Instr.sureAddr, Sem.run_bind, Sem.run_pure, Result.andThen]
  exact run_loadVar_row w b _ _ (bc s) (0, 0) _ h Tryd.underlying149 rfl (sizeArr s)
theorem Arr.loadVar (h : Arr w b s) : (loadVar 149 ⟨b, 0, none⟩).run Tryd.prog w = .ok (.agg (bc s)) w :=
  run_loadVar_row w b _ _ (bc s) (0, 0) _ h Tryd.underlying149 rfl (sizeArr s)
theorem Arr.store (h : Arr w b s) (s' : Nat) : (Instr.storeAt 149 (.pointer (some ⟨b, 0, none⟩)) (.agg (bc s'))).run Tryd.prog w = .ok () (w.setRow b (bc s')) := by
  simp only [Instr.storeAt, Instr.sureAddr, Sem.run_bind, Sem.run_pure, Result.andThen]
  exact run_storeVar_row w b _ _ (bc s) (bc s') h (sizeArr s') (by rw [bc_size, bc_size]) (bc_one s')
theorem Arr.storeCells (h : Arr w b s) (s' : Nat) : (Go.storeCells ⟨b, 0, none⟩ (bc s').toList 0).run Tryd.prog w = .ok () (w.setRow b (bc s')) := by
  have := run_storeVar_row (P := Tryd.prog) w b _ _ (bc s) (bc s') h (sizeArr s') (by rw [bc_size, bc_size]) (bc_one s')
  have hi := sizeArr s'
  cases hq : Tryd.prog.info? 149 with
  | none => simp [hq] at hi
  | some i =>
    have hs : (bc s').size = i.size := by simp [hq] at hi; omega
    simpa [storeVar, sizeOf, typeInfo, hq, Value.cells, hs] using this
theorem Arr.setRow (h : Arr w b s) (s' : Nat) : Arr (w.setRow b (bc s')) b s' := by
  unfold Arr at h ⊢
  simp [World.setRow, Array.getElem?_modify, h]
theorem Arr.wpLoad (h : Arr w b s) {o : Oper} {a : Act} {K : Act → World → Prop} {Q : Exit → Act → World → Prop} (x : Operand) (ho : o.op = .load 149 x) (hx : a.eval x = .pointer (some ⟨b, 0, none⟩))
    (hk : K (a.put o.dst (.agg (bc s))) w) : o.wp Tryd.prog a w K Q := wp_load_row _ x ho b hx _ (bc s) (0, 0) _ h Tryd.underlying149 rfl (sizeArr s) hk
theorem Arr.wpStore (h : Arr w b s) {s' : Nat} {o : Oper} {a : Act} {K : Act → World → Prop} {Q : Exit → Act → World → Prop} (x y : Operand) (ho : o.op = .store 149 x y) (hx : a.eval x = .pointer (some ⟨b, 0, none⟩)) (hy : a.eval y = .agg (bc s'))
    (hk : K (a.put o.dst undef) (w.setRow b (bc s'))) : o.wp Tryd.prog a w K Q := wp_store_row _ x y ho b (bc s') hx hy _ (bc s) h (sizeArr s') (by rw [bc_size, bc_size]) (bc_one s') hk
end
theorem below_setRow {B : Nat} {w A : World} (h : Below B w A) {b : Nat} (hb : B ≤ b) (c : Array Value) : Below B w (A.setRow b c) := by
  refine h.trans ⟨rfl, rfl, rfl, by simp [World.setRow], fun k hk => ?_⟩
  have : ¬ b = k := by omega
  simp [World.setRow, Array.getElem?_modify, this]
end Go.Proofs.YtnigpmbpipmgfaaDoor
