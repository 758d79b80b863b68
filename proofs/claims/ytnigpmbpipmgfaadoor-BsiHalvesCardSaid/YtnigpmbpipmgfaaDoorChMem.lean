/-
  A slice of chunks in memory.
-/
import Derived.Test.YtnigpmbpipmgfaaDoorIsBest
namespace Go.Proofs.YtnigpmbpipmgfaaDoor
open Go.RowKit Tess

/-- A chunk's three cells. -/
def chv (x : Ch) : List Value := [.int .i64 x.key, .int .i64 x.form, .string x.data]
def chvs (l : List Ch) : List Value := l.flatMap chv
theorem chvs_len (l : List Ch) : (chvs l).length = l.length * 3 := by
  induction l with
  | nil => rfl
  | cons x l ih => show (chv x ++ chvs l).length = _; rw [List.length_append, ih]; simp [chv]; omega
theorem chvs_append (l m : List Ch) : chvs (l ++ m) = chvs l ++ chvs m := by unfold chvs; exact List.flatMap_append
theorem chvs_get : ∀ {l : List Ch} {j : Nat} (hj : j < l.length), (chvs l)[j * 3]? = some (.int .i64 l[j].key) ∧ (chvs l)[j * 3 + 1]? = some (.int .i64 l[j].form) ∧ (chvs l)[j * 3 + 2]? = some (.string l[j].data)
  | x :: l, 0, _ => by
    show (chv x ++ chvs l)[0 * 3]? = _ ∧ (chv x ++ chvs l)[0 * 3 + 1]? = _ ∧ (chv x ++ chvs l)[0 * 3 + 2]? = _
    simp [chv]
  | x :: l, j + 1, hj => by
    have hj' : j < l.length := by simpa using hj
    have ih := chvs_get hj'
    show (chv x ++ chvs l)[(j + 1) * 3]? = _ ∧ (chv x ++ chvs l)[(j + 1) * 3 + 1]? = _ ∧ (chv x ++ chvs l)[(j + 1) * 3 + 2]? = _
    rw [List.getElem?_append_right (by simp [chv]; omega), List.getElem?_append_right (by simp [chv]; omega), List.getElem?_append_right (by simp [chv]; omega)]
    have e : (chv x).length = 3 := rfl
    rw [e, show (j + 1) * 3 - 3 = j * 3 by omega, show (j + 1) * 3 + 1 - 3 = j * 3 + 1 by omega, show (j + 1) * 3 + 2 - 3 = j * 3 + 2 by omega]
    exact ih

/-- THE SLICE VALUE v HOLDS THE CHUNKS l, in a block below n₀; or it is empty. -/
def Chs (n₀ : Nat) (W : World) (v : Value) (l : List Ch) : Prop :=
  ∃ p cap, v = .slice p l.length cap ∧ l.length ≤ cap ∧ ∀ j (hj : j < l.length), ∃ b off, p = some ⟨b, off, none⟩ ∧ b < n₀ ∧ W.cell? ⟨b, off + j * 3, none⟩ = some (.int .i64 l[j].key) ∧ W.cell? ⟨b, off + j * 3 + 1, none⟩ = some (.int .i64 l[j].form) ∧ W.cell? ⟨b, off + j * 3 + 2, none⟩ = some (.string l[j].data)
theorem Chs.below {n₀ n₁ : Nat} {A B : World} {v : Value} {l : List Ch} (h : Chs n₀ A v l) (hb : Below n₁ A B) (hn : n₀ ≤ n₁) : Chs n₀ B v l := by
  obtain ⟨p, cap, hv, hc, h⟩ := h
  refine ⟨p, cap, hv, hc, fun j hj => ?_⟩
  obtain ⟨b, off, hp, hb1, h1, h2, h3⟩ := h j hj
  have hb2 := Nat.lt_of_lt_of_le hb1 hn
  exact ⟨b, off, hp, hb1, (hb.cell (p := ⟨b, _, none⟩) hb2).trans h1, (hb.cell (p := ⟨b, _, none⟩) hb2).trans h2, (hb.cell (p := ⟨b, _, none⟩) hb2).trans h3⟩
theorem Chs.more {n₀ n₁ : Nat} {A : World} {v : Value} {l : List Ch} (h : Chs n₀ A v l) (hn : n₀ ≤ n₁) : Chs n₁ A v l := by
  obtain ⟨p, cap, hv, hc, h⟩ := h
  refine ⟨p, cap, hv, hc, fun j hj => ?_⟩
  obtain ⟨b, off, hp, hb1, h1, h2, h3⟩ := h j hj
  exact ⟨b, off, hp, Nat.lt_of_lt_of_le hb1 hn, h1, h2, h3⟩
/-- The slice v holds the chunks l, in blocks that are there. -/
def HC (W : World) (v : Value) (l : List Ch) : Prop := Hid (Chs W.heap.size W v l)
theorem HC.later {W W' : World} {v : Value} {l : List Ch} (h : HC W v l) (hb : Below W.heap.size W W') : HC W' v l := Lib.hid (((Hid.out h).below hb (Nat.le_refl _)).more hb.size)
theorem HC.alloc {W : World} {v : Value} {l : List Ch} (h : HC W v l) (o : Obj) : HC (W.alloc o) v l := h.later ((Below.refl _ W).alloc (Nat.le_refl _) _)
theorem HC.nil (W : World) (p : Option Addr) (c : Nat) : HC W (.slice p 0 c) [] := Lib.hid ⟨p, c, rfl, Nat.zero_le _, fun j hj => by cases hj⟩
theorem HC.of_row {W : World} {base n : Nat} {v : Value} {l : List Ch} (h : W.ownsRow base 91 3 v n (chvs l)) : HC W v l := by
  have hl := h.1
  rw [chvs_len] at hl
  obtain ⟨_, ⟨rfl, h0⟩ | ⟨g, cap, cur, rfl, _, hg, hn, hc, hs, ht⟩⟩ := h
  · have : l = [] := by cases l with
      | nil => rfl
      | cons x l => simp at hl; omega
    subst this
    exact HC.nil W _ _
  · have hln : l.length = n := by omega
    subst hln
    refine Lib.hid ⟨_, cap, rfl, hn, fun j hj => ⟨g, 0, rfl, lt_of_heap hg, ?_⟩⟩
    obtain ⟨h1, h2, h3⟩ := chvs_get hj
    have key : ∀ i u, i < l.length * 3 → (chvs l)[i]? = some u → W.cell? ⟨g, 0 + i, none⟩ = some u := by
      intro i u hi hu
      have e : (cur.toList.take (l.length * 3))[i]? = some u := by rw [ht]; exact hu
      rw [List.getElem?_take_of_lt hi] at e
      simp [World.cell?, hg]
      simpa using e
    exact ⟨key _ _ (by omega) h1, by rw [Nat.add_assoc]; exact key _ _ (by omega) h2, by rw [Nat.add_assoc]; exact key _ _ (by omega) h3⟩

theorem box_far {W : World} {b n : Nat} {f : Int} {D : ByteArray} (h : CBox W b f D) (hne : b ≠ n) (u v : Value) : CBox ((W.setCell ⟨n, 0, none⟩ u).setCell ⟨n, 1, none⟩ v) b f D :=
  (Below.heap_setCell _ ⟨n, 1, none⟩ _ _ hne).trans ((Below.heap_setCell W ⟨n, 0, none⟩ _ _ hne).trans h)
theorem below_set2 {w W : World} {n : Nat} (h : Below w.heap.size w W) (hn : w.heap.size ≤ n) (u v : Value) : Below w.heap.size w ((W.setCell ⟨n, 0, none⟩ u).setCell ⟨n, 1, none⟩ v) :=
  (h.setCell (p := ⟨n, 0, none⟩) hn _).setCell (p := ⟨n, 1, none⟩) hn _

/-- A bitmap in a box of its own. -/
def RBox (W : World) (b : Nat) (v : Value) : Prop := W.heap[b]? = some (.cells #[v] 28 (0, 0))
theorem RBox.new (W : World) (v : Value) : RBox (W.alloc (.cells #[v] 28)) W.heap.size v := heap_alloc_new W _
theorem RBox.lt {W : World} {b : Nat} {v : Value} (h : RBox W b v) : b < W.heap.size := lt_of_heap h
theorem RBox.below {W W' : World} {b B : Nat} {v : Value} (h : RBox W b v) (hb : Below B W W') (hB : b < B) : RBox W' b v := (hb.block b hB).trans h
theorem RBox.later {W W' : World} {b : Nat} {v : Value} (h : RBox W b v) (hb : Below W.heap.size W W') : RBox W' b v := h.below hb h.lt
theorem RBox.alloc {W : World} {b : Nat} {v : Value} (h : RBox W b v) (o : Obj) : RBox (W.alloc o) b v := h.later ((Below.refl _ W).alloc (Nat.le_refl _) _)
theorem RBox.grown {W W' : World} {b : Nat} {row : Option Nat} {v : Value} (h : RBox W b v) (hg : W.grownBy W' row) (hne : some b ≠ row) : RBox W' b v := (hg.block b h.lt hne).trans h
theorem RBox.far {W : World} {b : Nat} {v : Value} (h : RBox W b v) {p : Addr} (hp : b ≠ p.block) (u : Value) : RBox (W.setCell p u) b v := (Below.heap_setCell W p u b hp).trans h
theorem RBox.cell {W : World} {b : Nat} {v : Value} (h : RBox W b v) : W.cell? ⟨b, 0, none⟩ = some v := by rw [cell_of_row W b 0 _ _ (0, 0) h]; rfl
theorem RBox.frozen {W : World} {b : Nat} {v : Value} (h : RBox W b v) : W.frozen? ⟨b, 0, none⟩ = false := by
  unfold RBox at h
  simp [World.frozen?, h]
theorem RBox.set {W : World} {b : Nat} {v : Value} (h : RBox W b v) (u : Value) : RBox (W.setCell ⟨b, 0, none⟩ u) b u := by
  unfold RBox at h ⊢
  simp [World.setCell, Array.getElem?_modify, h]
/-- A store into a bitmap's box leaves chunks alone. -/
theorem HC.setR {W : World} {v u : Value} {l : List Ch} {b : Nat} (h : HC W v l) (hx : RBox W b u) (u' : Value) : HC (W.setCell ⟨b, 0, none⟩ u') v l := by
  obtain ⟨p, cap, hv, hc, hh⟩ := Hid.out h
  refine Lib.hid ⟨p, cap, hv, hc, fun j hj => ?_⟩
  obtain ⟨g, off, hp, hb1, h1, h2, h3⟩ := hh j hj
  have hne : g ≠ b := by
    rintro rfl
    rw [cell_of_row W g _ _ _ (0, 0) hx] at h2
    simp at h2
  have hk : ∀ i, (W.setCell ⟨b, 0, none⟩ u').cell? ⟨g, i, none⟩ = W.cell? ⟨g, i, none⟩ := fun i => World.cell?_setCell_other W ⟨b, 0, none⟩ ⟨g, i, none⟩ u' (fun e => by
    have := congrArg Addr.block e
    first | exact hne this | exact hne this.symm)
  exact ⟨g, off, hp, by simpa using hb1, (hk _).trans h1, (hk _).trans h2, (hk _).trans h3⟩
/-- A chunk in a box of its own. -/
def KBox (W : World) (b : Nat) (x : Ch) : Prop := W.heap[b]? = some (.cells #[.int .i64 x.key, .int .i64 x.form, .string x.data] 91 (0, 0))
theorem KBox.new (W : World) (x : Ch) : KBox (W.alloc (.cells #[.int .i64 x.key, .int .i64 x.form, .string x.data] 91)) W.heap.size x := heap_alloc_new W _
theorem KBox.lt {W : World} {b : Nat} {x : Ch} (h : KBox W b x) : b < W.heap.size := lt_of_heap h
theorem KBox.later {W W' : World} {b : Nat} {x : Ch} (h : KBox W b x) (hb : Below W.heap.size W W') : KBox W' b x := (hb.block b h.lt).trans h
theorem KBox.alloc {W : World} {b : Nat} {x : Ch} (h : KBox W b x) (o : Obj) : KBox (W.alloc o) b x := h.later ((Below.refl _ W).alloc (Nat.le_refl _) _)
theorem KBox.grown {W W' : World} {b : Nat} {row : Option Nat} {x : Ch} (h : KBox W b x) (hg : W.grownBy W' row) (hne : some b ≠ row) : KBox W' b x := (hg.block b h.lt hne).trans h
theorem KBox.cells {W : World} {b : Nat} {x : Ch} (h : KBox W b x) : W.cell? ⟨b, 0, none⟩ = some (.int .i64 x.key) ∧ W.cell? ⟨b, 1, none⟩ = some (.int .i64 x.form) ∧ W.cell? ⟨b, 2, none⟩ = some (.string x.data) := by
  refine ⟨?_, ?_, ?_⟩
  · rw [cell_of_row W b 0 _ _ (0, 0) h]; rfl
  · rw [cell_of_row W b 1 _ _ (0, 0) h]; rfl
  · rw [cell_of_row W b 2 _ _ (0, 0) h]; rfl
theorem KBox.frozen {W : World} {b : Nat} {x : Ch} (h : KBox W b x) (i : Nat) : W.frozen? ⟨b, i, none⟩ = false := by
  unfold KBox at h
  simp [World.frozen?, h]
theorem info_chunk : (Tryd.prog.info? 91).map (fun i => (i.zero, i.size, i.bytes)) = some (some (.agg #[.int .i64 0, .int .i64 0, .string ⟨#[]⟩]), 3, 32) := by kernel_rfl
end Go.Proofs.YtnigpmbpipmgfaaDoor
