/-
  Build.
-/
import Derived.Test.YtnigpmbpipmgfaaDoorBsAR
import Derived.Test.YtnigpmbpipmgfaaDoorHeldX
namespace Go.Proofs.YtnigpmbpipmgfaaDoor
open Go.RowKit Go.Shelf Tess

attribute [local go_sem] Oper.semAt_some

theorem boxed_own {W W' : World} {row : Option Nat} {b : Nat} {t : TypeId} {v : Value} (h : Boxed W b t v) (hg : W.grownBy W' row) (hr : ∀ r, row = some r → ∃ o : Obj, W.heap[r]? = some o ∧ o.isCells = false) : Boxed W' b t v :=
  (hg.block b h.lt fun e => by
    obtain ⟨o, ho, hc⟩ := hr b e.symm
    rw [show W.heap[b]? = _ from h] at ho; cases ho; cases hc).trans h
theorem boxed_grown {W W' : World} {row : Option Nat} {b : Nat} {t : TypeId} {v : Value} (h : Boxed W b t v) (hg : W.grownBy W' row) (hne : some b ≠ row) : Boxed W' b t v := (hg.block b h.lt hne).trans h
theorem bx_far {W : World} {b : Nat} {t : TypeId} {v : Value} (h : Boxed W b t v) {p : Addr} (hp : b ≠ p.block) (u : Value) : Boxed (W.setCell p u) b t v := (Below.heap_setCell W p u b hp).trans h
theorem boxed_later {W W' : World} {b : Nat} {t : TypeId} {v : Value} (h : Boxed W b t v) (hb : Below W.heap.size W W') : Boxed W' b t v := (hb.block b h.lt).trans h
theorem sbox_own {W W' : World} {row : Option Nat} {b : Nat} {t : TypeId} {n least : Int} {vE vB : Value} (h : SBox W t b n least vE vB) (hg : W.grownBy W' row) (hr : ∀ r, row = some r → ∃ o : Obj, W.heap[r]? = some o ∧ o.isCells = false) : SBox W' t b n least vE vB :=
  (hg.block b h.lt fun e => by
    obtain ⟨o, ho, hc⟩ := hr b e.symm
    rw [show W.heap[b]? = _ from h] at ho; cases ho; cases hc).trans h
theorem rowK {W W' : World} {B base n size : Nat} {e : TypeId} {v : Value} {xs : List Value} (hr : W.ownsRow base e size v n xs) (hg : W.grownBy W' v.ownBlock) : KeepsFrom B W W' :=
  ⟨hg.size, fun k o _ hk hc => (hg.block k (lt_of_heap hk) (fun e => by
    obtain ⟨-, ⟨rfl, -⟩ | ⟨g, cap, cur, rfl, -, h, -⟩⟩ := hr
    · cases e
    · cases e
      rw [h] at hk; cases hk; cases hc)).trans hk⟩

/-- What Build's first loop holds; s is its first block. -/
structure BuAt (w W : World) (lv : Value) (f : Nat → Int) (v : Value) (lo hi : Int) (xs : List Nat) : Prop where
  box : Boxed W w.heap.size 22 lv
  res : SBox W 31 (w.heap.size + 1) 0 0 (.slice none 0 0) (.slice none 0 0)
  all : Boxed W (w.heap.size + 1 + 1) 24 v
  row : W.ownsRow (w.heap.size + 6) 3 1 v xs.length (xs.map fun n : Nat => .int .i64 (n : Int))
  lo : Boxed W (w.heap.size + 1 + 1 + 1) 2 (.int .i64 lo)
  hi : Boxed W (w.heap.size + 1 + 1 + 1 + 1) 2 (.int .i64 hi)
  below : Below w.heap.size w W
  size : w.heap.size + 6 ≤ W.heap.size
theorem BuAt.later {w W W' : World} {lv : Value} {f : Nat → Int} {v : Value} {lo hi : Int} {xs : List Nat} (h : BuAt w W lv f v lo hi xs) (hb : Below W.heap.size W W') : BuAt w W' lv f v lo hi xs :=
  ⟨boxed_later h.box hb, h.res.later hb, boxed_later h.all hb, own_later h.row hb, boxed_later h.lo hb, boxed_later h.hi hb, h.below.trans (hb.mono h.below.size), Nat.le_trans h.size hb.size⟩
theorem BuAt.own {w W W' : World} {row : Option Nat} {lv : Value} {f : Nat → Int} {v : Value} {lo hi : Int} {xs : List Nat} (h : BuAt w W lv f v lo hi xs) (hg : W.grownBy W' row) (hr : ∀ r, row = some r → w.heap.size ≤ r ∧ ∃ o : Obj, W.heap[r]? = some o ∧ o.isCells = false) : BuAt w W' lv f v lo hi xs := by
  have hr' := fun r e => (hr r e).2
  refine ⟨boxed_own h.box hg hr', sbox_own h.res hg hr', boxed_own h.all hg hr', h.row.kept hg ?_, boxed_own h.lo hg hr', boxed_own h.hi hg hr', h.below.grown hg h.below.size (fun k e => (hr k e).1), Nat.le_trans h.size hg.size⟩
  cases hv : v.ownBlock with
  | none => exact .inl rfl
  | some g =>
    right
    intro e
    obtain ⟨o, ho, hc⟩ := hr' g e.symm
    obtain ⟨-, ⟨rfl, -⟩ | ⟨g', cap, cur, rfl, -, h2, -⟩⟩ := h.row
    · cases hv
    · cases hv
      rw [h2] at ho; cases ho; cases hc
/-- The least and the greatest are stored. -/
theorem BuAt.set2 {w W : World} {lv : Value} {f : Nat → Int} {v : Value} {lo hi : Int} {xs : List Nat} (h : BuAt w W lv f v lo hi xs) (lo' hi' : Int) : BuAt w ((W.setCell ⟨w.heap.size + 1 + 1 + 1, 0, none⟩ (.int .i64 lo')).setCell ⟨w.heap.size + 1 + 1 + 1 + 1, 0, none⟩ (.int .i64 hi')) lv f v lo' hi' xs := by
  have d {b : Nat} {t : TypeId} {u : Value} (hb : Boxed W b t u) (h1 : b ≠ w.heap.size + 1 + 1 + 1) (h2 : b ≠ w.heap.size + 1 + 1 + 1 + 1) : Boxed ((W.setCell ⟨w.heap.size + 1 + 1 + 1, 0, none⟩ (.int .i64 lo')).setCell ⟨w.heap.size + 1 + 1 + 1 + 1, 0, none⟩ (.int .i64 hi')) b t u :=
    bx_far (p := ⟨w.heap.size + 1 + 1 + 1 + 1, 0, none⟩) (bx_far (p := ⟨w.heap.size + 1 + 1 + 1, 0, none⟩) hb h1 _) h2 _
  refine ⟨d h.box (by omega) (by omega), (h.res.far (p := ⟨w.heap.size + 1 + 1 + 1, 0, none⟩) (by dsimp only; omega) _).far (p := ⟨w.heap.size + 1 + 1 + 1 + 1, 0, none⟩) (by dsimp only; omega) _, d h.all (by omega) (by omega), ?_,
    bx_far (p := ⟨w.heap.size + 1 + 1 + 1 + 1, 0, none⟩) (Boxed.set _ h.lo) (by dsimp only; omega) _, Boxed.set _ (bx_far (p := ⟨w.heap.size + 1 + 1 + 1, 0, none⟩) h.hi (by dsimp only; omega) _), (h.below.setCell (p := ⟨w.heap.size + 1 + 1 + 1, 0, none⟩) (by dsimp only; omega) _).setCell (p := ⟨w.heap.size + 1 + 1 + 1 + 1, 0, none⟩) (by dsimp only; omega) _, by simpa using h.size⟩
  have hk : ∀ p : Addr, p.block < w.heap.size + 6 → v.ownBlock = none ∨ v.ownBlock ≠ some p.block := by
    intro p hp
    cases hv : v.ownBlock with
    | none => left; rfl
    | some g => right; have := (h.row.lt g hv).1; simp; omega
  exact (h.row.kept (grown_cell W ⟨w.heap.size + 1 + 1 + 1, 0, none⟩ _) (hk _ (by dsimp only; omega))).kept (grown_cell _ ⟨w.heap.size + 1 + 1 + 1 + 1, 0, none⟩ _) (hk _ (by dsimp only; omega))
/-- A row more. -/
theorem BuAt.app {w W W1 : World} {lv : Value} {f : Nat → Int} {v v' : Value} {lo hi : Int} {xs : List Nat} (h : BuAt w W lv f v lo hi xs) (i : Nat) (o : Obj)
    (hown : W1.ownsRow (w.heap.size + 6) 3 1 v' (xs.length + 1) ((xs.map fun n : Nat => .int .i64 (n : Int)) ++ [.int .i64 (i : Int)])) (hg : (W.alloc o).grownBy W1 v.ownBlock) :
    BuAt w (W1.setCell ⟨w.heap.size + 1 + 1, 0, none⟩ v') lv f v' lo hi (xs ++ [i]) := by
  have h0 := h.later ((Below.refl _ W).alloc (Nat.le_refl _) o)
  have hne : ∀ g, v.ownBlock = some g → w.heap.size + 6 ≤ g := fun g hg => (h.row.lt g hg).1
  have hne' : ∀ g, v'.ownBlock = some g → w.heap.size + 6 ≤ g := fun g hg => (hown.lt g hg).1
  have d {b : Nat} {t : TypeId} {u : Value} (hb : Boxed (W.alloc o) b t u) (h1 : b ≠ w.heap.size + 1 + 1) (h2 : b < w.heap.size + 6) : Boxed (W1.setCell ⟨w.heap.size + 1 + 1, 0, none⟩ v') b t u :=
    bx_far (p := ⟨w.heap.size + 1 + 1, 0, none⟩) (boxed_grown hb hg (fun e => by have := hne _ e.symm; omega)) h1 _
  refine ⟨d h0.box (by omega) (by omega), ?_, Boxed.set _ (boxed_grown h0.all hg (fun e => by have := hne _ e.symm; omega)), ?_, d h0.lo (by omega) (by omega), d h0.hi (by omega) (by omega),
    (h0.below.grown hg h0.below.size (fun g e => by have := hne g e; omega)).setCell (p := ⟨w.heap.size + 1 + 1, 0, none⟩) (by dsimp only; omega) _, ?_⟩
  · exact SBox.far (p := ⟨w.heap.size + 1 + 1, 0, none⟩) ((hg.block _ h0.res.lt (fun e => by have := hne _ e.symm; omega)).trans h0.res) (by dsimp only; omega) _
  · rw [List.length_append, List.map_append]
    refine hown.kept (grown_cell W1 ⟨w.heap.size + 1 + 1, 0, none⟩ v') ?_
    cases hv : v'.ownBlock with
    | none => left; rfl
    | some g => right; have := hne' g hv; simp; omega
  · have := Nat.le_trans h0.size hg.size
    simpa using this

theorem keep4 {W W1 W2 : World} {a1 a2 a3 : Addr} {x1 x2 x3 : Value} (hb : Below W1.heap.size W1 W2) (h : Hid (Below W.heap.size W W1) ∧ W1.cell? a1 = some x1 ∧ W1.cell? a2 = some x2 ∧ W1.cell? a3 = some x3) :
    Hid (Below W.heap.size W W2) ∧ W2.cell? a1 = some x1 ∧ W2.cell? a2 = some x2 ∧ W2.cell? a3 = some x3 := by
  have d {a : Addr} {x : Value} (k : W1.cell? a = some x) : W2.cell? a = some x := (hb.cell (World.block_lt_of_cell? W1 a k)).trans k
  exact ⟨Lib.hid (h.1.out.trans (hb.mono h.1.out.size)), d h.2.1, d h.2.2.1, d h.2.2.2⟩
theorem boxnew {W W1 : World} {a1 a2 a3 : Addr} {x1 x2 x3 : Value} (h : Hid (Below W.heap.size W W1) ∧ W1.cell? a1 = some x1 ∧ W1.cell? a2 = some x2 ∧ W1.cell? a3 = some x3) :
    ∃ Wz b, W1.alloc (.cells #[.int .i64 0, .int .i64 0, .slice none 0 0, .slice none 0 0] 31) = Wz ∧ W1.heap.size = b ∧ Hid (W.heap.size ≤ b) ∧ SBox Wz 31 b 0 0 (.slice none 0 0) (.slice none 0 0) ∧ Below W1.heap.size W1 Wz ∧ (Hid (Below W.heap.size W Wz) ∧ Wz.cell? a1 = some x1 ∧ Wz.cell? a2 = some x2 ∧ Wz.cell? a3 = some x3) :=
  ⟨_, _, rfl, rfl, h.1.out.size, SBox.new W1 _ _ _ _ _, (Below.refl _ W1).alloc (Nat.le_refl _) _, keep4 ((Below.refl _ W1).alloc (Nat.le_refl _) _) h⟩
theorem SBox.set4 {W : World} {t : TypeId} {b : Nat} {n least : Int} {vE vB : Value} (h : SBox W t b n least vE vB) (n' least' : Int) (vE' vB' : Value) : SBox ((((W.setCell ⟨b, 0, none⟩ (.int .i64 n')).setCell ⟨b, 1, none⟩ (.int .i64 least')).setCell ⟨b, 2, none⟩ vE').setCell ⟨b, 3, none⟩ vB') t b n' least' vE' vB' := by
  unfold SBox at *
  have h1 := Go.heap_setCell_same W b 0 _ _ (.int .i64 n') h
  have h2 := Go.heap_setCell_same _ b 1 _ _ (.int .i64 least') h1
  have h3 := Go.heap_setCell_same _ b 2 _ _ vE' h2
  have h4 := Go.heap_setCell_same _ b 3 _ _ vB' h3
  rw [h4]
  simp

theorem HC.set4 {W : World} {v : Value} {l : List Ch} {t : TypeId} {b : Nat} {n least : Int} {vE vB : Value} (h : HC W v l) (hx : SBox W t b n least vE vB) (hE : ∃ p m c, vE = .slice p m c) (hB : ∃ p m c, vB = .slice p m c) (n' least' : Int) {vE' : Value} (hE' : ∃ p m c, vE' = .slice p m c) (vB' : Value) :
    HC ((((W.setCell ⟨b, 0, none⟩ (.int .i64 n')).setCell ⟨b, 1, none⟩ (.int .i64 least')).setCell ⟨b, 2, none⟩ vE').setCell ⟨b, 3, none⟩ vB') v l := by
  have s1 : SBox (W.setCell ⟨b, 0, none⟩ (.int .i64 n')) t b n' least vE vB := by
    unfold SBox at *
    rw [Go.heap_setCell_same W b 0 _ _ (.int .i64 n') hx]; simp
  have s2 : SBox ((W.setCell ⟨b, 0, none⟩ (.int .i64 n')).setCell ⟨b, 1, none⟩ (.int .i64 least')) t b n' least' vE vB := by
    unfold SBox at *
    rw [Go.heap_setCell_same _ b 1 _ _ (.int .i64 least') s1]; simp
  have s3 : SBox (((W.setCell ⟨b, 0, none⟩ (.int .i64 n')).setCell ⟨b, 1, none⟩ (.int .i64 least')).setCell ⟨b, 2, none⟩ vE') t b n' least' vE' vB := by
    unfold SBox at *
    rw [Go.heap_setCell_same _ b 2 _ _ vE' s2]; simp
  exact (((h.setS hx hE hB _).setS s1 hE hB _).setS s2 hE hB _).setS s3 hE' hB _

theorem RowR.own {W W' : World} {row : Option Nat} {base : Nat} {v : Value} {ls : List (List Ch)} (h : RowR W base v ls) (hg : W.grownBy W' row) (hr : ∀ r, row = some r → ∃ o : Obj, W.heap[r]? = some o ∧ o.isCells = false) : RowR W' base v ls := by
  obtain ⟨us, h1, h2⟩ := h
  refine ⟨us, h1.kept hg ?_, fun j hj => ?_⟩
  · cases hv : v.ownBlock with
    | none => exact .inl rfl
    | some g =>
      right
      intro e
      obtain ⟨o, ho, hc⟩ := hr g e.symm
      obtain ⟨-, ⟨rfl, -⟩ | ⟨g', cap, cur, rfl, -, h3, -⟩⟩ := h1
      · cases hv
      · cases hv
        rw [h3] at ho; cases ho; cases hc
  · obtain ⟨u, k1, k2, k3⟩ := h2 j hj
    exact ⟨u, k1, k2.grown hg hr, k3⟩
theorem hc_block {W : World} {u : Value} {l : List Ch} (h : HC W u l) (hl : l ≠ []) {g : Nat} (hg : u.ownBlock = some g) : g < W.heap.size := by
  obtain ⟨p, c, rfl, -, hh⟩ := Hid.out h
  obtain ⟨b', off, rfl, hlt', -⟩ := hh 0 (List.length_pos_iff.2 hl)
  cases hg
  exact hlt'
theorem keepC1 {W W1 W2 : World} {a1 : Addr} {x1 : Value} (hb : Below W1.heap.size W1 W2) (h : Hid (Below W.heap.size W W1) ∧ W1.cell? a1 = some x1) : Hid (Below W.heap.size W W2) ∧ W2.cell? a1 = some x1 :=
  ⟨Lib.hid (h.1.out.trans (hb.mono h.1.out.size)), (hb.cell (World.block_lt_of_cell? W1 a1 h.2)).trans h.2⟩
/-- What Build leaves. -/
def FinB (c : Nat) (n lo : Int) (uv vb : Value) (ex : List Ch) (base : Nat) (ls : List (List Ch)) (_ : Unit) (W : World) : Prop := SBox W 31 c n lo uv vb ∧ HC W uv ex ∧ RowR W base vb ls
theorem FinB.own (c : Nat) (n lo : Int) (uv vb : Value) (ex : List Ch) (base : Nat) (ls : List (List Ch)) (B : Nat) : OwnFrom B (FinB c n lo uv vb ex base ls) := by
  rintro _ W W' row ⟨h1, h2, h3⟩ hg hr
  have hr' := fun r e => (hr r e).2
  exact ⟨sbox_own h1 hg hr', h2.grown hg hr', h3.own hg hr'⟩

def natF {N : Nat} (pre : List (Fin N)) : List Nat := pre.map (·.val)
theorem natF_snoc {N : Nat} (pre : List (Fin N)) (y : Fin N) : natF (pre ++ [y]) = natF pre ++ [y.val] := by unfold natF; rw [List.map_append]; rfl

set_option linter.unusedSimpArgs false in
set_option maxRecDepth 100000 in
set_option maxHeartbeats 4000000 in
theorem build_any {l : List Int} {hs : List Bool} {lv sv : Value} {w : World} (hl : Ints w.heap.size w lv l) (hb : BoolsAt w.heap.size w sv hs) (hrg : ∀ i, -9223372036854775808 ≤ vI l i ∧ vI l i ≤ 9223372036854775807) (hT : Tab w) :
    Calls Tryd.prog 11 #[lv, sv] w fun e W' => ∃ vE vB, e = .returned (.tuple #[.agg #[.int .i64 (buildB l hs).1.n, .int .i64 (buildB l hs).1.least, vE, vB], .int .i64 (buildB l hs).2]) ∧ HC W' vE (buildB l hs).1.ex ∧ HR W' vB (buildB l hs).1.bits ∧ Below w.heap.size w W' := by
  obtain ⟨i0, hi, hz0, hz1, hz2⟩ := info_parts info_int
  obtain ⟨pl, cl, rfl, hcell⟩ := hl.slice
  have hb0 := Lib.hid hb
  obtain ⟨ph, ch, rfl, -⟩ := hb
  have hcell' := Lib.hid hcell
  have hrg' := Lib.hid hrg
  have hTw := Lib.hid hT
  have hlw := Lib.hid hl
  have hno : Hid (¬ (l.length ≤ 1000 ∧ l.length = hs.length) → buildB l hs = (⟨0, 0, [], []⟩, 80)) := fun h => if_neg h
  have hyes : Hid (l.length ≤ 1000 ∧ l.length = hs.length → buildB l hs = (mkB l hs, 0)) := fun h => if_pos h
  generalize buildB l hs = bb at *
  have r1 : SBox ((w.alloc (.cells #[.slice pl l.length cl] 22)).alloc (.cells #[.int .i64 0, .int .i64 0, .slice none 0 0, .slice none 0 0] 31)) 31 (w.alloc (.cells #[.slice pl l.length cl] 22)).heap.size 0 0 (.slice none 0 0) (.slice none 0 0) := SBox.new _ _ _ _ _ _
  simp only [World.size_alloc] at r1
  clear hcell hrg hT hl
  by_cases hok : l.length ≤ 1000 ∧ l.length = hs.length
  · obtain ⟨hk1, hk2⟩ := hok
    have hbb := hyes.out ⟨hk1, hk2⟩
    subst hbb
    have d1 : decide (1000 < l.length) = false := decide_eq_false (by omega)
    have d2 : decide ((1000 : Int) < (l.length : Int)) = false := decide_eq_false (by omega)
    have hne : ((l.length : Int) != (hs.length : Int)) = false := by rw [hk2]; simp
    have hk1' := Lib.hid hk1
    have hk2' := Lib.hid hk2
    clear hno hyes r1 hk1 hk2
    refine (callsIn_wide (n := 9)).1 ?_
    refine callsIn_of_wp_marks Tryd.func11 rfl trivial ?_ rfl
    simp only [Tryd.ntmps11, List.size_toArray, List.length_cons, List.length_nil, Nat.reduceAdd, Nat.reduceSub, Array.replicate_succ, Array.replicate_zero, List.push_toArray, List.append_toArray, List.nil_append, List.cons_append]
    refine wpIn_wide.2 ?_
    go_wp2_with (go_at_call 39; refine ((callsIn_wide (n := 9)).1 (rows_in 9 ph hs.length ch _)).mono ?_; rintro e w' ⟨rfl, rfl⟩)
    have hB6 : Below w.heap.size w ((((((w.alloc (.cells #[.slice pl l.length cl] 22)).alloc (.cells #[.int .i64 0, .int .i64 0, .slice none 0 0, .slice none 0 0] 31)).alloc (.cells #[.slice none 0 0] 24)).alloc (.cells #[.int .i64 0] 2)).alloc (.cells #[.int .i64 0] 2)).alloc (.cells #[.slice ph hs.length ch] 23)) := ((((((Below.refl w.heap.size w).alloc (Nat.le_refl _) _).alloc (by simp) _).alloc (by simp <;> omega) _).alloc (by simp <;> omega) _).alloc (by simp <;> omega) _).alloc (by simp <;> omega) _
    have x0 : Boxed ((((((w.alloc (.cells #[.slice pl l.length cl] 22)).alloc (.cells #[.int .i64 0, .int .i64 0, .slice none 0 0, .slice none 0 0] 31)).alloc (.cells #[.slice none 0 0] 24)).alloc (.cells #[.int .i64 0] 2)).alloc (.cells #[.int .i64 0] 2)).alloc (.cells #[.slice ph hs.length ch] 23)) w.heap.size 22 (.slice pl l.length cl) := boxed_later (Boxed.new w 22 (.slice pl l.length cl)) ((((((Below.refl _ _).alloc (Nat.le_refl _) _).alloc (by simp) _).alloc (by simp <;> omega) _).alloc (by simp <;> omega) _).alloc (by simp <;> omega) _)
    have x1 := boxed_later (Boxed.new ((w.alloc (.cells #[.slice pl l.length cl] 22)).alloc (.cells #[.int .i64 0, .int .i64 0, .slice none 0 0, .slice none 0 0] 31)) 24 (.slice none 0 0)) ((((Below.refl _ _).alloc (Nat.le_refl _) (.cells #[.int .i64 0] 2)).alloc (by simp) (.cells #[.int .i64 0] 2)).alloc (by simp) (.cells #[.slice ph hs.length ch] 23))
    have x2 := boxed_later (Boxed.new (((w.alloc (.cells #[.slice pl l.length cl] 22)).alloc (.cells #[.int .i64 0, .int .i64 0, .slice none 0 0, .slice none 0 0] 31)).alloc (.cells #[.slice none 0 0] 24)) 2 (.int .i64 0)) (((Below.refl _ _).alloc (Nat.le_refl _) (.cells #[.int .i64 0] 2)).alloc (by simp) (.cells #[.slice ph hs.length ch] 23))
    have x3 := boxed_later (Boxed.new ((((w.alloc (.cells #[.slice pl l.length cl] 22)).alloc (.cells #[.int .i64 0, .int .i64 0, .slice none 0 0, .slice none 0 0] 31)).alloc (.cells #[.slice none 0 0] 24)).alloc (.cells #[.int .i64 0] 2)) 2 (.int .i64 0)) ((Below.refl _ _).alloc (Nat.le_refl _) (.cells #[.slice ph hs.length ch] 23))
    have x4 := Boxed.new (((((w.alloc (.cells #[.slice pl l.length cl] 22)).alloc (.cells #[.int .i64 0, .int .i64 0, .slice none 0 0, .slice none 0 0] 31)).alloc (.cells #[.slice none 0 0] 24)).alloc (.cells #[.int .i64 0] 2)).alloc (.cells #[.int .i64 0] 2)) 23 (.slice ph hs.length ch)
    have x5 : SBox ((((((w.alloc (.cells #[.slice pl l.length cl] 22)).alloc (.cells #[.int .i64 0, .int .i64 0, .slice none 0 0, .slice none 0 0] 31)).alloc (.cells #[.slice none 0 0] 24)).alloc (.cells #[.int .i64 0] 2)).alloc (.cells #[.int .i64 0] 2)).alloc (.cells #[.slice ph hs.length ch] 23)) 31 (w.alloc (.cells #[.slice pl l.length cl] 22)).heap.size 0 0 (.slice none 0 0) (.slice none 0 0) := ((((SBox.new (w.alloc (.cells #[.slice pl l.length cl] 22)) 31 0 0 (.slice none 0 0) (.slice none 0 0)).alloc _).alloc _).alloc _).alloc _
    have hz6 : (((((((w.alloc (.cells #[.slice pl l.length cl] 22)).alloc (.cells #[.int .i64 0, .int .i64 0, .slice none 0 0, .slice none 0 0] 31)).alloc (.cells #[.slice none 0 0] 24)).alloc (.cells #[.int .i64 0] 2)).alloc (.cells #[.int .i64 0] 2)).alloc (.cells #[.slice ph hs.length ch] 23))).heap.size = w.heap.size + 6 := by simp
    simp only [World.size_alloc] at x1 x2 x3 x4 x5
    generalize ((((((w.alloc (.cells #[.slice pl l.length cl] 22)).alloc (.cells #[.int .i64 0, .int .i64 0, .slice none 0 0, .slice none 0 0] 31)).alloc (.cells #[.slice none 0 0] 24)).alloc (.cells #[.int .i64 0] 2)).alloc (.cells #[.int .i64 0] 2)).alloc (.cells #[.slice ph hs.length ch] 23)) = w6 at *
    have hM6 : BuAt w w6 (.slice pl l.length cl) (vI l) (.slice none 0 0) (loS (vI l) []) (hiS (vI l) []) [] := ⟨x0, x5, x1, World.ownsRow_nil _ _ _ _, x2, x3, hB6, by omega⟩
    have hb6 := hb0.out.below hB6 (Nat.le_refl _)
    clear x0 x1 x2 x3 x5 d1 d2 hne
    refine (wpIn_wide (n := 9)).1 ?_
    refine wpIn_rangeFunc_ownG rfl (by omega) (gf := 72) (lb := #[.pointer (some ⟨w.heap.size + 1 + 1 + 1 + 1 + 1, 0, none⟩)]) rfl trivial (enters_of Tryd.func72 (by kernel_rfl) rfl)
      (rows_stops _ (by omega) (w.heap.size + 1 + 1 + 1 + 1 + 1) w.heap.size (sv := .slice ph hs.length ch) (hs := hs) (by have := hk1'.out; have := hk2'.out; omega) w6 x4.cell (by omega) (by omega) hb6)
      (fun h k => KeepB.trans h k) (keepB_b (by omega) (by rintro b rfl; omega)) (Below.refl _ _) (fun _ => rfl)
      (fun pre W => ∃ v, BuAt w W (.slice pl l.length cl) (vI l) v (loS (vI l) (natF pre)) (hiS (vI l) (natF pre)) (natF pre))
      (fun _ _ _ => False)
      (fun pre W W' row ⟨v, h⟩ hg hr => ⟨v, h.own hg (fun r e => ⟨Nat.le_trans (by omega) (hr r e).1, (hr r e).2⟩)⟩)
      (fun _ _ _ _ _ hs _ _ => hs)
      ⟨_, hM6⟩
      (fun y => { tmps := #[.slice pl l.length cl, .slice ph hs.length ch, .pointer (some ⟨w.heap.size, 0, none⟩), undef, .pointer (some ⟨w.heap.size + 1, 0, none⟩), .int .i64 0, .pointer (some ⟨w.heap.size + 1 + 1, 0, none⟩), .pointer (some ⟨w.heap.size + 1 + 1 + 1, 0, none⟩), .pointer (some ⟨w.heap.size + 1 + 1 + 1 + 1, 0, none⟩), .int .i64 (y.val : Nat), undef, undef, undef, undef, undef, .slice pl l.length cl, .int .i64 (l.length : Int), .bool false, .bool false, .slice pl l.length cl, .int .i64 (l.length : Int), .slice ph hs.length ch, .int .i64 (hs.length : Int), .bool false, .bool false, undef, .slice ph hs.length ch, .func (.func 72) #[] #[.pointer (some ⟨w.heap.size + 1 + 1 + 1 + 1 + 1, 0, none⟩)], .int .i64 (y.val : Nat), undef, undef, undef, undef, undef, undef, undef, undef, undef, undef, undef, undef, undef, undef, undef, undef, undef, undef, undef, undef, undef, undef, undef, undef, undef, undef, undef, undef, undef, undef, undef, undef, undef, undef, undef, undef, undef, undef, undef, undef, undef, undef, undef, undef, undef, undef, undef, undef, undef, undef, undef, undef, undef, undef, undef, undef, undef, undef, undef, undef, undef, undef, undef, undef, undef, undef, undef, undef, undef, undef, undef, undef, undef, undef], defers := [] }) ?assign ?body ?done ?stop
    case assign =>
      intro l' x W K hK
      gi_wp2
      exact hK
    case body =>
      rintro l' pre y W ⟨v, hM⟩ hlt
      have hyl : y.val < l.length := by have := hk2'.out; have := y.isLt; omega
      obtain ⟨b, off, rfl, hbw, hlc⟩ := hcell'.out y.val hyl
      have hx0 : l[y.val]?.getD 0 = vI l y.val := rfl
      rw [hx0] at hlc
      have hst := Lib.hid (natF_snoc pre y)
      obtain ⟨x, hx⟩ : ∃ x, vI l y.val = x := ⟨_, rfl⟩
      rw [hx] at hlc
      have hx' := Lib.hid hx
      have hyN : (y.val : Int) < (l.length : Int) := by omega
      have hlen : Hid ((natF pre).length ≤ 1000) := by
        show _ ≤ _
        unfold natF
        rw [List.length_map]
        have := hk1'.out; have := hk2'.out; omega
      clear hx hx0 hlt
      by_cases hp : natF pre = []
      · have hp' := Lib.hid hp
        have hl1 : Hid (x = loS (vI l) (natF (pre ++ [y]))) := by show _ = _; rw [hst.out, hp, ← hx'.out]; rfl
        have hh1 : Hid (x = hiS (vI l) (natF (pre ++ [y]))) := by show _ = _; rw [hst.out, hp, ← hx'.out]; rfl
        have hlp : (((natF pre).length : Int) == 0) = true := by rw [hp]; rfl
        have hac := hM.all.cell
        obtain ⟨pv, cv, rfl⟩ := row_slice hM.row
        have hMe : BuAt w W.drew (.slice (some ⟨b, off, none⟩) l.length cl) (vI l) (.slice pv (natF pre).length cv) (loS (vI l) (natF pre)) (hiS (vI l) (natF pre)) (natF pre) := hM.later (Below.refl _ W).drew
        have hMd : (fun W' : World => W'.cell? ⟨w.heap.size, 0, none⟩ = some (.slice (some ⟨b, off, none⟩) l.length cl) ∧ W'.cell? ⟨b, off + y.val, none⟩ = some (.int .i64 x)) W.drew := ⟨hMe.box.cell, (hM.below.cell (p := ⟨b, off + y.val, none⟩) hbw).trans hlc⟩
        have hMe' := Lib.hid hMe
        have hWW0 : Hid (KeepsFrom w6.heap.size W W.drew ∧ KeepB w.heap.size (fun b => b = w.heap.size + 1 + 1 + 1 + 1 + 1) W W.drew) := ⟨keepsFrom_below (Below.refl _ W).drew, (Below.refl _ W).drew, fun _ _ => rfl⟩
        clear hp hM hMe
        gi_wp2
        refine region_lateIn (S := (fun W' : World => W'.cell? ⟨w.heap.size, 0, none⟩ = some (.slice (some ⟨b, off, none⟩) l.length cl) ∧ W'.cell? ⟨b, off + y.val, none⟩ = some (.int .i64 x))) (fun n => n == 999) (by kernel_rfl) (by kernel_rfl) hMd (fun hHeld => ?_)
        clear hMd
        generalize World.drew W = Wd at *
        refine wpAnyL_take (i := 0) (oi := { dst := some 32, op := _, type := _, pos := _, after := _, guard := _ }) (v := ?v1) rfl (by kernel_rfl) (by kernel_rfl) (by kernel_rfl) (by kernel_rfl) (fun _ _ _ h => h) (Or.inl ⟨by kernel_rfl, ?y1⟩) hHeld ?r1
        case y1 =>
          intro w hSw
          try dsimp only at hSw
          try simp only [List.getElem_toArray, List.getElem_cons_zero, List.getElem_cons_succ]
          go_simp
          try with_reducible rfl
        try simp only [List.getElem_toArray, List.getElem_cons_zero, List.getElem_cons_succ, Act.put, List.setIfInBounds_toArray, List.set_cons_zero, List.set_cons_succ]
        refine wpAnyL_take (i := 1) (oi := { dst := some 33, op := _, type := _, pos := _, after := _, guard := _ }) (v := ?v2) rfl (by kernel_rfl) (by kernel_rfl) (by kernel_rfl) (by kernel_rfl) (fun _ _ _ h => h) (Or.inl ⟨by kernel_rfl, ?y2⟩) hHeld ?r2
        case y2 =>
          intro w hSw
          try dsimp only at hSw
          try simp only [List.getElem_toArray, List.getElem_cons_zero, List.getElem_cons_succ]
          go_simp
          try with_reducible rfl
        try simp only [List.getElem_toArray, List.getElem_cons_zero, List.getElem_cons_succ, Act.put, List.setIfInBounds_toArray, List.set_cons_zero, List.set_cons_succ]
        refine wpAnyL_take (i := 2) (oi := { dst := some 34, op := _, type := _, pos := _, after := _, guard := _ }) (v := ?v3) rfl (by kernel_rfl) (by kernel_rfl) (by kernel_rfl) (by kernel_rfl) (fun _ _ _ h => h) (Or.inl ⟨by kernel_rfl, ?y3⟩) hHeld ?r3
        case y3 =>
          intro w hSw
          try dsimp only at hSw
          try simp only [List.getElem_toArray, List.getElem_cons_zero, List.getElem_cons_succ]
          go_simp
          try with_reducible rfl
        try simp only [List.getElem_toArray, List.getElem_cons_zero, List.getElem_cons_succ, Act.put, List.setIfInBounds_toArray, List.set_cons_zero, List.set_cons_succ]
        refine wpAnyL_take (i := 3) (oi := { dst := some 35, op := _, type := _, pos := _, after := _, guard := _ }) (v := ?v4) rfl (by kernel_rfl) (by kernel_rfl) (by kernel_rfl) (by kernel_rfl) (fun _ _ _ h => h) (Or.inl ⟨by kernel_rfl, ?y4⟩) hHeld ?r4
        case y4 =>
          intro w hSw
          try dsimp only at hSw
          try simp only [List.getElem_toArray, List.getElem_cons_zero, List.getElem_cons_succ]
          go_simp
          try with_reducible rfl
        try simp only [List.getElem_toArray, List.getElem_cons_zero, List.getElem_cons_succ, Act.put, List.setIfInBounds_toArray, List.set_cons_zero, List.set_cons_succ]
        refine wpAnyL_take (i := 4) (oi := { dst := some 36, op := _, type := _, pos := _, after := _, guard := _ }) (v := ?v5) rfl (by kernel_rfl) (by kernel_rfl) (by kernel_rfl) (by kernel_rfl) (fun _ _ _ h => h) (Or.inl ⟨by kernel_rfl, ?y5⟩) hHeld ?r5
        case y5 =>
          intro w hSw
          try dsimp only at hSw
          try simp only [List.getElem_toArray, List.getElem_cons_zero, List.getElem_cons_succ]
          go_simp
          try with_reducible rfl
        try simp only [List.getElem_toArray, List.getElem_cons_zero, List.getElem_cons_succ, Act.put, List.setIfInBounds_toArray, List.set_cons_zero, List.set_cons_succ]
        refine wpAnyL_take (i := 5) (oi := { dst := some 37, op := _, type := _, pos := _, after := _, guard := _ }) (v := ?v6) rfl (by kernel_rfl) (by kernel_rfl) (by kernel_rfl) (by kernel_rfl) (fun _ _ _ h => h) (Or.inl ⟨by kernel_rfl, ?y6⟩) hHeld ?r6
        case y6 =>
          intro w hSw
          try dsimp only at hSw
          try simp only [List.getElem_toArray, List.getElem_cons_zero, List.getElem_cons_succ]
          go_simp
          try with_reducible rfl
        try simp only [List.getElem_toArray, List.getElem_cons_zero, List.getElem_cons_succ, Act.put, List.setIfInBounds_toArray, List.set_cons_zero, List.set_cons_succ]
        refine wpAnyL_take (i := 6) (oi := { dst := some 38, op := _, type := _, pos := _, after := _, guard := _ }) (v := ?v7) rfl (by kernel_rfl) (by kernel_rfl) (by kernel_rfl) (by kernel_rfl) (fun _ _ _ h => h) (Or.inl ⟨by kernel_rfl, ?y7⟩) hHeld ?r7
        case y7 =>
          intro w hSw
          try dsimp only at hSw
          try simp only [List.getElem_toArray, List.getElem_cons_zero, List.getElem_cons_succ]
          go_simp
          try with_reducible rfl
        try simp only [List.getElem_toArray, List.getElem_cons_zero, List.getElem_cons_succ, Act.put, List.setIfInBounds_toArray, List.set_cons_zero, List.set_cons_succ]
        refine wpAnyL_take (i := 7) (oi := { dst := some 39, op := _, type := _, pos := _, after := _, guard := _ }) (v := ?v8) rfl (by kernel_rfl) (by kernel_rfl) (by kernel_rfl) (by kernel_rfl) (fun _ _ _ h => h) (Or.inl ⟨by kernel_rfl, ?y8⟩) hHeld ?r8
        case y8 =>
          intro w hSw
          try dsimp only at hSw
          try simp only [List.getElem_toArray, List.getElem_cons_zero, List.getElem_cons_succ]
          go_simp
          try with_reducible rfl
        try simp only [List.getElem_toArray, List.getElem_cons_zero, List.getElem_cons_succ, Act.put, List.setIfInBounds_toArray, List.set_cons_zero, List.set_cons_succ]
        refine wpAnyL_one (i := 8) (by kernel_rfl) rfl (fun K hK => ?_)
        have f1 := hMe'.out.lo.frozen
        have e1 := hMe'.out.lo.cell
        have f2 := hMe'.out.hi.frozen
        have e2 := hMe'.out.hi.cell
        try simp only [List.getElem_toArray, List.getElem_cons_zero, List.getElem_cons_succ]
        go_simp
        refine (fun (hnew : (fun W' : World => W'.cell? ⟨w.heap.size, 0, none⟩ = some (.slice (some ⟨b, off, none⟩) l.length cl) ∧ W'.cell? ⟨b, off + y.val, none⟩ = some (.int .i64 x)) _) => hK.out _ _ (fun _ => hnew) ?_) ?keep9
        case keep9 => exact (⟨(World.cell?_setCell_far _ _ _ _ (by dsimp only; omega)).trans hHeld.1, (World.cell?_setCell_far _ _ _ _ (by dsimp only; omega)).trans hHeld.2⟩)
        have hHeld' := hnew
        dsimp only at hHeld'
        clear hHeld hnew hK K
        have hHeld := hHeld'
        clear hHeld'
        try simp only [List.getElem_toArray, List.getElem_cons_zero, List.getElem_cons_succ, Act.put, List.setIfInBounds_toArray, List.set_cons_zero, List.set_cons_succ]
        refine wpAnyL_one (i := 9) (by kernel_rfl) rfl (fun K hK => ?_)
        try simp only [List.getElem_toArray, List.getElem_cons_zero, List.getElem_cons_succ]
        go_simp
        refine (fun (hnew : (fun W' : World => W'.cell? ⟨w.heap.size, 0, none⟩ = some (.slice (some ⟨b, off, none⟩) l.length cl) ∧ W'.cell? ⟨b, off + y.val, none⟩ = some (.int .i64 x)) _) => hK.out _ _ (fun _ => hnew) ?_) ?keep10
        case keep10 => exact (⟨(World.cell?_setCell_far _ _ _ _ (by dsimp only; omega)).trans hHeld.1, (World.cell?_setCell_far _ _ _ _ (by dsimp only; omega)).trans hHeld.2⟩)
        have hHeld' := hnew
        dsimp only at hHeld'
        clear hHeld hnew hK K
        have hHeld := hHeld'
        clear hHeld'
        try simp only [List.getElem_toArray, List.getElem_cons_zero, List.getElem_cons_succ, Act.put, List.setIfInBounds_toArray, List.set_cons_zero, List.set_cons_succ]
        refine wpAnyL_done (by kernel_rfl) (OnlyN.normal ?_) _
        have hM2 : BuAt w ((Wd.setCell ⟨w.heap.size + 1 + 1 + 1, 0, none⟩ (.int .i64 x)).setCell ⟨w.heap.size + 1 + 1 + 1 + 1, 0, none⟩ (.int .i64 x)) (.slice (some ⟨b, off, none⟩) l.length cl) (vI l) (.slice pv (natF pre).length cv) x x (natF pre) := hMe'.out.set2 x x
        have hWW : Hid (KeepsFrom w6.heap.size W ((Wd.setCell ⟨w.heap.size + 1 + 1 + 1, 0, none⟩ (.int .i64 x)).setCell ⟨w.heap.size + 1 + 1 + 1 + 1, 0, none⟩ (.int .i64 x)) ∧ KeepB w.heap.size (fun b => b = w.heap.size + 1 + 1 + 1 + 1 + 1) W ((Wd.setCell ⟨w.heap.size + 1 + 1 + 1, 0, none⟩ (.int .i64 x)).setCell ⟨w.heap.size + 1 + 1 + 1 + 1, 0, none⟩ (.int .i64 x))) :=
          ⟨(hWW0.out.1.trans (keepsFrom_set (p := ⟨w.heap.size + 1 + 1 + 1, 0, none⟩) (by dsimp only; omega) _)).trans (keepsFrom_set (p := ⟨w.heap.size + 1 + 1 + 1 + 1, 0, none⟩) (by dsimp only; omega) _),
           KeepB.trans (KeepB.trans hWW0.out.2 (keepB_set (p := ⟨w.heap.size + 1 + 1 + 1, 0, none⟩) (by dsimp only; omega) (by dsimp only; omega) _)) (keepB_set (p := ⟨w.heap.size + 1 + 1 + 1 + 1, 0, none⟩) (by dsimp only; omega) (by dsimp only; omega) _)⟩
        clear f1 e1 f2 e2 hHeld hMe' hWW0 hac
        generalize (Wd.setCell ⟨w.heap.size + 1 + 1 + 1, 0, none⟩ (.int .i64 x)).setCell ⟨w.heap.size + 1 + 1 + 1 + 1, 0, none⟩ (.int .i64 x) = W2 at *
        have hac := hM2.all.cell
        have hMe : BuAt w W2.drew (.slice (some ⟨b, off, none⟩) l.length cl) (vI l) (.slice pv (natF pre).length cv) x x (natF pre) := hM2.later (Below.refl _ W2).drew
        have hMd : (fun W' : World => W'.cell? ⟨w.heap.size, 0, none⟩ = some (.slice (some ⟨b, off, none⟩) l.length cl) ∧ W'.cell? ⟨b, off + y.val, none⟩ = some (.int .i64 x) ∧ W'.cell? ⟨w.heap.size + 1 + 1 + 1, 0, none⟩ = some (.int .i64 x) ∧ W'.cell? ⟨w.heap.size + 1 + 1 + 1 + 1, 0, none⟩ = some (.int .i64 x)) W2.drew := ⟨hMe.box.cell, (hM2.below.cell (p := ⟨b, off + y.val, none⟩) hbw).trans hlc, hMe.lo.cell, hMe.hi.cell⟩
        have hMe' := Lib.hid hMe
        have hKd : Hid (KeepsFrom w6.heap.size W W2.drew ∧ KeepB w.heap.size (fun b => b = w.heap.size + 1 + 1 + 1 + 1 + 1) W W2.drew) := ⟨hWW.out.1.trans (keepsFrom_below (Below.refl _ W2).drew), hWW.out.2.1.drew, hWW.out.2.2⟩
        clear hMe hM2 hWW
        gi_wp2
        refine region_DIn (S := (fun W' : World => W'.cell? ⟨w.heap.size, 0, none⟩ = some (.slice (some ⟨b, off, none⟩) l.length cl) ∧ W'.cell? ⟨b, off + y.val, none⟩ = some (.int .i64 x) ∧ W'.cell? ⟨w.heap.size + 1 + 1 + 1, 0, none⟩ = some (.int .i64 x) ∧ W'.cell? ⟨w.heap.size + 1 + 1 + 1 + 1, 0, none⟩ = some (.int .i64 x))) (T := (fun W' : World => W'.cell? ⟨w.heap.size, 0, none⟩ = some (.slice (some ⟨b, off, none⟩) l.length cl) ∧ W'.cell? ⟨b, off + y.val, none⟩ = some (.int .i64 x) ∧ W'.cell? ⟨w.heap.size + 1 + 1 + 1 + 1, 0, none⟩ = some (.int .i64 x))) (fun n => if n == 13 then 2 else if n == 12 then 1 else 0) (by kernel_rfl) (by kernel_rfl) hMd (fun hHeld => ?_)
        clear hMd
        generalize World.drew W2 = Wd2 at *
        refine wpAnyD_takeS (i := 0) (oi := { dst := some 40, op := _, type := _, pos := _, after := _, guard := _ }) (v := ?v11) rfl (by kernel_rfl) (by kernel_rfl) (by kernel_rfl) (by kernel_rfl) (fun _ _ _ h => h) (Or.inl ⟨by kernel_rfl, ?y11⟩) hHeld ?r11
        case y11 =>
          intro w hSw
          try dsimp only at hSw
          try simp only [List.getElem_toArray, List.getElem_cons_zero, List.getElem_cons_succ]
          go_simp
          try with_reducible rfl
        try simp only [List.getElem_toArray, List.getElem_cons_zero, List.getElem_cons_succ, Act.put, List.setIfInBounds_toArray, List.set_cons_zero, List.set_cons_succ]
        refine wpAnyD_takeT (i := 1) (oi := { dst := some 41, op := _, type := _, pos := _, after := _, guard := _ }) (v := ?v12) rfl (by kernel_rfl) (by kernel_rfl) (by kernel_rfl) (by kernel_rfl) (fun _ _ _ h => h) (Or.inl ⟨by kernel_rfl, ?y12⟩) (⟨hHeld.1, hHeld.2.1, hHeld.2.2.2⟩) ?r12
        case y12 =>
          intro w hSw
          try dsimp only at hSw
          try simp only [List.getElem_toArray, List.getElem_cons_zero, List.getElem_cons_succ]
          go_simp
          try with_reducible rfl
        try simp only [List.getElem_toArray, List.getElem_cons_zero, List.getElem_cons_succ, Act.put, List.setIfInBounds_toArray, List.set_cons_zero, List.set_cons_succ]
        refine wpAnyD_takeT (i := 2) (oi := { dst := some 42, op := _, type := _, pos := _, after := _, guard := _ }) (v := ?v13) rfl (by kernel_rfl) (by kernel_rfl) (by kernel_rfl) (by kernel_rfl) (fun _ _ _ h => h) (Or.inl ⟨by kernel_rfl, ?y13⟩) (⟨hHeld.1, hHeld.2.1, hHeld.2.2.2⟩) ?r13
        case y13 =>
          intro w hSw
          try dsimp only at hSw
          try simp only [List.getElem_toArray, List.getElem_cons_zero, List.getElem_cons_succ]
          go_simp
          try with_reducible rfl
        try simp only [List.getElem_toArray, List.getElem_cons_zero, List.getElem_cons_succ, Act.put, List.setIfInBounds_toArray, List.set_cons_zero, List.set_cons_succ]
        refine wpAnyD_takeT (i := 3) (oi := { dst := some 43, op := _, type := _, pos := _, after := _, guard := _ }) (v := ?v14) rfl (by kernel_rfl) (by kernel_rfl) (by kernel_rfl) (by kernel_rfl) (fun _ _ _ h => h) (Or.inl ⟨by kernel_rfl, ?y14⟩) (⟨hHeld.1, hHeld.2.1, hHeld.2.2.2⟩) ?r14
        case y14 =>
          intro w hSw
          try dsimp only at hSw
          try simp only [List.getElem_toArray, List.getElem_cons_zero, List.getElem_cons_succ]
          go_simp
          try with_reducible rfl
        try simp only [List.getElem_toArray, List.getElem_cons_zero, List.getElem_cons_succ, Act.put, List.setIfInBounds_toArray, List.set_cons_zero, List.set_cons_succ]
        refine wpAnyD_takeT (i := 4) (oi := { dst := some 44, op := _, type := _, pos := _, after := _, guard := _ }) (v := ?v15) rfl (by kernel_rfl) (by kernel_rfl) (by kernel_rfl) (by kernel_rfl) (fun _ _ _ h => h) (Or.inl ⟨by kernel_rfl, ?y15⟩) (⟨hHeld.1, hHeld.2.1, hHeld.2.2.2⟩) ?r15
        case y15 =>
          intro w hSw
          try dsimp only at hSw
          try simp only [List.getElem_toArray, List.getElem_cons_zero, List.getElem_cons_succ]
          go_simp
          try with_reducible rfl
        try simp only [List.getElem_toArray, List.getElem_cons_zero, List.getElem_cons_succ, Act.put, List.setIfInBounds_toArray, List.set_cons_zero, List.set_cons_succ]
        refine wpAnyD_takeT (i := 5) (oi := { dst := some 45, op := _, type := _, pos := _, after := _, guard := _ }) (v := ?v16) rfl (by kernel_rfl) (by kernel_rfl) (by kernel_rfl) (by kernel_rfl) (fun _ _ _ h => h) (Or.inl ⟨by kernel_rfl, ?y16⟩) (⟨hHeld.1, hHeld.2.1, hHeld.2.2.2⟩) ?r16
        case y16 =>
          intro w hSw
          try dsimp only at hSw
          try simp only [List.getElem_toArray, List.getElem_cons_zero, List.getElem_cons_succ]
          go_simp
          try with_reducible rfl
        try simp only [List.getElem_toArray, List.getElem_cons_zero, List.getElem_cons_succ, Act.put, List.setIfInBounds_toArray, List.set_cons_zero, List.set_cons_succ]
        refine wpAnyD_takeT (i := 6) (oi := { dst := some 46, op := _, type := _, pos := _, after := _, guard := _ }) (v := ?v17) rfl (by kernel_rfl) (by kernel_rfl) (by kernel_rfl) (by kernel_rfl) (fun _ _ _ h => h) (Or.inl ⟨by kernel_rfl, ?y17⟩) (⟨hHeld.1, hHeld.2.1, hHeld.2.2.2⟩) ?r17
        case y17 =>
          intro w hSw
          try dsimp only at hSw
          try simp only [List.getElem_toArray, List.getElem_cons_zero, List.getElem_cons_succ]
          go_simp
          try with_reducible rfl
        try simp only [List.getElem_toArray, List.getElem_cons_zero, List.getElem_cons_succ, Act.put, List.setIfInBounds_toArray, List.set_cons_zero, List.set_cons_succ]
        refine wpAnyD_takeT (i := 7) (oi := { dst := some 47, op := _, type := _, pos := _, after := _, guard := _ }) (v := ?v18) rfl (by kernel_rfl) (by kernel_rfl) (by kernel_rfl) (by kernel_rfl) (fun _ _ _ h => h) (Or.inl ⟨by kernel_rfl, ?y18⟩) (⟨hHeld.1, hHeld.2.1, hHeld.2.2.2⟩) ?r18
        case y18 =>
          intro w hSw
          try dsimp only at hSw
          try simp only [List.getElem_toArray, List.getElem_cons_zero, List.getElem_cons_succ]
          go_simp
          try with_reducible rfl
        try simp only [List.getElem_toArray, List.getElem_cons_zero, List.getElem_cons_succ, Act.put, List.setIfInBounds_toArray, List.set_cons_zero, List.set_cons_succ]
        refine wpAnyD_takeT (i := 8) (oi := { dst := some 48, op := _, type := _, pos := _, after := _, guard := _ }) (v := ?v19) rfl (by kernel_rfl) (by kernel_rfl) (by kernel_rfl) (by kernel_rfl) (fun _ _ _ h => h) (Or.inl ⟨by kernel_rfl, ?y19⟩) (⟨hHeld.1, hHeld.2.1, hHeld.2.2.2⟩) ?r19
        case y19 =>
          intro w hSw
          try dsimp only at hSw
          try simp only [List.getElem_toArray, List.getElem_cons_zero, List.getElem_cons_succ]
          go_simp
          try with_reducible rfl
        try simp only [List.getElem_toArray, List.getElem_cons_zero, List.getElem_cons_succ, Act.put, List.setIfInBounds_toArray, List.set_cons_zero, List.set_cons_succ]
        refine wpAnyD_takeT (i := 9) (oi := { dst := some 49, op := _, type := _, pos := _, after := _, guard := _ }) (v := ?v20) rfl (by kernel_rfl) (by kernel_rfl) (by kernel_rfl) (by kernel_rfl) (fun _ _ _ h => h) (Or.inl ⟨by kernel_rfl, ?y20⟩) (⟨hHeld.1, hHeld.2.1, hHeld.2.2.2⟩) ?r20
        case y20 =>
          intro w hSw
          try dsimp only at hSw
          try simp only [List.getElem_toArray, List.getElem_cons_zero, List.getElem_cons_succ]
          go_simp
          try with_reducible rfl
        try simp only [List.getElem_toArray, List.getElem_cons_zero, List.getElem_cons_succ, Act.put, List.setIfInBounds_toArray, List.set_cons_zero, List.set_cons_succ]
        refine wpAnyD_takeT (i := 10) (oi := { dst := some 50, op := _, type := _, pos := _, after := _, guard := _ }) (v := ?v21) rfl (by kernel_rfl) (by kernel_rfl) (by kernel_rfl) (by kernel_rfl) (fun _ _ _ h => h) (Or.inl ⟨by kernel_rfl, ?y21⟩) (⟨hHeld.1, hHeld.2.1, hHeld.2.2.2⟩) ?r21
        case y21 =>
          intro w hSw
          try dsimp only at hSw
          try simp only [List.getElem_toArray, List.getElem_cons_zero, List.getElem_cons_succ]
          go_simp
          try with_reducible rfl
        try simp only [List.getElem_toArray, List.getElem_cons_zero, List.getElem_cons_succ, Act.put, List.setIfInBounds_toArray, List.set_cons_zero, List.set_cons_succ]
        refine wpAnyD_takeT (i := 11) (oi := { dst := some 51, op := _, type := _, pos := _, after := _, guard := _ }) (v := ?v22) rfl (by kernel_rfl) (by kernel_rfl) (by kernel_rfl) (by kernel_rfl) (fun _ _ _ h => h) (Or.inl ⟨by kernel_rfl, ?y22⟩) (⟨hHeld.1, hHeld.2.1, hHeld.2.2.2⟩) ?r22
        case y22 =>
          intro w hSw
          try dsimp only at hSw
          try simp only [List.getElem_toArray, List.getElem_cons_zero, List.getElem_cons_succ]
          go_simp
          try with_reducible rfl
        try simp only [List.getElem_toArray, List.getElem_cons_zero, List.getElem_cons_succ, Act.put, List.setIfInBounds_toArray, List.set_cons_zero, List.set_cons_succ]
        refine wpAnyD_one (i := 12) (by kernel_rfl) rfl (fun K hK => ?_)
        have f1 := hMe'.out.lo.frozen
        have e1 := hMe'.out.lo.cell
        have f2 := hMe'.out.hi.frozen
        have e2 := hMe'.out.hi.cell
        try simp only [List.getElem_toArray, List.getElem_cons_zero, List.getElem_cons_succ]
        go_simp
        refine hK.out _ _ ⟨(fun h => by cases h), (fun _ _ => ?keep23)⟩ ?_
        case keep23 => exact (⟨(World.cell?_setCell_far _ _ _ _ (by dsimp only; omega)).trans hHeld.1, (World.cell?_setCell_far _ _ _ _ (by dsimp only; omega)).trans hHeld.2.1, (World.cell?_setCell_far _ _ _ _ (by dsimp only; omega)).trans hHeld.2.2.2⟩)
        clear hK K
        try simp only [List.getElem_toArray, List.getElem_cons_zero, List.getElem_cons_succ, Act.put, List.setIfInBounds_toArray, List.set_cons_zero, List.set_cons_succ]
        refine wpAnyD_one (i := 13) (by kernel_rfl) rfl (fun K hK => ?_)
        try simp only [List.getElem_toArray, List.getElem_cons_zero, List.getElem_cons_succ]
        go_simp
        refine hK.out _ _ ⟨(fun h => by cases h), (fun h => absurd h (by decide))⟩ ?_
        clear hK K
        try simp only [List.getElem_toArray, List.getElem_cons_zero, List.getElem_cons_succ, Act.put, List.setIfInBounds_toArray, List.set_cons_zero, List.set_cons_succ]
        refine wpAnyD_done (by kernel_rfl) (OnlyN.normal ?_) _
        have hM3 := Lib.hid (hMe'.out.set2 x x)
        have hK3 : Hid (KeepsFrom w6.heap.size W ((Wd2.setCell ⟨w.heap.size + 1 + 1 + 1, 0, none⟩ (.int .i64 x)).setCell ⟨w.heap.size + 1 + 1 + 1 + 1, 0, none⟩ (.int .i64 x)) ∧ KeepB w.heap.size (fun b => b = w.heap.size + 1 + 1 + 1 + 1 + 1) W ((Wd2.setCell ⟨w.heap.size + 1 + 1 + 1, 0, none⟩ (.int .i64 x)).setCell ⟨w.heap.size + 1 + 1 + 1 + 1, 0, none⟩ (.int .i64 x))) :=
          ⟨(hKd.out.1.trans (keepsFrom_set (p := ⟨w.heap.size + 1 + 1 + 1, 0, none⟩) (by dsimp only; omega) _)).trans (keepsFrom_set (p := ⟨w.heap.size + 1 + 1 + 1 + 1, 0, none⟩) (by dsimp only; omega) _),
           KeepB.trans (KeepB.trans hKd.out.2 (keepB_set (p := ⟨w.heap.size + 1 + 1 + 1, 0, none⟩) (by dsimp only; omega) (by dsimp only; omega) _)) (keepB_set (p := ⟨w.heap.size + 1 + 1 + 1 + 1, 0, none⟩) (by dsimp only; omega) (by dsimp only; omega) _)⟩
        clear f1 e1 f2 e2 hHeld hMe' hKd
        generalize (Wd2.setCell ⟨w.heap.size + 1 + 1 + 1, 0, none⟩ (.int .i64 x)).setCell ⟨w.heap.size + 1 + 1 + 1 + 1, 0, none⟩ (.int .i64 x) = W3 at *
        have hac := hM3.out.all.cell
        have haf := hM3.out.all.frozen
        have hrow := hM3.out.row
        have hs3 := Lib.hid hM3.out.size
        gi_wp2_with (gi_at_builtin; refine wpListIn_append_own_at _ rfl _ _ 24 rfl (w.heap.size + 6) 3 i0 (.int .i64 0) 1 8 Tryd.underlying24 hi hz0 hz1 hz2 rfl (by decide) _ _ _ rfl (hrow.alloc _) ⟨W3.heap.size, 0, none⟩ 1 1 [.int .i64 (y.val : Int)] rfl rfl (cell_one_new _ _ _) (by simp [Value.oneCell']) (by have := hlen.out; unfold maxLen; omega) (by have := hlen.out; omega) (by have := hs3.out; simp; omega) ?_; intro v' w1 hown' hgrow _ hloc; obtain ⟨g', cap', rfl⟩ := ownsRow_succ hown'; have hAp := Lib.hid (hM3.out.app y.val (.cells #[.int .i64 (y.val : Int)] 3) hown' hgrow); have ha2 := boxed_grown (boxed_later hM3.out.all ((Below.refl _ W3).alloc (Nat.le_refl _) (.cells #[.int .i64 (y.val : Int)] 3))) hgrow (fun e => by have := (hrow.lt _ e.symm).1; omega); have e6 := ha2.cell; have f6 := ha2.frozen)
        have hA3 : Below W3.heap.size W3 (W3.alloc (.cells #[.int .i64 (y.val : Int)] 3)) := (Below.refl _ W3).alloc (Nat.le_refl _) _
        have k1 : KeepsFrom w6.heap.size W3 (w1.setCell ⟨w.heap.size + 1 + 1, 0, none⟩ (.slice (some ⟨g', 0, none⟩) ((natF pre).length + 1) cap')) := ((keepsFrom_below hA3).trans (rowK (hrow.alloc _) hgrow)).trans (keepsFrom_set (p := ⟨w.heap.size + 1 + 1, 0, none⟩) (by dsimp only; omega) _)
        have k2 : KeepB w.heap.size (fun b => b = w.heap.size + 1 + 1 + 1 + 1 + 1) W3 (w1.setCell ⟨w.heap.size + 1 + 1, 0, none⟩ (.slice (some ⟨g', 0, none⟩) ((natF pre).length + 1) cap')) := by
          have hlt5 : w.heap.size + 1 + 1 + 1 + 1 + 1 < W3.heap.size := by have := hs3.out; omega
          refine ⟨((hA3.mono (by have := hs3.out; omega)).grown hgrow (by have := hs3.out; simp; omega) (fun g e => by have := (hrow.lt g e).1; omega)).setCell (p := ⟨w.heap.size + 1 + 1, 0, none⟩) (by dsimp only; omega) _, fun b hb => ?_⟩
          subst hb
          refine (Below.heap_setCell _ _ _ _ (by dsimp only; omega)).trans ((hgrow.block _ (by simp; omega) (fun e => by have := (hrow.lt _ e.symm).1; omega)).trans (hA3.block _ hlt5))
        refine ⟨hK3.out.1.trans k1, KeepB.trans hK3.out.2 k2, .slice (some ⟨g', 0, none⟩) ((natF pre).length + 1) cap', ?_⟩
        rw [← hl1.out, ← hh1.out, hst.out]
        exact hAp.out
      · have hp' := Lib.hid hp
        obtain ⟨lo0, hlo0⟩ : ∃ z, loS (vI l) (natF pre) = z := ⟨_, rfl⟩
        obtain ⟨hi0, hhi0⟩ : ∃ z, hiS (vI l) (natF pre) = z := ⟨_, rfl⟩
        rw [hlo0, hhi0] at hM
        obtain ⟨lo1, hlo1⟩ : ∃ z, (if x < lo0 then x else lo0) = z := ⟨_, rfl⟩
        obtain ⟨hi1, hhi1⟩ : ∃ z, (if hi0 < x then x else hi0) = z := ⟨_, rfl⟩
        have hl1 : Hid (lo1 = loS (vI l) (natF (pre ++ [y]))) := by show _ = _; rw [hst.out, loS_snoc _ hp, hlo0, hx'.out, hlo1]
        have hh1 : Hid (hi1 = hiS (vI l) (natF (pre ++ [y]))) := by show _ = _; rw [hst.out, hiS_snoc _ hp, hhi0, hx'.out, hhi1]
        have hlp : (((natF pre).length : Int) == 0) = false := by
          have := List.length_pos_iff.2 hp
          simp; omega
        have hac := hM.all.cell
        obtain ⟨pv, cv, rfl⟩ := row_slice hM.row
        have hM2 := hM
        clear hp hlo0 hhi0 hM
        have hWW0 : Hid (KeepsFrom w6.heap.size W W ∧ KeepB w.heap.size (fun b => b = w.heap.size + 1 + 1 + 1 + 1 + 1) W W) := ⟨keepsFrom_below (Below.refl _ W), Below.refl _ W, fun _ _ => rfl⟩
        have hWW := hWW0
        clear hWW0
        have hMe : BuAt w W.drew (.slice (some ⟨b, off, none⟩) l.length cl) (vI l) (.slice pv (natF pre).length cv) lo0 hi0 (natF pre) := hM2.later (Below.refl _ W).drew
        have hMd : (fun W' : World => W'.cell? ⟨w.heap.size, 0, none⟩ = some (.slice (some ⟨b, off, none⟩) l.length cl) ∧ W'.cell? ⟨b, off + y.val, none⟩ = some (.int .i64 x) ∧ W'.cell? ⟨w.heap.size + 1 + 1 + 1, 0, none⟩ = some (.int .i64 lo0) ∧ W'.cell? ⟨w.heap.size + 1 + 1 + 1 + 1, 0, none⟩ = some (.int .i64 hi0)) W.drew := ⟨hMe.box.cell, (hM2.below.cell (p := ⟨b, off + y.val, none⟩) hbw).trans hlc, hMe.lo.cell, hMe.hi.cell⟩
        have hMe' := Lib.hid hMe
        have hKd : Hid (KeepsFrom w6.heap.size W W.drew ∧ KeepB w.heap.size (fun b => b = w.heap.size + 1 + 1 + 1 + 1 + 1) W W.drew) := ⟨hWW.out.1.trans (keepsFrom_below (Below.refl _ W).drew), hWW.out.2.1.drew, hWW.out.2.2⟩
        clear hMe hM2 hWW
        gi_wp2
        refine region_DIn (S := (fun W' : World => W'.cell? ⟨w.heap.size, 0, none⟩ = some (.slice (some ⟨b, off, none⟩) l.length cl) ∧ W'.cell? ⟨b, off + y.val, none⟩ = some (.int .i64 x) ∧ W'.cell? ⟨w.heap.size + 1 + 1 + 1, 0, none⟩ = some (.int .i64 lo0) ∧ W'.cell? ⟨w.heap.size + 1 + 1 + 1 + 1, 0, none⟩ = some (.int .i64 hi0))) (T := (fun W' : World => W'.cell? ⟨w.heap.size, 0, none⟩ = some (.slice (some ⟨b, off, none⟩) l.length cl) ∧ W'.cell? ⟨b, off + y.val, none⟩ = some (.int .i64 x) ∧ W'.cell? ⟨w.heap.size + 1 + 1 + 1 + 1, 0, none⟩ = some (.int .i64 hi0))) (fun n => if n == 13 then 2 else if n == 12 then 1 else 0) (by kernel_rfl) (by kernel_rfl) hMd (fun hHeld => ?_)
        clear hMd
        generalize World.drew W = Wd2 at *
        refine wpAnyD_takeS (i := 0) (oi := { dst := some 40, op := _, type := _, pos := _, after := _, guard := _ }) (v := ?v24) rfl (by kernel_rfl) (by kernel_rfl) (by kernel_rfl) (by kernel_rfl) (fun _ _ _ h => h) (Or.inl ⟨by kernel_rfl, ?y24⟩) hHeld ?r24
        case y24 =>
          intro w hSw
          try dsimp only at hSw
          try simp only [List.getElem_toArray, List.getElem_cons_zero, List.getElem_cons_succ]
          go_simp
          try with_reducible rfl
        try simp only [List.getElem_toArray, List.getElem_cons_zero, List.getElem_cons_succ, Act.put, List.setIfInBounds_toArray, List.set_cons_zero, List.set_cons_succ]
        refine wpAnyD_takeT (i := 1) (oi := { dst := some 41, op := _, type := _, pos := _, after := _, guard := _ }) (v := ?v25) rfl (by kernel_rfl) (by kernel_rfl) (by kernel_rfl) (by kernel_rfl) (fun _ _ _ h => h) (Or.inl ⟨by kernel_rfl, ?y25⟩) (⟨hHeld.1, hHeld.2.1, hHeld.2.2.2⟩) ?r25
        case y25 =>
          intro w hSw
          try dsimp only at hSw
          try simp only [List.getElem_toArray, List.getElem_cons_zero, List.getElem_cons_succ]
          go_simp
          try with_reducible rfl
        try simp only [List.getElem_toArray, List.getElem_cons_zero, List.getElem_cons_succ, Act.put, List.setIfInBounds_toArray, List.set_cons_zero, List.set_cons_succ]
        refine wpAnyD_takeT (i := 2) (oi := { dst := some 42, op := _, type := _, pos := _, after := _, guard := _ }) (v := ?v26) rfl (by kernel_rfl) (by kernel_rfl) (by kernel_rfl) (by kernel_rfl) (fun _ _ _ h => h) (Or.inl ⟨by kernel_rfl, ?y26⟩) (⟨hHeld.1, hHeld.2.1, hHeld.2.2.2⟩) ?r26
        case y26 =>
          intro w hSw
          try dsimp only at hSw
          try simp only [List.getElem_toArray, List.getElem_cons_zero, List.getElem_cons_succ]
          go_simp
          try with_reducible rfl
        try simp only [List.getElem_toArray, List.getElem_cons_zero, List.getElem_cons_succ, Act.put, List.setIfInBounds_toArray, List.set_cons_zero, List.set_cons_succ]
        refine wpAnyD_takeT (i := 3) (oi := { dst := some 43, op := _, type := _, pos := _, after := _, guard := _ }) (v := ?v27) rfl (by kernel_rfl) (by kernel_rfl) (by kernel_rfl) (by kernel_rfl) (fun _ _ _ h => h) (Or.inl ⟨by kernel_rfl, ?y27⟩) (⟨hHeld.1, hHeld.2.1, hHeld.2.2.2⟩) ?r27
        case y27 =>
          intro w hSw
          try dsimp only at hSw
          try simp only [List.getElem_toArray, List.getElem_cons_zero, List.getElem_cons_succ]
          go_simp
          try with_reducible rfl
        try simp only [List.getElem_toArray, List.getElem_cons_zero, List.getElem_cons_succ, Act.put, List.setIfInBounds_toArray, List.set_cons_zero, List.set_cons_succ]
        refine wpAnyD_takeT (i := 4) (oi := { dst := some 44, op := _, type := _, pos := _, after := _, guard := _ }) (v := ?v28) rfl (by kernel_rfl) (by kernel_rfl) (by kernel_rfl) (by kernel_rfl) (fun _ _ _ h => h) (Or.inl ⟨by kernel_rfl, ?y28⟩) (⟨hHeld.1, hHeld.2.1, hHeld.2.2.2⟩) ?r28
        case y28 =>
          intro w hSw
          try dsimp only at hSw
          try simp only [List.getElem_toArray, List.getElem_cons_zero, List.getElem_cons_succ]
          go_simp
          try with_reducible rfl
        try simp only [List.getElem_toArray, List.getElem_cons_zero, List.getElem_cons_succ, Act.put, List.setIfInBounds_toArray, List.set_cons_zero, List.set_cons_succ]
        refine wpAnyD_takeT (i := 5) (oi := { dst := some 45, op := _, type := _, pos := _, after := _, guard := _ }) (v := ?v29) rfl (by kernel_rfl) (by kernel_rfl) (by kernel_rfl) (by kernel_rfl) (fun _ _ _ h => h) (Or.inl ⟨by kernel_rfl, ?y29⟩) (⟨hHeld.1, hHeld.2.1, hHeld.2.2.2⟩) ?r29
        case y29 =>
          intro w hSw
          try dsimp only at hSw
          try simp only [List.getElem_toArray, List.getElem_cons_zero, List.getElem_cons_succ]
          go_simp
          try with_reducible rfl
        try simp only [List.getElem_toArray, List.getElem_cons_zero, List.getElem_cons_succ, Act.put, List.setIfInBounds_toArray, List.set_cons_zero, List.set_cons_succ]
        refine wpAnyD_takeT (i := 6) (oi := { dst := some 46, op := _, type := _, pos := _, after := _, guard := _ }) (v := ?v30) rfl (by kernel_rfl) (by kernel_rfl) (by kernel_rfl) (by kernel_rfl) (fun _ _ _ h => h) (Or.inl ⟨by kernel_rfl, ?y30⟩) (⟨hHeld.1, hHeld.2.1, hHeld.2.2.2⟩) ?r30
        case y30 =>
          intro w hSw
          try dsimp only at hSw
          try simp only [List.getElem_toArray, List.getElem_cons_zero, List.getElem_cons_succ]
          go_simp
          try with_reducible rfl
        try simp only [List.getElem_toArray, List.getElem_cons_zero, List.getElem_cons_succ, Act.put, List.setIfInBounds_toArray, List.set_cons_zero, List.set_cons_succ]
        refine wpAnyD_takeT (i := 7) (oi := { dst := some 47, op := _, type := _, pos := _, after := _, guard := _ }) (v := ?v31) rfl (by kernel_rfl) (by kernel_rfl) (by kernel_rfl) (by kernel_rfl) (fun _ _ _ h => h) (Or.inl ⟨by kernel_rfl, ?y31⟩) (⟨hHeld.1, hHeld.2.1, hHeld.2.2.2⟩) ?r31
        case y31 =>
          intro w hSw
          try dsimp only at hSw
          try simp only [List.getElem_toArray, List.getElem_cons_zero, List.getElem_cons_succ]
          go_simp
          try with_reducible rfl
        try simp only [List.getElem_toArray, List.getElem_cons_zero, List.getElem_cons_succ, Act.put, List.setIfInBounds_toArray, List.set_cons_zero, List.set_cons_succ]
        refine wpAnyD_takeT (i := 8) (oi := { dst := some 48, op := _, type := _, pos := _, after := _, guard := _ }) (v := ?v32) rfl (by kernel_rfl) (by kernel_rfl) (by kernel_rfl) (by kernel_rfl) (fun _ _ _ h => h) (Or.inl ⟨by kernel_rfl, ?y32⟩) (⟨hHeld.1, hHeld.2.1, hHeld.2.2.2⟩) ?r32
        case y32 =>
          intro w hSw
          try dsimp only at hSw
          try simp only [List.getElem_toArray, List.getElem_cons_zero, List.getElem_cons_succ]
          go_simp
          try with_reducible rfl
        try simp only [List.getElem_toArray, List.getElem_cons_zero, List.getElem_cons_succ, Act.put, List.setIfInBounds_toArray, List.set_cons_zero, List.set_cons_succ]
        refine wpAnyD_takeT (i := 9) (oi := { dst := some 49, op := _, type := _, pos := _, after := _, guard := _ }) (v := ?v33) rfl (by kernel_rfl) (by kernel_rfl) (by kernel_rfl) (by kernel_rfl) (fun _ _ _ h => h) (Or.inl ⟨by kernel_rfl, ?y33⟩) (⟨hHeld.1, hHeld.2.1, hHeld.2.2.2⟩) ?r33
        case y33 =>
          intro w hSw
          try dsimp only at hSw
          try simp only [List.getElem_toArray, List.getElem_cons_zero, List.getElem_cons_succ]
          go_simp
          try with_reducible rfl
        try simp only [List.getElem_toArray, List.getElem_cons_zero, List.getElem_cons_succ, Act.put, List.setIfInBounds_toArray, List.set_cons_zero, List.set_cons_succ]
        refine wpAnyD_takeT (i := 10) (oi := { dst := some 50, op := _, type := _, pos := _, after := _, guard := _ }) (v := ?v34) rfl (by kernel_rfl) (by kernel_rfl) (by kernel_rfl) (by kernel_rfl) (fun _ _ _ h => h) (Or.inl ⟨by kernel_rfl, ?y34⟩) (⟨hHeld.1, hHeld.2.1, hHeld.2.2.2⟩) ?r34
        case y34 =>
          intro w hSw
          try dsimp only at hSw
          try simp only [List.getElem_toArray, List.getElem_cons_zero, List.getElem_cons_succ]
          go_simp
          try with_reducible rfl
        try simp only [List.getElem_toArray, List.getElem_cons_zero, List.getElem_cons_succ, Act.put, List.setIfInBounds_toArray, List.set_cons_zero, List.set_cons_succ]
        refine wpAnyD_takeT (i := 11) (oi := { dst := some 51, op := _, type := _, pos := _, after := _, guard := _ }) (v := ?v35) rfl (by kernel_rfl) (by kernel_rfl) (by kernel_rfl) (by kernel_rfl) (fun _ _ _ h => h) (Or.inl ⟨by kernel_rfl, ?y35⟩) (⟨hHeld.1, hHeld.2.1, hHeld.2.2.2⟩) ?r35
        case y35 =>
          intro w hSw
          try dsimp only at hSw
          try simp only [List.getElem_toArray, List.getElem_cons_zero, List.getElem_cons_succ]
          go_simp
          try with_reducible rfl
        try simp only [List.getElem_toArray, List.getElem_cons_zero, List.getElem_cons_succ, Act.put, List.setIfInBounds_toArray, List.set_cons_zero, List.set_cons_succ]
        refine wpAnyD_one (i := 12) (by kernel_rfl) rfl (fun K hK => ?_)
        have f1 := hMe'.out.lo.frozen
        have e1 := hMe'.out.lo.cell
        have f2 := hMe'.out.hi.frozen
        have e2 := hMe'.out.hi.cell
        try simp only [List.getElem_toArray, List.getElem_cons_zero, List.getElem_cons_succ]
        go_simp
        refine hK.out _ _ ⟨(fun h => by cases h), (fun _ _ => ?keep36)⟩ ?_
        case keep36 => exact (⟨(World.cell?_setCell_far _ _ _ _ (by dsimp only; omega)).trans hHeld.1, (World.cell?_setCell_far _ _ _ _ (by dsimp only; omega)).trans hHeld.2.1, (World.cell?_setCell_far _ _ _ _ (by dsimp only; omega)).trans hHeld.2.2.2⟩)
        clear hK K
        try simp only [List.getElem_toArray, List.getElem_cons_zero, List.getElem_cons_succ, Act.put, List.setIfInBounds_toArray, List.set_cons_zero, List.set_cons_succ]
        refine wpAnyD_one (i := 13) (by kernel_rfl) rfl (fun K hK => ?_)
        try simp only [List.getElem_toArray, List.getElem_cons_zero, List.getElem_cons_succ]
        go_simp
        refine hK.out _ _ ⟨(fun h => by cases h), (fun h => absurd h (by decide))⟩ ?_
        clear hK K
        try simp only [List.getElem_toArray, List.getElem_cons_zero, List.getElem_cons_succ, Act.put, List.setIfInBounds_toArray, List.set_cons_zero, List.set_cons_succ]
        refine wpAnyD_done (by kernel_rfl) (OnlyN.normal ?_) _
        have hM3 := Lib.hid (hMe'.out.set2 lo1 hi1)
        have hK3 : Hid (KeepsFrom w6.heap.size W ((Wd2.setCell ⟨w.heap.size + 1 + 1 + 1, 0, none⟩ (.int .i64 lo1)).setCell ⟨w.heap.size + 1 + 1 + 1 + 1, 0, none⟩ (.int .i64 hi1)) ∧ KeepB w.heap.size (fun b => b = w.heap.size + 1 + 1 + 1 + 1 + 1) W ((Wd2.setCell ⟨w.heap.size + 1 + 1 + 1, 0, none⟩ (.int .i64 lo1)).setCell ⟨w.heap.size + 1 + 1 + 1 + 1, 0, none⟩ (.int .i64 hi1))) :=
          ⟨(hKd.out.1.trans (keepsFrom_set (p := ⟨w.heap.size + 1 + 1 + 1, 0, none⟩) (by dsimp only; omega) _)).trans (keepsFrom_set (p := ⟨w.heap.size + 1 + 1 + 1 + 1, 0, none⟩) (by dsimp only; omega) _),
           KeepB.trans (KeepB.trans hKd.out.2 (keepB_set (p := ⟨w.heap.size + 1 + 1 + 1, 0, none⟩) (by dsimp only; omega) (by dsimp only; omega) _)) (keepB_set (p := ⟨w.heap.size + 1 + 1 + 1 + 1, 0, none⟩) (by dsimp only; omega) (by dsimp only; omega) _)⟩
        clear f1 e1 f2 e2 hHeld hMe' hKd hlo1 hhi1
        generalize (Wd2.setCell ⟨w.heap.size + 1 + 1 + 1, 0, none⟩ (.int .i64 lo1)).setCell ⟨w.heap.size + 1 + 1 + 1 + 1, 0, none⟩ (.int .i64 hi1) = W3 at *
        have hac := hM3.out.all.cell
        have haf := hM3.out.all.frozen
        have hrow := hM3.out.row
        have hs3 := Lib.hid hM3.out.size
        gi_wp2_with (gi_at_builtin; refine wpListIn_append_own_at _ rfl _ _ 24 rfl (w.heap.size + 6) 3 i0 (.int .i64 0) 1 8 Tryd.underlying24 hi hz0 hz1 hz2 rfl (by decide) _ _ _ rfl (hrow.alloc _) ⟨W3.heap.size, 0, none⟩ 1 1 [.int .i64 (y.val : Int)] rfl rfl (cell_one_new _ _ _) (by simp [Value.oneCell']) (by have := hlen.out; unfold maxLen; omega) (by have := hlen.out; omega) (by have := hs3.out; simp; omega) ?_; intro v' w1 hown' hgrow _ hloc; obtain ⟨g', cap', rfl⟩ := ownsRow_succ hown'; have hAp := Lib.hid (hM3.out.app y.val (.cells #[.int .i64 (y.val : Int)] 3) hown' hgrow); have ha2 := boxed_grown (boxed_later hM3.out.all ((Below.refl _ W3).alloc (Nat.le_refl _) (.cells #[.int .i64 (y.val : Int)] 3))) hgrow (fun e => by have := (hrow.lt _ e.symm).1; omega); have e6 := ha2.cell; have f6 := ha2.frozen)
        have hA3 : Below W3.heap.size W3 (W3.alloc (.cells #[.int .i64 (y.val : Int)] 3)) := (Below.refl _ W3).alloc (Nat.le_refl _) _
        have k1 : KeepsFrom w6.heap.size W3 (w1.setCell ⟨w.heap.size + 1 + 1, 0, none⟩ (.slice (some ⟨g', 0, none⟩) ((natF pre).length + 1) cap')) := ((keepsFrom_below hA3).trans (rowK (hrow.alloc _) hgrow)).trans (keepsFrom_set (p := ⟨w.heap.size + 1 + 1, 0, none⟩) (by dsimp only; omega) _)
        have k2 : KeepB w.heap.size (fun b => b = w.heap.size + 1 + 1 + 1 + 1 + 1) W3 (w1.setCell ⟨w.heap.size + 1 + 1, 0, none⟩ (.slice (some ⟨g', 0, none⟩) ((natF pre).length + 1) cap')) := by
          have hlt5 : w.heap.size + 1 + 1 + 1 + 1 + 1 < W3.heap.size := by have := hs3.out; omega
          refine ⟨((hA3.mono (by have := hs3.out; omega)).grown hgrow (by have := hs3.out; simp; omega) (fun g e => by have := (hrow.lt g e).1; omega)).setCell (p := ⟨w.heap.size + 1 + 1, 0, none⟩) (by dsimp only; omega) _, fun b hb => ?_⟩
          subst hb
          refine (Below.heap_setCell _ _ _ _ (by dsimp only; omega)).trans ((hgrow.block _ (by simp; omega) (fun e => by have := (hrow.lt _ e.symm).1; omega)).trans (hA3.block _ hlt5))
        refine ⟨hK3.out.1.trans k1, KeepB.trans hK3.out.2 k2, .slice (some ⟨g', 0, none⟩) ((natF pre).length + 1) cap', ?_⟩
        rw [← hl1.out, ← hh1.out, hst.out]
        exact hAp.out
    case done =>
      rintro D ys W hD hys ⟨v, hM⟩ hK
      have hnf : natF ys = idxB hs := hys
      rw [hnf] at hM
      obtain ⟨pv, cv, rfl⟩ := row_slice hM.row
      obtain ⟨lo, hlo⟩ : ∃ z, loS (vI l) (idxB hs) = z := ⟨_, rfl⟩
      obtain ⟨hv, hhv⟩ : ∃ z, hiS (vI l) (idxB hs) = z := ⟨_, rfl⟩
      rw [hlo, hhv] at hM
      have hM' := Lib.hid hM
      have hK' := Lib.hid hK
      have hD' := Lib.hid hD
      have hIall := Lib.hid (ints_of_row (zs := (idxB hs).map Int.ofNat) hM.row (by rw [List.map_map]; rfl))
      have hlen : Hid ((idxB hs).length ≤ 1000) := by
        show _ ≤ _
        have := List.length_filter_le (fun i => hs[i]?.getD false) (List.range hs.length)
        rw [List.length_range] at this
        have h1 := hk1'.out; have h2 := hk2'.out
        unfold idxB
        omega
      have kmade : Hid (∀ W', Below W.heap.size W W' → Calls Tryd.prog 40 #[.slice pv (idxB hs).length cv] W' fun e W'' => ∃ u, e = .returned (.agg #[u]) ∧ HC W'' u (mkN (idxB hs)) ∧ Below W'.heap.size W' W'' ∧ Fr W'.heap.size u) := fun W' h =>
        made_any ((hIall.out.below h (Nat.le_refl _)).more h.size) (by rw [List.length_map]; have := hlen.out; omega) (hTw.out.below (hM'.out.below.trans (h.mono hM'.out.below.size)) hTw.out.lt)
      have hMd : (fun W' : World => Hid (Below W.heap.size W W') ∧ W'.cell? ⟨w.heap.size, 0, none⟩ = some (.slice pl l.length cl) ∧ W'.cell? ⟨w.heap.size + 1 + 1 + 1, 0, none⟩ = some (.int .i64 lo) ∧ W'.cell? ⟨w.heap.size + 1 + 1, 0, none⟩ = some (.slice pv (idxB hs).length cv)) W.drew := ⟨Lib.hid (Below.refl _ W).drew, hM.box.cell, hM.lo.cell, hM.all.cell⟩
      clear hM hK hD hM6 hb6 x4
      go_wp2
      refine Code.wp_mono (Q := (fun (e : Exit) (a' : Act) (Wa : World) => e = .normal ∧ ∃ (b10 : Nat) (pu : Option Addr) (cu : Nat), a' = { tmps := #[.slice pl l.length cl, .slice ph hs.length ch, .pointer (some ⟨w.heap.size, 0, none⟩), undef, .pointer (some ⟨w.heap.size + 1, 0, none⟩), .int .i64 0, .pointer (some ⟨w.heap.size + 1 + 1, 0, none⟩), .pointer (some ⟨w.heap.size + 1 + 1 + 1, 0, none⟩), .pointer (some ⟨w.heap.size + 1 + 1 + 1 + 1, 0, none⟩), undef, .pointer (some ⟨b10, 0, none⟩), undef, undef, undef, undef, .slice pl l.length cl, .int .i64 (l.length : Int), .bool false, .bool false, .slice pl l.length cl, .int .i64 (l.length : Int), .slice ph hs.length ch, .int .i64 (hs.length : Int), .bool false, .bool false, undef, .slice ph hs.length ch, .func (.func 72) #[] #[.pointer (some ⟨w.heap.size + 1 + 1 + 1 + 1 + 1, 0, none⟩)], undef, undef, undef, undef, undef, undef, undef, undef, undef, undef, undef, undef, undef, undef, undef, undef, undef, undef, undef, undef, undef, undef, undef, undef, undef, undef, undef, undef, .slice pl l.length cl, .int .i64 (l.length : Int), .int .i64 lo, .slice pv (idxB hs).length cv, .agg #[.slice pu (mkN (idxB hs)).length cu], .agg #[.int .i64 (l.length : Int), .int .i64 lo, .slice pu (mkN (idxB hs)).length cu, .slice none 0 0], undef, undef, undef, undef, undef, undef, undef, undef, undef, undef, undef, undef, undef, undef, undef, undef, undef, undef, undef, undef, undef, undef, undef, undef, undef, undef, undef, undef, undef, undef, undef, undef, undef, undef, undef, undef, undef, undef, undef, undef, undef], defers := [{ target := .collected D, args := #[] }] } ∧ Hid (W.heap.size ≤ b10) ∧ Hid (SBox Wa 31 b10 (l.length : Int) lo (.slice pu (mkN (idxB hs)).length cu) (.slice none 0 0)) ∧ Hid (HC Wa (.slice pu (mkN (idxB hs)).length cu) (mkN (idxB hs))) ∧ Hid (Below W.heap.size W Wa))) ?rest ?reg
      case reg =>
        refine region_late (S := (fun W' : World => Hid (Below W.heap.size W W') ∧ W'.cell? ⟨w.heap.size, 0, none⟩ = some (.slice pl l.length cl) ∧ W'.cell? ⟨w.heap.size + 1 + 1 + 1, 0, none⟩ = some (.int .i64 lo) ∧ W'.cell? ⟨w.heap.size + 1 + 1, 0, none⟩ = some (.slice pv (idxB hs).length cv))) (fun n => n == 7) (by kernel_rfl) hMd (fun hHeld => ?_)
        clear hMd
        generalize World.drew W = Wd at *
        refine wpAnyL_take (i := 0) (oi := { dst := some 56, op := _, type := _, pos := _, after := _, guard := _ }) (v := ?v37) rfl (by kernel_rfl) (by kernel_rfl) (by kernel_rfl) (by kernel_rfl) (fun _ _ _ h => h) (Or.inl ⟨by kernel_rfl, ?y37⟩) hHeld ?r37
        case y37 =>
          intro w hSw
          try dsimp only at hSw
          try simp only [List.getElem_toArray, List.getElem_cons_zero, List.getElem_cons_succ]
          go_simp
          try with_reducible rfl
        try simp only [List.getElem_toArray, List.getElem_cons_zero, List.getElem_cons_succ, Act.put, List.setIfInBounds_toArray, List.set_cons_zero, List.set_cons_succ]
        refine wpAnyL_take (i := 1) (oi := { dst := some 57, op := _, type := _, pos := _, after := _, guard := _ }) (v := ?v38) rfl (by kernel_rfl) (by kernel_rfl) (by kernel_rfl) (by kernel_rfl) (fun _ _ _ h => h) (Or.inl ⟨by kernel_rfl, ?y38⟩) hHeld ?r38
        case y38 =>
          intro w hSw
          try dsimp only at hSw
          try simp only [List.getElem_toArray, List.getElem_cons_zero, List.getElem_cons_succ]
          go_simp
          try with_reducible rfl
        try simp only [List.getElem_toArray, List.getElem_cons_zero, List.getElem_cons_succ, Act.put, List.setIfInBounds_toArray, List.set_cons_zero, List.set_cons_succ]
        refine wpAnyL_take (i := 2) (oi := { dst := some 58, op := _, type := _, pos := _, after := _, guard := _ }) (v := ?v39) rfl (by kernel_rfl) (by kernel_rfl) (by kernel_rfl) (by kernel_rfl) (fun _ _ _ h => h) (Or.inl ⟨by kernel_rfl, ?y39⟩) hHeld ?r39
        case y39 =>
          intro w hSw
          try dsimp only at hSw
          try simp only [List.getElem_toArray, List.getElem_cons_zero, List.getElem_cons_succ]
          go_simp
          try with_reducible rfl
        try simp only [List.getElem_toArray, List.getElem_cons_zero, List.getElem_cons_succ, Act.put, List.setIfInBounds_toArray, List.set_cons_zero, List.set_cons_succ]
        refine wpAnyL_take (i := 3) (oi := { dst := some 59, op := _, type := _, pos := _, after := _, guard := _ }) (v := ?v40) rfl (by kernel_rfl) (by kernel_rfl) (by kernel_rfl) (by kernel_rfl) (fun _ _ _ h => h) (Or.inl ⟨by kernel_rfl, ?y40⟩) hHeld ?r40
        case y40 =>
          intro w hSw
          try dsimp only at hSw
          try simp only [List.getElem_toArray, List.getElem_cons_zero, List.getElem_cons_succ]
          go_simp
          try with_reducible rfl
        try simp only [List.getElem_toArray, List.getElem_cons_zero, List.getElem_cons_succ, Act.put, List.setIfInBounds_toArray, List.set_cons_zero, List.set_cons_succ]
        refine wpAnyL_all (rs := [4, 6]) (by kernel_rfl) (by simp) ?_
        refine AllL.cons rfl (fun K hK => ?_) (AllL.cons rfl (fun K hK => ?_) AllL.nil)
        · try simp only [List.getElem_toArray, List.getElem_cons_zero, List.getElem_cons_succ]
          go_simp
          go_at_call 40
          refine (kmade.out _ hHeld.1.out).mono ?_
          rintro e Wn4 ⟨u, rfl, hu, hbn, -⟩
          obtain ⟨pu, cu, rfl, -, -⟩ := Hid.out hu
          try replace hbx := hbx.later hbn
          have hnew := Lib.hid (keep4 hbn hHeld)
          refine hK.out _ _ (fun _ => hnew.out) ?_
          have hHeld' := hnew.out
          clear hHeld hnew hK K hbn
          have hHeld := hHeld'
          clear hHeld'
          try simp only [List.getElem_toArray, List.getElem_cons_zero, List.getElem_cons_succ, Act.put, List.setIfInBounds_toArray, List.set_cons_zero, List.set_cons_succ]
          refine wpAnyL_take (i := 5) (oi := { dst := some 61, op := _, type := _, pos := _, after := _, guard := _ }) (v := ?v41) rfl (by kernel_rfl) (by kernel_rfl) (by kernel_rfl) (by kernel_rfl) (fun _ _ _ h => h) (Or.inl ⟨by kernel_rfl, ?y41⟩) hHeld ?r41
          case y41 =>
            intro w hSw
            try dsimp only at hSw
            try simp only [List.getElem_toArray, List.getElem_cons_zero, List.getElem_cons_succ]
            go_simp
            try with_reducible rfl
          try simp only [List.getElem_toArray, List.getElem_cons_zero, List.getElem_cons_succ, Act.put, List.setIfInBounds_toArray, List.set_cons_zero, List.set_cons_succ]
          refine wpAnyL_one (i := 6) (by kernel_rfl) rfl (fun K hK => ?_)
          try simp only [List.getElem_toArray, List.getElem_cons_zero, List.getElem_cons_succ]
          go_simp
          obtain ⟨Wz, b10, hw1, hw2, hb10, hbx, hAz, hq⟩ := boxnew hHeld
          rw [hw1, hw2]
          try replace hu := hu.later hAz
          refine (fun (hnew : (fun W' : World => Hid (Below W.heap.size W W') ∧ W'.cell? ⟨w.heap.size, 0, none⟩ = some (.slice pl l.length cl) ∧ W'.cell? ⟨w.heap.size + 1 + 1 + 1, 0, none⟩ = some (.int .i64 lo) ∧ W'.cell? ⟨w.heap.size + 1 + 1, 0, none⟩ = some (.slice pv (idxB hs).length cv)) _) => hK.out _ _ (fun _ => hnew) ?_) ?keep42
          case keep42 => exact (hq)
          have hHeld' := hnew
          dsimp only at hHeld'
          clear hHeld hnew hK K
          have hHeld := hHeld'
          clear hHeld'
          try simp only [List.getElem_toArray, List.getElem_cons_zero, List.getElem_cons_succ, Act.put, List.setIfInBounds_toArray, List.set_cons_zero, List.set_cons_succ]
          refine wpAnyL_one (i := 7) (by kernel_rfl) rfl (fun K hK => ?_)
          have f0 := hbx.frozen 0
          have f1 := hbx.frozen 1
          have f2 := hbx.frozen 2
          have f3 := hbx.frozen 3
          have e0 := hbx.c0
          have e1 := hbx.c1
          have e2 := hbx.c2
          have e3 := hbx.c3
          try simp only [List.getElem_toArray, List.getElem_cons_zero, List.getElem_cons_succ]
          go_simp
          refine hK.out _ _ (fun h => by cases h) ?_
          clear hK K
          try simp only [List.getElem_toArray, List.getElem_cons_zero, List.getElem_cons_succ, Act.put, List.setIfInBounds_toArray, List.set_cons_zero, List.set_cons_succ]
          refine wpAnyL_done (by kernel_rfl) (OnlyN.normal ?_) _
          refine ⟨rfl, b10, pu, cu, rfl, hb10, Lib.hid (hbx.set4 _ _ _ _), Lib.hid (hu.set4 hbx ⟨_, _, _, rfl⟩ ⟨_, _, _, rfl⟩ _ _ ⟨_, _, _, rfl⟩ _), Lib.hid ?_⟩
          exact (((hHeld.1.out.setCell (p := ⟨b10, 0, none⟩) hb10.out _).setCell (p := ⟨b10, 1, none⟩) hb10.out _).setCell (p := ⟨b10, 2, none⟩) hb10.out _).setCell (p := ⟨b10, 3, none⟩) hb10.out _
        · try simp only [List.getElem_toArray, List.getElem_cons_zero, List.getElem_cons_succ]
          go_simp
          obtain ⟨Wz, b10, hw1, hw2, hb10, hbx, hAz, hq⟩ := boxnew hHeld
          rw [hw1, hw2]
          try replace hu := hu.later hAz
          refine (fun (hnew : (fun W' : World => Hid (Below W.heap.size W W') ∧ W'.cell? ⟨w.heap.size, 0, none⟩ = some (.slice pl l.length cl) ∧ W'.cell? ⟨w.heap.size + 1 + 1 + 1, 0, none⟩ = some (.int .i64 lo) ∧ W'.cell? ⟨w.heap.size + 1 + 1, 0, none⟩ = some (.slice pv (idxB hs).length cv)) _) => hK.out _ _ (fun _ => hnew) ?_) ?keep43
          case keep43 => exact (hq)
          have hHeld' := hnew
          dsimp only at hHeld'
          clear hHeld hnew hK K
          have hHeld := hHeld'
          clear hHeld'
          try simp only [List.getElem_toArray, List.getElem_cons_zero, List.getElem_cons_succ, Act.put, List.setIfInBounds_toArray, List.set_cons_zero, List.set_cons_succ]
          refine wpAnyL_one (i := 4) (by kernel_rfl) rfl (fun K hK => ?_)
          try simp only [List.getElem_toArray, List.getElem_cons_zero, List.getElem_cons_succ]
          go_simp
          go_at_call 40
          refine (kmade.out _ hHeld.1.out).mono ?_
          rintro e Wn4 ⟨u, rfl, hu, hbn, -⟩
          obtain ⟨pu, cu, rfl, -, -⟩ := Hid.out hu
          try replace hbx := hbx.later hbn
          have hnew := Lib.hid (keep4 hbn hHeld)
          refine hK.out _ _ (fun _ => hnew.out) ?_
          have hHeld' := hnew.out
          clear hHeld hnew hK K hbn
          have hHeld := hHeld'
          clear hHeld'
          try simp only [List.getElem_toArray, List.getElem_cons_zero, List.getElem_cons_succ, Act.put, List.setIfInBounds_toArray, List.set_cons_zero, List.set_cons_succ]
          refine wpAnyL_take (i := 5) (oi := { dst := some 61, op := _, type := _, pos := _, after := _, guard := _ }) (v := ?v44) rfl (by kernel_rfl) (by kernel_rfl) (by kernel_rfl) (by kernel_rfl) (fun _ _ _ h => h) (Or.inl ⟨by kernel_rfl, ?y44⟩) hHeld ?r44
          case y44 =>
            intro w hSw
            try dsimp only at hSw
            try simp only [List.getElem_toArray, List.getElem_cons_zero, List.getElem_cons_succ]
            go_simp
            try with_reducible rfl
          try simp only [List.getElem_toArray, List.getElem_cons_zero, List.getElem_cons_succ, Act.put, List.setIfInBounds_toArray, List.set_cons_zero, List.set_cons_succ]
          refine wpAnyL_one (i := 7) (by kernel_rfl) rfl (fun K hK => ?_)
          have f0 := hbx.frozen 0
          have f1 := hbx.frozen 1
          have f2 := hbx.frozen 2
          have f3 := hbx.frozen 3
          have e0 := hbx.c0
          have e1 := hbx.c1
          have e2 := hbx.c2
          have e3 := hbx.c3
          try simp only [List.getElem_toArray, List.getElem_cons_zero, List.getElem_cons_succ]
          go_simp
          refine hK.out _ _ (fun h => by cases h) ?_
          clear hK K
          try simp only [List.getElem_toArray, List.getElem_cons_zero, List.getElem_cons_succ, Act.put, List.setIfInBounds_toArray, List.set_cons_zero, List.set_cons_succ]
          refine wpAnyL_done (by kernel_rfl) (OnlyN.normal ?_) _
          refine ⟨rfl, b10, pu, cu, rfl, hb10, Lib.hid (hbx.set4 _ _ _ _), Lib.hid (hu.set4 hbx ⟨_, _, _, rfl⟩ ⟨_, _, _, rfl⟩ _ _ ⟨_, _, _, rfl⟩ _), Lib.hid ?_⟩
          exact (((hHeld.1.out.setCell (p := ⟨b10, 0, none⟩) hb10.out _).setCell (p := ⟨b10, 1, none⟩) hb10.out _).setCell (p := ⟨b10, 2, none⟩) hb10.out _).setCell (p := ⟨b10, 3, none⟩) hb10.out _
      case rest =>
        rintro e a' Wa ⟨rfl, b10, pu, cu, rfl, hb10, hbx, hu, hBa⟩
        have hua : Hid (∀ {x : Nat}, mkN (idxB hs) ≠ [] → Value.ownBlock (.slice pu (mkN (idxB hs)).length cu) = some x → x < Wa.heap.size) := fun hne hx => hc_block hu.out hne hx
        have hb10a' : Hid (b10 < Wa.heap.size) := hbx.out.lt
        have hlr := hrg'.out
        have hls := loS_spec (vI l) (idxB hs)
        have hhs := hiS_spec (vI l) (idxB hs)
        rw [hlo] at hls
        rw [hhv] at hhs
        have hb3 : (-9223372036854775808 ≤ lo ∧ lo ≤ 9223372036854775807) ∧ (-9223372036854775808 ≤ hv ∧ hv ≤ 9223372036854775807) ∧ lo ≤ hv := by
          by_cases he : idxB hs = []
          · rw [he] at hlo hhv
            rw [loS_nil] at hlo
            rw [hiS_nil] at hhv
            omega
          · obtain ⟨a, ha, ea⟩ := hls.1 he
            obtain ⟨c, hc, ec⟩ := hhs.1 he
            have h1 := hlr a; have h2 := hlr c; have h3 := hls.2 c hc
            omega
        obtain ⟨X, hX⟩ : ∃ X : Nat, (hv - lo).toNat = X := ⟨_, rfl⟩
        have hub : IntKind.u64.wrap (IntKind.u64.wrap hv - IntKind.u64.wrap lo) = (X : Int) := by
          rw [IntKind.wrap_u64, IntKind.wrap_u64, IntKind.wrap_u64]; omega
        have hX64 : X < 18446744073709551616 := by omega
        have hdn : digN l hs = lenB X := by unfold digN; rw [hlo, hhv, hX]
        have kl : Hid (∀ W', Calls Tryd.prog 41 #[.int .u64 (X : Int)] W' fun e w' => e = .returned (.int .i64 (lenB X : Nat)) ∧ W' = w') := fun W' => (len64_any (X : Int) W' (by omega) (by omega)).mono fun _ _ h => ⟨h.1, h.2.symm⟩
        have hd64 : Hid (lenB X ≤ 64) := by
          show _ ≤ _
          exact lenB_le.2 (by have : (2 : Nat) ^ 64 = 18446744073709551616 := by decide
                              omega)
        obtain ⟨dn, hdn2⟩ : ∃ dn, lenB X = dn := ⟨_, rfl⟩
        rw [hdn2] at kl hd64 hdn
        have hupF : Hid (∀ i ∈ idxB hs, IntKind.u64.wrap (IntKind.u64.wrap (vI l i) - IntKind.u64.wrap lo) = ((upBy l hs i : Nat) : Int) ∧ upBy l hs i < 18446744073709551616) := fun i hi => by
          have h1 := hls.2 i hi; have h2 := hlr i
          unfold upBy
          rw [hlo, IntKind.wrap_u64, IntKind.wrap_u64, IntKind.wrap_u64]
          omega
        have hdn' := Lib.hid hdn
        have hlo' := Lib.hid hlo
        have b7 := (boxed_later hM'.out.lo hBa.out).cell
        have b8 := (boxed_later hM'.out.hi hBa.out).cell
        clear hlr hls hhs hb3 hX hX64 hdn hdn2 hlo hhv kmade
        go_wp2_with (go_at_call 41; refine (kl.out _).mono ?_; rintro e w' ⟨rfl, rfl⟩)
        clear b7 b8 hub kl
        obtain ⟨dgs, hdgs⟩ : ∃ dgs : Nat → List (List Ch), dgs = fun k => (List.range k).map fun k => mkN (rowsD l hs k) := ⟨_, rfl⟩
        have hdl : Hid (∀ k, (dgs k).length = k ∧ dgs (k + 1) = dgs k ++ [mkN (rowsD l hs k)]) := fun k => by
          subst hdgs
          exact ⟨by simp, by simp [List.range_succ]⟩
        have hdgs' := Lib.hid hdgs
        clear hdgs
        go_loopw [68] (fun i wr => ∃ (k : Nat) (vb : Value), k ≤ dn ∧ i = .int .i64 k ∧ Hid (SBox wr 31 b10 (l.length : Int) lo (.slice pu (mkN (idxB hs)).length cu) vb) ∧ Hid (HC wr (.slice pu (mkN (idxB hs)).length cu) (mkN (idxB hs))) ∧ Hid (RowR wr Wa.heap.size vb (dgs k)) ∧ Hid (Below W.heap.size W wr) ∧ Hid (Wa.heap.size ≤ wr.heap.size))
          (fun i _ => dn - (intOf i).toNat)
        case atStart => exact ⟨0, _, Nat.zero_le _, rfl, hbx, hu, (by have := hdgs'.out; show RowR _ _ _ _; rw [this]; exact RowR.nil _ _), hBa, Lib.hid (Nat.le_refl _)⟩
        case round =>
          obtain ⟨k, vb, hk, rfl, hbx, hu, hrw, hB, hsz⟩ := hrel
          by_cases hlt : k < dn
          · have hkd : decide (k < dn) = true := decide_eq_true hlt
            have hltk := Lib.hid hlt
            have hkd2 : decide ((k : Int) < (dn : Int)) = true := decide_eq_true (by omega)
            have b6 := (boxed_later hM'.out.all hB.out).cell
            go_wp2
            clear b6
            obtain ⟨wo, hwo⟩ : ∃ wo, wo = wr := ⟨_, rfl⟩
            subst hwo
            go_loopw [12, 73] (fun v12 j wi => ∃ m : Nat, m ≤ (idxB hs).length ∧ j = .int .i64 m ∧ Hid (wi.ownsRow wo.heap.size 3 1 v12 (((idxB hs).take m).filter fun i => (upBy l hs i).testBit k).length ((((idxB hs).take m).filter fun i => (upBy l hs i).testBit k).map fun n : Nat => .int .i64 (n : Int))) ∧ Hid (Below wo.heap.size wo wi))
              (fun _ j _ => (idxB hs).length - (intOf j).toNat)
            case atStart => exact ⟨0, Nat.zero_le _, rfl, World.ownsRow_nil _ _ _ _, Lib.hid (Below.refl _ _)⟩
            case round =>
              obtain ⟨m, hm, rfl, hr12, hBi⟩ := hrel
              by_cases hmt : m < (idxB hs).length
              · have hmd : decide (m < (idxB hs).length) = true := decide_eq_true hmt
                have hmd2 : decide ((m : Int) < ((idxB hs).length : Int)) = true := decide_eq_true (by omega)
                obtain ⟨pa, ca, hpa, hca⟩ := Ints.slice hIall.out
                simp only [Value.slice.injEq] at hpa
                obtain ⟨rfl, -, rfl⟩ := hpa
                obtain ⟨ba, oa, rfl, hba, hcc⟩ := hca m (by rw [List.length_map]; exact hmt)
                obtain ⟨i, hi'⟩ : ∃ i, (idxB hs)[m] = i := ⟨_, rfl⟩
                have him : i ∈ idxB hs := by rw [← hi']; exact List.getElem_mem hmt
                have hcv : ((idxB hs).map Int.ofNat)[m]?.getD 0 = (i : Int) := by simp [hmt, hi']
                rw [hcv] at hcc
                have hBw := Lib.hid (hB.out.trans (hBi.out.mono hB.out.size))
                have hcm := (hBw.out.cell (p := ⟨ba, oa + m, none⟩) hba).trans hcc
                have hil : i < l.length := by have := idxB_lt him; have := hk2'.out; omega
                obtain ⟨b, off, rfl, hbw, hlc⟩ := hcell'.out i hil
                have hx0 : l[i]?.getD 0 = vI l i := rfl
                rw [hx0] at hlc
                obtain ⟨hup, hu64⟩ := hupF.out i him
                obtain ⟨x, hx⟩ : ∃ x, vI l i = x := ⟨_, rfl⟩
                rw [hx] at hlc hup
                obtain ⟨U, hU⟩ : ∃ U, upBy l hs i = U := ⟨_, rfl⟩
                rw [hU] at hup hu64
                have hst : Hid ((((idxB hs).take (m + 1)).filter fun i => (upBy l hs i).testBit k) = (((idxB hs).take m).filter fun i => (upBy l hs i).testBit k) ++ if U.testBit k = true then [i] else []) := by
                  show _ = _
                  rw [List.take_succ_eq_append_getElem hmt, List.filter_append, hi']
                  congr 1
                  rw [List.filter_cons, List.filter_nil, hU]
                obtain ⟨tb, htb⟩ : ∃ tb, U.testBit k = tb := ⟨_, rfl⟩
                have hk64 : k < 64 := by have := hd64.out; omega
                have hbit : (Go.bits .and .u64 ((U : Int) / 2 ^ k) 1 == 1) = tb := by
                  have e1 : ((U : Int) / 2 ^ k) = ((U / 2 ^ k : Nat) : Int) := by simp
                  have e2 := u64_and_nat (U / 2 ^ k) 1 (Nat.lt_of_le_of_lt (Nat.div_le_self _ _) hu64) (by decide)
                  rw [Nat.and_one_is_mod] at e2
                  have e3 : Go.bits .and .u64 ((U : Int) / 2 ^ k) 1 = ((U / 2 ^ k % 2 : Nat) : Int) := by rw [e1]; exact e2
                  rw [← htb, Nat.testBit_eq_decide_div_mod_eq, e3]
                  by_cases h : U / 2 ^ k % 2 = 1
                  · rw [h]; rfl
                  · rw [decide_eq_false h]
                    generalize U / 2 ^ k % 2 = z at *
                    rw [beq_eq_false_iff_ne]
                    omega
                rw [htb] at hst
                have hil2 : (i : Int) < (l.length : Int) := by omega
                have hBz := hBw.out
                have hMi := hM'.out.later hBz
                have hMd : (fun W' : World => W'.cell? ⟨w.heap.size, 0, none⟩ = some (.slice (some ⟨b, off, none⟩) l.length cl) ∧ W'.cell? ⟨b, off + i, none⟩ = some (.int .i64 x) ∧ W'.cell? ⟨w.heap.size + 1 + 1 + 1, 0, none⟩ = some (.int .i64 lo)) wr.drew := ⟨hMi.box.cell, (hMi.below.cell (p := ⟨b, off + i, none⟩) hbw).trans hlc, hMi.lo.cell⟩
                have hr12' := hr12.out
                have hle : Hid ((((idxB hs).take m).filter fun i => (upBy l hs i).testBit k).length ≤ 1000) := by
                  show _ ≤ _
                  refine Nat.le_trans (List.length_filter_le _ _) ?_
                  rw [List.length_take]
                  have := hlen.out; omega
                have hmb : m ≤ 1000 := by have := hlen.out; omega
                have hk64' := Lib.hid hk64
                have hmk : min k 64 = k := Nat.min_eq_left (by omega)
                have hszi := Lib.hid hBi.out.size
                clear hi' him hcv hcc hlc hx0 hx hU htb hu64 hBz hMi hbw hba hk64 hil hkd hkd2 hlt hca
                have hr13 := own_later hr12' (Below.refl _ wr).drew
                have hBd : Hid (Below wo.heap.size wo wr.drew) := hBi.out.drew
                clear hr12 hr12' hBi
                cases tb with
                | false =>
                  go_wp2
                  refine region_late (S := (fun W' : World => W'.cell? ⟨w.heap.size, 0, none⟩ = some (.slice (some ⟨b, off, none⟩) l.length cl) ∧ W'.cell? ⟨b, off + i, none⟩ = some (.int .i64 x) ∧ W'.cell? ⟨w.heap.size + 1 + 1 + 1, 0, none⟩ = some (.int .i64 lo))) (fun n => n == 999) (by kernel_rfl) hMd (fun hHeld => ?_)
                  clear hMd
                  generalize World.drew wr = Wd at *
                  refine wpAnyL_take (i := 0) (oi := { dst := some 77, op := _, type := _, pos := _, after := _, guard := _ }) (v := ?v45) rfl (by kernel_rfl) (by kernel_rfl) (by kernel_rfl) (by kernel_rfl) (fun _ _ _ h => h) (Or.inl ⟨by kernel_rfl, ?y45⟩) hHeld ?r45
                  case y45 =>
                    intro w hSw
                    try dsimp only at hSw
                    try simp only [List.getElem_toArray, List.getElem_cons_zero, List.getElem_cons_succ]
                    go_simp
                    try with_reducible rfl
                  try simp only [List.getElem_toArray, List.getElem_cons_zero, List.getElem_cons_succ, Act.put, List.setIfInBounds_toArray, List.set_cons_zero, List.set_cons_succ]
                  refine wpAnyL_take (i := 1) (oi := { dst := some 78, op := _, type := _, pos := _, after := _, guard := _ }) (v := ?v46) rfl (by kernel_rfl) (by kernel_rfl) (by kernel_rfl) (by kernel_rfl) (fun _ _ _ h => h) (Or.inl ⟨by kernel_rfl, ?y46⟩) hHeld ?r46
                  case y46 =>
                    intro w hSw
                    try dsimp only at hSw
                    try simp only [List.getElem_toArray, List.getElem_cons_zero, List.getElem_cons_succ]
                    go_simp
                    try with_reducible rfl
                  try simp only [List.getElem_toArray, List.getElem_cons_zero, List.getElem_cons_succ, Act.put, List.setIfInBounds_toArray, List.set_cons_zero, List.set_cons_succ]
                  refine wpAnyL_take (i := 2) (oi := { dst := some 79, op := _, type := _, pos := _, after := _, guard := _ }) (v := ?v47) rfl (by kernel_rfl) (by kernel_rfl) (by kernel_rfl) (by kernel_rfl) (fun _ _ _ h => h) (Or.inl ⟨by kernel_rfl, ?y47⟩) hHeld ?r47
                  case y47 =>
                    intro w hSw
                    try dsimp only at hSw
                    try simp only [List.getElem_toArray, List.getElem_cons_zero, List.getElem_cons_succ]
                    go_simp
                    try with_reducible rfl
                  try simp only [List.getElem_toArray, List.getElem_cons_zero, List.getElem_cons_succ, Act.put, List.setIfInBounds_toArray, List.set_cons_zero, List.set_cons_succ]
                  refine wpAnyL_take (i := 3) (oi := { dst := some 80, op := _, type := _, pos := _, after := _, guard := _ }) (v := ?v48) rfl (by kernel_rfl) (by kernel_rfl) (by kernel_rfl) (by kernel_rfl) (fun _ _ _ h => h) (Or.inl ⟨by kernel_rfl, ?y48⟩) hHeld ?r48
                  case y48 =>
                    intro w hSw
                    try dsimp only at hSw
                    try simp only [List.getElem_toArray, List.getElem_cons_zero, List.getElem_cons_succ]
                    go_simp
                    try with_reducible rfl
                  try simp only [List.getElem_toArray, List.getElem_cons_zero, List.getElem_cons_succ, Act.put, List.setIfInBounds_toArray, List.set_cons_zero, List.set_cons_succ]
                  refine wpAnyL_take (i := 4) (oi := { dst := some 81, op := _, type := _, pos := _, after := _, guard := _ }) (v := ?v49) rfl (by kernel_rfl) (by kernel_rfl) (by kernel_rfl) (by kernel_rfl) (fun _ _ _ h => h) (Or.inl ⟨by kernel_rfl, ?y49⟩) hHeld ?r49
                  case y49 =>
                    intro w hSw
                    try dsimp only at hSw
                    try simp only [List.getElem_toArray, List.getElem_cons_zero, List.getElem_cons_succ]
                    go_simp
                    try with_reducible rfl
                  try simp only [List.getElem_toArray, List.getElem_cons_zero, List.getElem_cons_succ, Act.put, List.setIfInBounds_toArray, List.set_cons_zero, List.set_cons_succ]
                  refine wpAnyL_take (i := 5) (oi := { dst := some 82, op := _, type := _, pos := _, after := _, guard := _ }) (v := ?v50) rfl (by kernel_rfl) (by kernel_rfl) (by kernel_rfl) (by kernel_rfl) (fun _ _ _ h => h) (Or.inl ⟨by kernel_rfl, ?y50⟩) hHeld ?r50
                  case y50 =>
                    intro w hSw
                    try dsimp only at hSw
                    try simp only [List.getElem_toArray, List.getElem_cons_zero, List.getElem_cons_succ]
                    go_simp
                    try with_reducible rfl
                  try simp only [List.getElem_toArray, List.getElem_cons_zero, List.getElem_cons_succ, Act.put, List.setIfInBounds_toArray, List.set_cons_zero, List.set_cons_succ]
                  refine wpAnyL_take (i := 6) (oi := { dst := some 83, op := _, type := _, pos := _, after := _, guard := _ }) (v := ?v51) rfl (by kernel_rfl) (by kernel_rfl) (by kernel_rfl) (by kernel_rfl) (fun _ _ _ h => h) (Or.inl ⟨by kernel_rfl, ?y51⟩) hHeld ?r51
                  case y51 =>
                    intro w hSw
                    try dsimp only at hSw
                    try simp only [List.getElem_toArray, List.getElem_cons_zero, List.getElem_cons_succ]
                    go_simp
                    try with_reducible rfl
                  try simp only [List.getElem_toArray, List.getElem_cons_zero, List.getElem_cons_succ, Act.put, List.setIfInBounds_toArray, List.set_cons_zero, List.set_cons_succ]
                  refine wpAnyL_take (i := 7) (oi := { dst := some 84, op := _, type := _, pos := _, after := _, guard := _ }) (v := ?v52) rfl (by kernel_rfl) (by kernel_rfl) (by kernel_rfl) (by kernel_rfl) (fun _ _ _ h => h) (Or.inl ⟨by kernel_rfl, ?y52⟩) hHeld ?r52
                  case y52 =>
                    intro w hSw
                    try dsimp only at hSw
                    try simp only [List.getElem_toArray, List.getElem_cons_zero, List.getElem_cons_succ]
                    go_simp
                    try with_reducible rfl
                  try simp only [List.getElem_toArray, List.getElem_cons_zero, List.getElem_cons_succ, Act.put, List.setIfInBounds_toArray, List.set_cons_zero, List.set_cons_succ]
                  refine wpAnyL_take (i := 8) (oi := { dst := some 85, op := _, type := _, pos := _, after := _, guard := _ }) (v := ?v53) rfl (by kernel_rfl) (by kernel_rfl) (by kernel_rfl) (by kernel_rfl) (fun _ _ _ h => h) (Or.inl ⟨by kernel_rfl, ?y53⟩) hHeld ?r53
                  case y53 =>
                    intro w hSw
                    try dsimp only at hSw
                    try simp only [List.getElem_toArray, List.getElem_cons_zero, List.getElem_cons_succ]
                    go_simp
                    try with_reducible rfl
                  try simp only [List.getElem_toArray, List.getElem_cons_zero, List.getElem_cons_succ, Act.put, List.setIfInBounds_toArray, List.set_cons_zero, List.set_cons_succ]
                  refine wpAnyL_take (i := 9) (oi := { dst := some 86, op := _, type := _, pos := _, after := _, guard := _ }) (v := ?v54) rfl (by kernel_rfl) (by kernel_rfl) (by kernel_rfl) (by kernel_rfl) (fun _ _ _ h => h) (Or.inl ⟨by kernel_rfl, ?y54⟩) hHeld ?r54
                  case y54 =>
                    intro w hSw
                    try dsimp only at hSw
                    try simp only [List.getElem_toArray, List.getElem_cons_zero, List.getElem_cons_succ]
                    go_simp
                    try with_reducible rfl
                  try simp only [List.getElem_toArray, List.getElem_cons_zero, List.getElem_cons_succ, Act.put, List.setIfInBounds_toArray, List.set_cons_zero, List.set_cons_succ]
                  refine wpAnyL_take (i := 10) (oi := { dst := some 87, op := _, type := _, pos := _, after := _, guard := _ }) (v := ?v55) rfl (by kernel_rfl) (by kernel_rfl) (by kernel_rfl) (by kernel_rfl) (fun _ _ _ h => h) (Or.inl ⟨by kernel_rfl, ?y55⟩) hHeld ?r55
                  case y55 =>
                    intro w hSw
                    try dsimp only at hSw
                    try simp only [List.getElem_toArray, List.getElem_cons_zero, List.getElem_cons_succ]
                    go_simp
                    try with_reducible rfl
                  try simp only [List.getElem_toArray, List.getElem_cons_zero, List.getElem_cons_succ, Act.put, List.setIfInBounds_toArray, List.set_cons_zero, List.set_cons_succ]
                  refine wpAnyL_take (i := 11) (oi := { dst := some 88, op := _, type := _, pos := _, after := _, guard := _ }) (v := ?v56) rfl (by kernel_rfl) (by kernel_rfl) (by kernel_rfl) (by kernel_rfl) (fun _ _ _ h => h) (Or.inl ⟨by kernel_rfl, ?y56⟩) hHeld ?r56
                  case y56 =>
                    intro w hSw
                    try dsimp only at hSw
                    try simp only [List.getElem_toArray, List.getElem_cons_zero, List.getElem_cons_succ]
                    go_simp
                    try with_reducible rfl
                  try simp only [List.getElem_toArray, List.getElem_cons_zero, List.getElem_cons_succ, Act.put, List.setIfInBounds_toArray, List.set_cons_zero, List.set_cons_succ]
                  refine wpAnyL_done (by kernel_rfl) (OnlyN.normal ?_) _
                  clear hHeld
                  simp only [Bool.false_eq_true, if_false, List.append_nil] at hst
                  go_wp2
                  go_roundw
                  case rel => exact ⟨m + 1, by omega, by go_num, by rw [hst.out]; exact hr13, hBd⟩
                  case measure => simp [intOf]; omega
                | true =>
                  simp only [if_true] at hst
                  go_wp2
                  refine region_late (S := (fun W' : World => W'.cell? ⟨w.heap.size, 0, none⟩ = some (.slice (some ⟨b, off, none⟩) l.length cl) ∧ W'.cell? ⟨b, off + i, none⟩ = some (.int .i64 x) ∧ W'.cell? ⟨w.heap.size + 1 + 1 + 1, 0, none⟩ = some (.int .i64 lo))) (fun n => n == 999) (by kernel_rfl) hMd (fun hHeld => ?_)
                  clear hMd
                  generalize World.drew wr = Wd at *
                  refine wpAnyL_take (i := 0) (oi := { dst := some 77, op := _, type := _, pos := _, after := _, guard := _ }) (v := ?v57) rfl (by kernel_rfl) (by kernel_rfl) (by kernel_rfl) (by kernel_rfl) (fun _ _ _ h => h) (Or.inl ⟨by kernel_rfl, ?y57⟩) hHeld ?r57
                  case y57 =>
                    intro w hSw
                    try dsimp only at hSw
                    try simp only [List.getElem_toArray, List.getElem_cons_zero, List.getElem_cons_succ]
                    go_simp
                    try with_reducible rfl
                  try simp only [List.getElem_toArray, List.getElem_cons_zero, List.getElem_cons_succ, Act.put, List.setIfInBounds_toArray, List.set_cons_zero, List.set_cons_succ]
                  refine wpAnyL_take (i := 1) (oi := { dst := some 78, op := _, type := _, pos := _, after := _, guard := _ }) (v := ?v58) rfl (by kernel_rfl) (by kernel_rfl) (by kernel_rfl) (by kernel_rfl) (fun _ _ _ h => h) (Or.inl ⟨by kernel_rfl, ?y58⟩) hHeld ?r58
                  case y58 =>
                    intro w hSw
                    try dsimp only at hSw
                    try simp only [List.getElem_toArray, List.getElem_cons_zero, List.getElem_cons_succ]
                    go_simp
                    try with_reducible rfl
                  try simp only [List.getElem_toArray, List.getElem_cons_zero, List.getElem_cons_succ, Act.put, List.setIfInBounds_toArray, List.set_cons_zero, List.set_cons_succ]
                  refine wpAnyL_take (i := 2) (oi := { dst := some 79, op := _, type := _, pos := _, after := _, guard := _ }) (v := ?v59) rfl (by kernel_rfl) (by kernel_rfl) (by kernel_rfl) (by kernel_rfl) (fun _ _ _ h => h) (Or.inl ⟨by kernel_rfl, ?y59⟩) hHeld ?r59
                  case y59 =>
                    intro w hSw
                    try dsimp only at hSw
                    try simp only [List.getElem_toArray, List.getElem_cons_zero, List.getElem_cons_succ]
                    go_simp
                    try with_reducible rfl
                  try simp only [List.getElem_toArray, List.getElem_cons_zero, List.getElem_cons_succ, Act.put, List.setIfInBounds_toArray, List.set_cons_zero, List.set_cons_succ]
                  refine wpAnyL_take (i := 3) (oi := { dst := some 80, op := _, type := _, pos := _, after := _, guard := _ }) (v := ?v60) rfl (by kernel_rfl) (by kernel_rfl) (by kernel_rfl) (by kernel_rfl) (fun _ _ _ h => h) (Or.inl ⟨by kernel_rfl, ?y60⟩) hHeld ?r60
                  case y60 =>
                    intro w hSw
                    try dsimp only at hSw
                    try simp only [List.getElem_toArray, List.getElem_cons_zero, List.getElem_cons_succ]
                    go_simp
                    try with_reducible rfl
                  try simp only [List.getElem_toArray, List.getElem_cons_zero, List.getElem_cons_succ, Act.put, List.setIfInBounds_toArray, List.set_cons_zero, List.set_cons_succ]
                  refine wpAnyL_take (i := 4) (oi := { dst := some 81, op := _, type := _, pos := _, after := _, guard := _ }) (v := ?v61) rfl (by kernel_rfl) (by kernel_rfl) (by kernel_rfl) (by kernel_rfl) (fun _ _ _ h => h) (Or.inl ⟨by kernel_rfl, ?y61⟩) hHeld ?r61
                  case y61 =>
                    intro w hSw
                    try dsimp only at hSw
                    try simp only [List.getElem_toArray, List.getElem_cons_zero, List.getElem_cons_succ]
                    go_simp
                    try with_reducible rfl
                  try simp only [List.getElem_toArray, List.getElem_cons_zero, List.getElem_cons_succ, Act.put, List.setIfInBounds_toArray, List.set_cons_zero, List.set_cons_succ]
                  refine wpAnyL_take (i := 5) (oi := { dst := some 82, op := _, type := _, pos := _, after := _, guard := _ }) (v := ?v62) rfl (by kernel_rfl) (by kernel_rfl) (by kernel_rfl) (by kernel_rfl) (fun _ _ _ h => h) (Or.inl ⟨by kernel_rfl, ?y62⟩) hHeld ?r62
                  case y62 =>
                    intro w hSw
                    try dsimp only at hSw
                    try simp only [List.getElem_toArray, List.getElem_cons_zero, List.getElem_cons_succ]
                    go_simp
                    try with_reducible rfl
                  try simp only [List.getElem_toArray, List.getElem_cons_zero, List.getElem_cons_succ, Act.put, List.setIfInBounds_toArray, List.set_cons_zero, List.set_cons_succ]
                  refine wpAnyL_take (i := 6) (oi := { dst := some 83, op := _, type := _, pos := _, after := _, guard := _ }) (v := ?v63) rfl (by kernel_rfl) (by kernel_rfl) (by kernel_rfl) (by kernel_rfl) (fun _ _ _ h => h) (Or.inl ⟨by kernel_rfl, ?y63⟩) hHeld ?r63
                  case y63 =>
                    intro w hSw
                    try dsimp only at hSw
                    try simp only [List.getElem_toArray, List.getElem_cons_zero, List.getElem_cons_succ]
                    go_simp
                    try with_reducible rfl
                  try simp only [List.getElem_toArray, List.getElem_cons_zero, List.getElem_cons_succ, Act.put, List.setIfInBounds_toArray, List.set_cons_zero, List.set_cons_succ]
                  refine wpAnyL_take (i := 7) (oi := { dst := some 84, op := _, type := _, pos := _, after := _, guard := _ }) (v := ?v64) rfl (by kernel_rfl) (by kernel_rfl) (by kernel_rfl) (by kernel_rfl) (fun _ _ _ h => h) (Or.inl ⟨by kernel_rfl, ?y64⟩) hHeld ?r64
                  case y64 =>
                    intro w hSw
                    try dsimp only at hSw
                    try simp only [List.getElem_toArray, List.getElem_cons_zero, List.getElem_cons_succ]
                    go_simp
                    try with_reducible rfl
                  try simp only [List.getElem_toArray, List.getElem_cons_zero, List.getElem_cons_succ, Act.put, List.setIfInBounds_toArray, List.set_cons_zero, List.set_cons_succ]
                  refine wpAnyL_take (i := 8) (oi := { dst := some 85, op := _, type := _, pos := _, after := _, guard := _ }) (v := ?v65) rfl (by kernel_rfl) (by kernel_rfl) (by kernel_rfl) (by kernel_rfl) (fun _ _ _ h => h) (Or.inl ⟨by kernel_rfl, ?y65⟩) hHeld ?r65
                  case y65 =>
                    intro w hSw
                    try dsimp only at hSw
                    try simp only [List.getElem_toArray, List.getElem_cons_zero, List.getElem_cons_succ]
                    go_simp
                    try with_reducible rfl
                  try simp only [List.getElem_toArray, List.getElem_cons_zero, List.getElem_cons_succ, Act.put, List.setIfInBounds_toArray, List.set_cons_zero, List.set_cons_succ]
                  refine wpAnyL_take (i := 9) (oi := { dst := some 86, op := _, type := _, pos := _, after := _, guard := _ }) (v := ?v66) rfl (by kernel_rfl) (by kernel_rfl) (by kernel_rfl) (by kernel_rfl) (fun _ _ _ h => h) (Or.inl ⟨by kernel_rfl, ?y66⟩) hHeld ?r66
                  case y66 =>
                    intro w hSw
                    try dsimp only at hSw
                    try simp only [List.getElem_toArray, List.getElem_cons_zero, List.getElem_cons_succ]
                    go_simp
                    try with_reducible rfl
                  try simp only [List.getElem_toArray, List.getElem_cons_zero, List.getElem_cons_succ, Act.put, List.setIfInBounds_toArray, List.set_cons_zero, List.set_cons_succ]
                  refine wpAnyL_take (i := 10) (oi := { dst := some 87, op := _, type := _, pos := _, after := _, guard := _ }) (v := ?v67) rfl (by kernel_rfl) (by kernel_rfl) (by kernel_rfl) (by kernel_rfl) (fun _ _ _ h => h) (Or.inl ⟨by kernel_rfl, ?y67⟩) hHeld ?r67
                  case y67 =>
                    intro w hSw
                    try dsimp only at hSw
                    try simp only [List.getElem_toArray, List.getElem_cons_zero, List.getElem_cons_succ]
                    go_simp
                    try with_reducible rfl
                  try simp only [List.getElem_toArray, List.getElem_cons_zero, List.getElem_cons_succ, Act.put, List.setIfInBounds_toArray, List.set_cons_zero, List.set_cons_succ]
                  refine wpAnyL_take (i := 11) (oi := { dst := some 88, op := _, type := _, pos := _, after := _, guard := _ }) (v := ?v68) rfl (by kernel_rfl) (by kernel_rfl) (by kernel_rfl) (by kernel_rfl) (fun _ _ _ h => h) (Or.inl ⟨by kernel_rfl, ?y68⟩) hHeld ?r68
                  case y68 =>
                    intro w hSw
                    try dsimp only at hSw
                    try simp only [List.getElem_toArray, List.getElem_cons_zero, List.getElem_cons_succ]
                    go_simp
                    try with_reducible rfl
                  try simp only [List.getElem_toArray, List.getElem_cons_zero, List.getElem_cons_succ, Act.put, List.setIfInBounds_toArray, List.set_cons_zero, List.set_cons_succ]
                  refine wpAnyL_done (by kernel_rfl) (OnlyN.normal ?_) _
                  clear hHeld
                  go_wp2_with (at_builtin; refine wpList_append_own _ rfl _ _ 24 rfl wo.heap.size 3 i0 (.int .i64 0) 1 8 Tryd.underlying24 hi hz0 hz1 hz2 rfl (by decide) _ _ _ rfl (hr13.alloc _) ⟨Wd.heap.size, 0, none⟩ 1 1 [.int .i64 (i : Int)] rfl rfl (cell_one_new _ _ _) (ints_one _) (by have := hle.out; unfold maxLen; omega) (by have := hle.out; omega) (by have := hBd.out.size; simp; omega) ?_; intro v' w1 hown' hgrow _)
                  have hne : ∀ g, Value.ownBlock _ = some g → wo.heap.size ≤ g := fun g hg => ((hr13.lt) g hg).1
                  have hBB := Lib.hid ((hBd.out.alloc hBd.out.size (.cells #[.int .i64 (i : Int)] 3)).grown hgrow (by simp; have := hBd.out.size; omega) (fun g hg => hne g hg))
                  go_roundw
                  case rel => exact ⟨m + 1, by omega, by go_num, by rw [hst.out, List.length_append, List.map_append]; exact hown', hBB⟩
                  case measure => simp [intOf]; omega
              · have hmd : decide (m < (idxB hs).length) = false := decide_eq_false hmt
                have hmd2 : decide ((m : Int) < ((idxB hs).length : Int)) = false := decide_eq_false (by omega)
                have hrd : ((idxB hs).take m).filter (fun i => (upBy l hs i).testBit k) = rowsD l hs k := by rw [List.take_of_length_le (by omega)]; rfl
                rw [hrd] at hr12
                obtain ⟨p12, c12, rfl⟩ := row_slice hr12.out
                have hrl : (rowsD l hs k).length ≤ 1000 := by
                  have h1 := hlen.out
                  exact Nat.le_trans (List.length_filter_le _ _) h1
                have hin := ints_of_row (zs := (rowsD l hs k).map Int.ofNat) hr12.out (by rw [List.map_map]; rfl)
                have hBw := hB.out.trans (hBi.out.mono hB.out.size)
                have hTi := hTw.out.below (hM'.out.below.trans (hBw.mono hM'.out.below.size)) hTw.out.lt
                have kmade2 : Hid (Calls Tryd.prog 40 #[.slice p12 (rowsD l hs k).length c12] wr.drew fun e W'' => ∃ u2, e = .returned (.agg #[u2]) ∧ HC W'' u2 (mkN (rowsD l hs k)) ∧ Below wr.drew.heap.size wr.drew W'' ∧ Fr wr.drew.heap.size u2) :=
                  made_any (hin.below (Below.refl _ wr).drew (Nat.le_refl _)) (by rw [List.length_map]; omega) (hTi.below (Below.refl _ wr).drew hTi.lt)
                have hrwd : RowR wr.drew Wa.heap.size vb (dgs k) := (hrw.out.later hBi.out).later (Below.refl _ wr).drew
                obtain ⟨pb, cb, hvb⟩ := hrwd.slice
                rw [(hdl.out k).1] at hvb
                subst hvb
                obtain ⟨us, hus⟩ := hrwd
                have hus' := Lib.hid hus
                have hbxd : SBox wr.drew 31 b10 (l.length : Int) lo (.slice pu (mkN (idxB hs)).length cu) (.slice pb k cb) := (hbx.out.later hBi.out).later (Below.refl _ wr).drew
                have hud : HC wr.drew (.slice pu (mkN (idxB hs)).length cu) (mkN (idxB hs)) := (hu.out.later hBi.out).later (Below.refl _ wr).drew
                have hBd : Hid (Below W.heap.size W wr.drew) := hBw.drew
                have hszd : Hid (Wa.heap.size ≤ wr.drew.heap.size) := Nat.le_trans hsz.out hBi.out.size
                obtain ⟨ir, hir, hr0, hr1, hr2⟩ := info_parts info_roar
                have hMd : (fun W' : World => Hid (Below wr.drew.heap.size wr.drew W') ∧ W'.cell? ⟨b10, 3, none⟩ = some (.slice pb k cb)) wr.drew := ⟨Lib.hid (Below.refl _ _), hbxd.c3⟩
                have hrowk := hus.1
                rw [(hdl.out k).1] at hrowk
                have hkl : k ≤ 64 := by have := hd64.out; omega
                have hkl' := Lib.hid hkl
                have hbx' := Lib.hid hbxd
                have hud' := Lib.hid hud
                go_wp2
                clear hr12 hrd hmt hrl hin hBw hTi hrw hBi hbx hu hbxd hud hB hsz hus hkl hkd hkd2 hlt hm
                refine region_late (S := (fun W' : World => Hid (Below wr.drew.heap.size wr.drew W') ∧ W'.cell? ⟨b10, 3, none⟩ = some (.slice pb k cb))) (fun n => n == 5 || n == 6 || n == 7) (by kernel_rfl) hMd (fun hHeld => ?_)
                clear hMd
                generalize World.drew wr = Wd at *
                refine wpAnyL_take (i := 0) (oi := { dst := some 94, op := _, type := _, pos := _, after := _, guard := _ }) (v := ?v69) rfl (by kernel_rfl) (by kernel_rfl) (by kernel_rfl) (by kernel_rfl) (fun _ _ _ h => h) (Or.inl ⟨by kernel_rfl, ?y69⟩) hHeld ?r69
                case y69 =>
                  intro w hSw
                  try dsimp only at hSw
                  try simp only [List.getElem_toArray, List.getElem_cons_zero, List.getElem_cons_succ]
                  go_simp
                  try with_reducible rfl
                try simp only [List.getElem_toArray, List.getElem_cons_zero, List.getElem_cons_succ, Act.put, List.setIfInBounds_toArray, List.set_cons_zero, List.set_cons_succ]
                refine wpAnyL_take (i := 1) (oi := { dst := some 95, op := _, type := _, pos := _, after := _, guard := _ }) (v := ?v70) rfl (by kernel_rfl) (by kernel_rfl) (by kernel_rfl) (by kernel_rfl) (fun _ _ _ h => h) (Or.inl ⟨by kernel_rfl, ?y70⟩) hHeld ?r70
                case y70 =>
                  intro w hSw
                  try dsimp only at hSw
                  try simp only [List.getElem_toArray, List.getElem_cons_zero, List.getElem_cons_succ]
                  go_simp
                  try with_reducible rfl
                try simp only [List.getElem_toArray, List.getElem_cons_zero, List.getElem_cons_succ, Act.put, List.setIfInBounds_toArray, List.set_cons_zero, List.set_cons_succ]
                refine wpAnyL_take (i := 2) (oi := { dst := some 96, op := _, type := _, pos := _, after := _, guard := _ }) (v := ?v71) rfl (by kernel_rfl) (by kernel_rfl) (by kernel_rfl) (by kernel_rfl) (fun _ _ _ h => h) (Or.inl ⟨by kernel_rfl, ?y71⟩) hHeld ?r71
                case y71 =>
                  intro w hSw
                  try dsimp only at hSw
                  try simp only [List.getElem_toArray, List.getElem_cons_zero, List.getElem_cons_succ]
                  go_simp
                  try with_reducible rfl
                try simp only [List.getElem_toArray, List.getElem_cons_zero, List.getElem_cons_succ, Act.put, List.setIfInBounds_toArray, List.set_cons_zero, List.set_cons_succ]
                refine wpAnyL_one (i := 3) (by kernel_rfl) rfl (fun K hK => ?_)
                try simp only [List.getElem_toArray, List.getElem_cons_zero, List.getElem_cons_succ]
                go_simp
                go_at_call 40
                refine (kmade2.out).mono ?_
                rintro e Wn3 ⟨u2, rfl, hu2, hbn, hfr⟩
                obtain ⟨p2, c2, rfl, -, -⟩ := Hid.out hu2
                have hbm := Lib.hid hbn
                have hrown := own_later hrowk hbn
                have hnew := Lib.hid (keepC1 hbn hHeld)
                refine hK.out _ _ (fun _ => hnew.out) ?_
                have hHeld' := hnew.out
                clear hHeld hnew hK K hbn
                have hHeld := hHeld'
                clear hHeld'
                try simp only [List.getElem_toArray, List.getElem_cons_zero, List.getElem_cons_succ, Act.put, List.setIfInBounds_toArray, List.set_cons_zero, List.set_cons_succ]
                refine wpAnyL_one (i := 4) (by kernel_rfl) rfl (fun K hK => ?_)
                try simp only [List.getElem_toArray, List.getElem_cons_zero, List.getElem_cons_succ]
                go_simp
                have hu3 := hu2.alloc (.cells #[.slice p2 (mkN (rowsD l hs k)).length c2] 28)
                have hrow4 := own_later hrown ((Below.refl _ Wn3).alloc (Nat.le_refl _) (.cells #[.slice p2 (mkN (rowsD l hs k)).length c2] 28))
                refine (fun (hnew : (fun W' : World => Hid (Below Wd.heap.size Wd W') ∧ W'.cell? ⟨b10, 3, none⟩ = some (.slice pb k cb)) _) => hK.out _ _ (fun _ => hnew) ?_) ?keep72
                case keep72 => exact (keepC1 ((Below.refl _ _).alloc (Nat.le_refl _) _) hHeld)
                have hHeld' := hnew
                dsimp only at hHeld'
                clear hHeld hnew hK K
                have hHeld := hHeld'
                clear hHeld'
                try simp only [List.getElem_toArray, List.getElem_cons_zero, List.getElem_cons_succ, Act.put, List.setIfInBounds_toArray, List.set_cons_zero, List.set_cons_succ]
                refine wpAnyL_one (i := 5) (by kernel_rfl) rfl (fun K hK => ?_)
                refine step_append_lies _ (by rfl) _ _ _ (by rfl) Wa.heap.size 28 ir (.agg #[.slice none 0 0]) 1 24 Tryd.underlying29 hir hr0 hr1 hr2 rfl (by decide) (.slice pb k cb) k us (by rfl) hrow4 ⟨Wn3.heap.size, 0, none⟩ 1 1 [.slice p2 (mkN (rowsD l hs k)).length c2] (by rfl) rfl (cell_one_new _ _ _) (by simp [Value.oneCell']) (by decide) (by have := hkl'.out; unfold maxLen; omega) (by have := hkl'.out; omega) (by have h1 := hszd.out; have h2 := hbm.out.size; simp; omega) _ rfl ?_
                intro g cap w1 hown' hgrow hloc hlt
                refine hK.out _ _ (fun h => by cases h) ?_
                clear hK K
                try simp only [List.getElem_toArray, List.getElem_cons_zero, List.getElem_cons_succ, Act.put, List.setIfInBounds_toArray, List.set_cons_zero, List.set_cons_succ]
                refine wpAnyL_one (i := 6) (by kernel_rfl) rfl (fun K hK => ?_)
                try simp only [List.getElem_toArray, List.getElem_cons_zero, List.getElem_cons_succ]
                go_simp
                refine hK.out _ _ (fun h => by cases h) ?_
                clear hK K
                try simp only [List.getElem_toArray, List.getElem_cons_zero, List.getElem_cons_succ, Act.put, List.setIfInBounds_toArray, List.set_cons_zero, List.set_cons_succ]
                refine wpAnyL_one (i := 7) (by kernel_rfl) rfl (fun K hK => ?_)
                have hne1 : ∀ x, Value.ownBlock (.slice pb k cb) = some x → Wa.heap.size ≤ x := fun x hx => (hrowk.lt x hx).1
                have hb10a := hb10a'.out
                have hbx4 : SBox (Wn3.alloc (.cells #[.slice p2 (mkN (rowsD l hs k)).length c2] 28)) 31 b10 (l.length : Int) lo (.slice pu (mkN (idxB hs)).length cu) (.slice pb k cb) := (hbx'.out.later hbm.out).alloc _
                have hbx5 : SBox w1 31 b10 (l.length : Int) lo (.slice pu (mkN (idxB hs)).length cu) (.slice pb k cb) := (hgrow.block b10 hbx4.lt (fun e => by have := hne1 _ e.symm; omega)).trans hbx4
                have f5 := hbx5.frozen 3
                have e5 := hbx5.c3
                try simp only [List.getElem_toArray, List.getElem_cons_zero, List.getElem_cons_succ]
                go_simp
                refine hK.out _ _ (fun h => by cases h) ?_
                clear hK K
                try simp only [List.getElem_toArray, List.getElem_cons_zero, List.getElem_cons_succ, Act.put, List.setIfInBounds_toArray, List.set_cons_zero, List.set_cons_succ]
                refine wpAnyL_done (by kernel_rfl) (OnlyN.normal ?_) _
                have hA4 : Below Wn3.heap.size Wn3 (Wn3.alloc (.cells #[.slice p2 (mkN (rowsD l hs k)).length c2] 28)) := (Below.refl _ Wn3).alloc (Nat.le_refl _) _
                have hBd4 : Below Wd.heap.size Wd (Wn3.alloc (.cells #[.slice p2 (mkN (rowsD l hs k)).length c2] 28)) := hbm.out.trans (hA4.mono hbm.out.size)
                have hown2 : w1.ownsRow Wa.heap.size 28 1 (.slice (some ⟨g, 0, none⟩) ((dgs k).length + 1) cap) ((dgs k).length + 1) (us ++ [.slice p2 (mkN (rowsD l hs k)).length c2]) := by rw [(hdl.out k).1]; exact hown'
                have hloc2 : Value.ownBlock (.slice pb k cb) = some g ∨ g = (Wn3.alloc (.cells #[.slice p2 (mkN (rowsD l hs k)).length c2] 28)).heap.size := hloc
                have hrw5 := RowR.appended (W0 := Wd) (W2 := Wn3.alloc (.cells #[.slice p2 (mkN (rowsD l hs k)).length c2] 28)) (W3 := w1) (base := Wa.heap.size) (v := .slice pb k cb) (ls := dgs k) hBd4 hu3 hfr hus'.out hown2 hgrow hloc2
                rw [(hdl.out k).1, ← (hdl.out k).2] at hrw5
                have hu5 : HC w1 (.slice pu (mkN (idxB hs)).length cu) (mkN (idxB hs)) := (hud'.out.later hBd4).grown_row hgrow (fun hne x hx e => by
                  have h1 := hne1 x hx
                  have h2 := hua.out hne e
                  omega)
                have hB5 := ((hBd.out.trans (hBd4.mono hBd.out.size)).grown hgrow (by have h1 := hBd.out.size; have h2 := hBd4.size; omega) (fun x hx => by have h1 := hne1 x hx; have := hBa.out.size; omega)).setCell (p := ⟨b10, 3, none⟩) hb10.out (.slice (some ⟨g, 0, none⟩) (k + 1) cap)
                have hbx6 := Lib.hid (hbx5.setB (.slice (some ⟨g, 0, none⟩) (k + 1) cap))
                have hu6 := Lib.hid (hu5.setS (i := 3) hbx5 ⟨_, _, _, rfl⟩ ⟨_, _, _, rfl⟩ (.slice (some ⟨g, 0, none⟩) (k + 1) cap))
                have hrw6 := Lib.hid (hrw5.setS (i := 3) hbx5 ⟨_, _, _, rfl⟩ ⟨_, _, _, rfl⟩ hb10a (.slice (some ⟨g, 0, none⟩) (k + 1) cap))
                have hB6 := Lib.hid hB5
                have hs6 : Hid (Wa.heap.size ≤ (w1.setCell ⟨b10, 3, none⟩ (.slice (some ⟨g, 0, none⟩) (k + 1) cap)).heap.size) := by
                  show _ ≤ _
                  have h1 := hszd.out; have h2 := hBd4.size; have h3 := hgrow.size
                  simp only [World.size_setCell]
                  omega
                clear f5 e5 hHeld hrow4 hrown hu2 hu3 hown' hgrow hloc hlt hA4 hBd4 hown2 hloc2 hrw5 hu5 hB5 hbx5 hbx4 hfr hbm hus' hrowk kmade2
                have hkk : k < dn := hltk.out
                have hkl2 : k < 64 := by have := hd64.out; omega
                go_wp2
                go_roundw
                case rel => exact ⟨k + 1, _, by omega, by go_num, hbx6, hu6, hrw6, hB6, hs6⟩
                case measure => simp [intOf]; omega
          · have hkd : decide (k < dn) = false := decide_eq_false hlt
            have hkd2 : decide ((k : Int) < (dn : Int)) = false := decide_eq_false (by omega)
            have hkk : k = dn := by omega
            subst hkk
            have hrs := hM'.out.res.later hB.out
            obtain ⟨pb, cb, hvb⟩ := hrw.out.slice
            rw [(hdl.out k).1] at hvb
            subst hvb
            have c0 := hbx.out.c0; have c1 := hbx.out.c1; have c2 := hbx.out.c2; have c3 := hbx.out.c3
            have e0 := hrs.c0; have e1 := hrs.c1; have e2 := hrs.c2; have e3 := hrs.c3
            have f0 := hrs.frozen 0; have f1 := hrs.frozen 1; have f2 := hrs.frozen 2; have f3 := hrs.frozen 3
            have hfin : FinB (w.heap.size + 1) (l.length : Int) lo (.slice pu (mkN (idxB hs)).length cu) (.slice pb k cb) (mkN (idxB hs)) Wa.heap.size (dgs k) () ((((wr.setCell ⟨w.heap.size + 1, 0, none⟩ (.int .i64 (l.length : Int))).setCell ⟨w.heap.size + 1, 1, none⟩ (.int .i64 lo)).setCell ⟨w.heap.size + 1, 2, none⟩ (.slice pu (mkN (idxB hs)).length cu)).setCell ⟨w.heap.size + 1, 3, none⟩ (.slice pb k cb)) := by
              refine ⟨hrs.set4 _ _ _ _, hu.out.set4 hrs ⟨_, _, _, rfl⟩ ⟨_, _, _, rfl⟩ _ _ ⟨_, _, _, rfl⟩ _, ?_⟩
              have hlt1 : w.heap.size + 1 < Wa.heap.size := by have h1 := hM'.out.size; have h2 := hBa.out.size; omega
              have s1 : SBox (wr.setCell ⟨w.heap.size + 1, 0, none⟩ (.int .i64 (l.length : Int))) 31 (w.heap.size + 1) (l.length : Int) 0 (.slice none 0 0) (.slice none 0 0) := by
                have h := hrs
                unfold SBox at *
                rw [Go.heap_setCell_same wr (w.heap.size + 1) 0 _ _ (.int .i64 (l.length : Int)) h]; simp
              have s2 : SBox ((wr.setCell ⟨w.heap.size + 1, 0, none⟩ (.int .i64 (l.length : Int))).setCell ⟨w.heap.size + 1, 1, none⟩ (.int .i64 lo)) 31 (w.heap.size + 1) (l.length : Int) lo (.slice none 0 0) (.slice none 0 0) := by
                unfold SBox at *
                rw [Go.heap_setCell_same _ (w.heap.size + 1) 1 _ _ (.int .i64 lo) s1]; simp
              have s3 : SBox (((wr.setCell ⟨w.heap.size + 1, 0, none⟩ (.int .i64 (l.length : Int))).setCell ⟨w.heap.size + 1, 1, none⟩ (.int .i64 lo)).setCell ⟨w.heap.size + 1, 2, none⟩ (.slice pu (mkN (idxB hs)).length cu)) 31 (w.heap.size + 1) (l.length : Int) lo (.slice pu (mkN (idxB hs)).length cu) (.slice none 0 0) := by
                unfold SBox at *
                rw [Go.heap_setCell_same _ (w.heap.size + 1) 2 _ _ (.slice pu (mkN (idxB hs)).length cu) s2]; simp
              exact (((hrw.out.setS (i := 0) hrs ⟨_, _, _, rfl⟩ ⟨_, _, _, rfl⟩ hlt1 _).setS (i := 1) s1 ⟨_, _, _, rfl⟩ ⟨_, _, _, rfl⟩ hlt1 _).setS (i := 2) s2 ⟨_, _, _, rfl⟩ ⟨_, _, _, rfl⟩ hlt1 _).setS (i := 3) s3 ⟨_, _, _, rfl⟩ ⟨_, _, _, rfl⟩ hlt1 _
            have hD2 := hD'.out
            have hKr : wr.heap[D]? = some (.deferred (some [])) := (hB.out.block D (lt_of_heap hK'.out)).trans hK'.out
            have hKf : Hid (((((wr.setCell ⟨w.heap.size + 1, 0, none⟩ (.int .i64 (l.length : Int))).setCell ⟨w.heap.size + 1, 1, none⟩ (.int .i64 lo)).setCell ⟨w.heap.size + 1, 2, none⟩ (.slice pu (mkN (idxB hs)).length cu)).setCell ⟨w.heap.size + 1, 3, none⟩ (.slice pb k cb)).heap[D]? = some (.deferred (some []))) := by
              show _ = _
              exact (Below.heap_setCell _ _ _ _ (by dsimp only; omega)).trans ((Below.heap_setCell _ _ _ _ (by dsimp only; omega)).trans ((Below.heap_setCell _ _ _ _ (by dsimp only; omega)).trans ((Below.heap_setCell _ _ _ _ (by dsimp only; omega)).trans hKr)))
            have hBw := hM'.out.below.trans (hB.out.mono hM'.out.below.size)
            have hBf := ((((hBw.setCell (p := ⟨w.heap.size + 1, 0, none⟩) (by dsimp only; omega) (.int .i64 (l.length : Int))).setCell (p := ⟨w.heap.size + 1, 1, none⟩) (by dsimp only; omega) (.int .i64 lo)).setCell (p := ⟨w.heap.size + 1, 2, none⟩) (by dsimp only; omega) (.slice pu (mkN (idxB hs)).length cu)).setCell (p := ⟨w.heap.size + 1, 3, none⟩) (by dsimp only; omega) (.slice pb k cb))
            have hBq := Lib.hid (hBf.trans (belowK_b (w := w) (Nat.le_refl _) _ D _ (.deferred none) (by omega) hKf.out rfl rfl))
            have hFq := Lib.hid ((FinB.own _ _ _ _ _ _ _ _ w6.heap.size).putObj (.deferred none) hfin hD2 hKf.out rfl)
            have hmb : (mkB l hs) = ⟨(l.length : Int), lo, mkN (idxB hs), dgs k⟩ := by
              unfold mkB
              rw [hlo'.out, hdgs'.out, hdn'.out]
            have hmb' := Lib.hid hmb
            clear hbx hu hrw hB hsz hrs hfin hKr hBw hBf hmb hD2 hlt hkd hkd2
            have hkd : decide (k < k) = false := by simp
            go_wp2
            obtain ⟨g1, g2, g3⟩ := hFq.out
            have d0 := g1.c0; have d1 := g1.c1; have d2 := g1.c2; have d3 := g1.c3
            show bodyPostM _ _ _ _ _ _ _ _
            rw [hmb'.out]
            refine postM_mark hKf.out (.tuple #[.agg #[.int .i64 (l.length : Int), .int .i64 lo, .slice pu (mkN (idxB hs)).length cu, .slice pb k cb], .int .i64 0]) ?_ ⟨_, _, rfl, g2, g3.hr, hBq.out⟩
            simp [results, Tryd.results11, go_sem, d0, d1, d2, d3]
    case stop =>
      rintro D c pre W _ _ h _
      exact h.elim
  · have hbb := hno.out hok
    subst hbb
    go_enter Tryd.func11, Tryd.ntmps11
    have c0 := r1.c0; have c1 := r1.c1; have c2 := r1.c2; have c3 := r1.c3
    have hB : Below w.heap.size w ((w.alloc (.cells #[.slice pl l.length cl] 22)).alloc (.cells #[.int .i64 0, .int .i64 0, .slice none 0 0, .slice none 0 0] 31)) := ((Below.refl w.heap.size w).alloc (Nat.le_refl _) _).alloc (by simp) _
    by_cases h1 : 1000 < l.length
    · have d1 : decide (1000 < l.length) = true := decide_eq_true h1
      have d2 : decide ((1000 : Int) < (l.length : Int)) = true := decide_eq_true (by omega)
      clear hno hyes hok h1
      go_wp2
      refine bodyPost_ret (v := .tuple #[.agg #[.int .i64 0, .int .i64 0, .slice none 0 0, .slice none 0 0], .int .i64 80]) ?_ rfl ⟨_, _, rfl, HC.nil _ _ _, HR.nil _ _ _, hB⟩
      simp [results, Tryd.results11, go_sem, c0, c1, c2, c3]
    · have d1 : decide (1000 < l.length) = false := decide_eq_false h1
      have d2 : decide ((1000 : Int) < (l.length : Int)) = false := decide_eq_false (by omega)
      have hne : ((l.length : Int) != (hs.length : Int)) = true := by
        rw [bne_iff_ne]
        intro e
        exact hok ⟨by omega, by omega⟩
      clear hno hyes hok h1
      go_wp2
      refine bodyPost_ret (v := .tuple #[.agg #[.int .i64 0, .int .i64 0, .slice none 0 0, .slice none 0 0], .int .i64 80]) ?_ rfl ⟨_, _, rfl, HC.nil _ _ _, HR.nil _ _ _, hB⟩
      simp [results, Tryd.results11, go_sem, c0, c1, c2, c3]
end Go.Proofs.YtnigpmbpipmgfaaDoor
