/-
  cont's of: a container's set, if it is one. Two containers compared.
-/
import Derived.Laws.StructEq
import Derived.BigQuiet
import Derived.Test.YtnigpmbpipmgfaaDoorRead
namespace Go.Proofs.YtnigpmbpipmgfaaDoor
open Go.RowKit Tess

/-- Are two containers the same? -/
def sameC (f1 : Int) (D1 : ByteArray) (f2 : Int) (D2 : ByteArray) : Bool := f1 == f2 && D1.toList == D2.toList
theorem toList_inj {a b : ByteArray} (h : a.toList = b.toList) : a = b := by
  rw [ByteArray.toList_eq, ByteArray.toList_eq] at h
  obtain ⟨⟨x⟩⟩ := a
  obtain ⟨⟨y⟩⟩ := b
  simp at h
  rw [h]
theorem sameC_iff {f1 f2 : Int} {D1 D2 : ByteArray} : sameC f1 D1 f2 D2 = true ↔ f1 = f2 ∧ D1 = D2 := by
  unfold sameC
  simp only [Bool.and_eq_true, beq_iff_eq]
  exact ⟨fun h => ⟨h.1, toList_inj h.2⟩, fun h => ⟨h.1, by rw [h.2]⟩⟩
theorem sameC_refl (f : Int) (D : ByteArray) : sameC f D f D = true := sameC_iff.2 ⟨rfl, rfl⟩

theorem cont_eq (f1 f2 : Int) (D1 D2 : ByteArray) (w : World) :
    (binOp .eql 75 (.agg #[.int .i64 f1, .string D1]) (.agg #[.int .i64 f2, .string D2])).run Tryd.prog w = .ok (.bool (sameC f1 D1 f2 D2)) w := by
  have u3 := Tryd.underlying3
  have u9 := Tryd.underlying9
  have a3 := Tryd.isAgg3
  have z3 := Tryd.sizeOf3
  have a9 := Tryd.isAgg9
  have z9 := Tryd.sizeOf9
  have hS : Tryd.prog.underlying 75 = some (.struct (Tryd.prog.fieldsOf 75)) := by kernel_rfl
  have hp : Tryd.prog.stoodInHeld 75 = false := by kernel_rfl
  rw [run_eql_struct, show (10000 : Nat) = 9999 + 1 from rfl, run_equalIn_agg w 9999 75 _ _ hS hp]
  simp only [Program.fieldsOf, Tryd.underlying75]
  go_simp
  unfold sameC
  by_cases h1 : f1 = f2 <;> by_cases h2 : D1.toList = D2.toList <;> simp [h1, h2]
theorem cont_neq (f1 f2 : Int) (D1 D2 : ByteArray) (w : World) :
    (binOp .neq 75 (.agg #[.int .i64 f1, .string D1]) (.agg #[.int .i64 f2, .string D2])).run Tryd.prog w = .ok (.bool (!sameC f1 D1 f2 D2)) w := by
  have u3 := Tryd.underlying3
  have u9 := Tryd.underlying9
  have a3 := Tryd.isAgg3
  have z3 := Tryd.sizeOf3
  have a9 := Tryd.isAgg9
  have z9 := Tryd.sizeOf9
  have hS : Tryd.prog.underlying 75 = some (.struct (Tryd.prog.fieldsOf 75)) := by kernel_rfl
  have hp : Tryd.prog.stoodInHeld 75 = false := by kernel_rfl
  rw [run_neq_struct, show (10000 : Nat) = 9999 + 1 from rfl, run_equalIn_agg w 9999 75 _ _ hS hp]
  simp only [Program.fieldsOf, Tryd.underlying75]
  go_simp
  unfold sameC
  by_cases h1 : f1 = f2 <;> by_cases h2 : D1.toList = D2.toList <;> simp [h1, h2]
theorem cont_guard (op : BinOp) (x y : Operand) (xs ys : Array Value) (w : World) : (eqGuard op 75 x y (.agg xs) (.agg ys)).run Tryd.prog w = .ok () w := run_eqGuard_agg w op 75 x y xs ys (by kernel_rfl)

/-- What a container's bytes come to: its set, and that it is one; else none, false. -/
def ofRes (form : Int) (D : ByteArray) : Nat × Bool := match ofC form (dn D) with | some s => (s, true) | none => (0, false)
theorem ofC_def (form : Int) (d : List Nat) : ofC form d = match asOf (readAll form d) form with | some e => if e = d then some (readAll form d) else none | none => none := by
  unfold ofC
  cases asOf (readAll form d) form <;> simp
theorem ofRes_none {form : Int} {D : ByteArray} (h : asOf (readAll form (dn D)) form = none) : ofRes form D = (0, false) := by
  unfold ofRes; rw [ofC_def, h]
theorem ofRes_same {form : Int} {D : ByteArray} {d : List Nat} (h : asOf (readAll form (dn D)) form = some d) (hs : sameC form (bs d) form D = true) : ofRes form D = (readAll form (dn D), true) := by
  have e : dn D = d := by rw [← (sameC_iff.1 hs).2, dn_bs (asOf_lt h)]
  unfold ofRes; rw [ofC_def, h]; simp [e]
theorem ofRes_other {form : Int} {D : ByteArray} {d : List Nat} (h : asOf (readAll form (dn D)) form = some d) (hs : sameC form (bs d) form D = false) : ofRes form D = (0, false) := by
  have e : ¬ d = dn D := by
    intro e
    rw [e, bs_dn, sameC_refl] at hs; cases hs
  unfold ofRes; rw [ofC_def, h]; simp [e]

theorem limb_zero (i : Nat) : limb 0 i = 0 := by simp [limb]

/-- What lies in memory once `as` has answered. -/
structure OfAt (w W : World) (form : Int) (D : ByteArray) (bS s : Nat) : Prop where
  box : W.heap[w.heap.size]? = some (.cells #[.int .i64 form, .string D] 75 (0, 0))
  res : Words 113 W (w.heap.size + 1) 0
  set : Words 113 W bS s
  below : Below w.heap.size w W
  lo : w.heap.size + 2 ≤ bS
theorem OfAt.later {w wr W : World} {form : Int} {D : ByteArray} {bS s : Nat} (h : OfAt w wr form D bS s) (hb : Below wr.heap.size wr W) : OfAt w W form D bS s :=
  ⟨(hb.block _ (lt_of_heap h.box)).trans h.box, h.res.below hb h.res.lt, h.set.below hb h.set.lt, h.below.trans (hb.mono h.below.size), h.lo⟩

theorem OfAt.start (form : Int) (D : ByteArray) (w W1 : World) (s : Nat) (hb1 : Below ((w.alloc (.cells #[.int .i64 form, .string D] 75)).alloc (.cells (wcs 0) 113)).heap.size ((w.alloc (.cells #[.int .i64 form, .string D] 75)).alloc (.cells (wcs 0) 113)) W1) :
    OfAt w (W1.alloc (.cells #[.int .u64 (limb s 0 : Int), .int .u64 (limb s 1 : Int), .int .u64 (limb s 2 : Int), .int .u64 (limb s 3 : Int)] 113)) form D W1.heap.size s := by
  have hs := hb1.size
  simp only [World.size_alloc] at hs
  have hw := (Words.new (w.alloc (.cells #[.int .i64 form, .string D] 75)) 113 0)
  rw [World.size_alloc] at hw
  refine ⟨?_, (hw.below hb1 (by simp)).alloc _, Words.new W1 _ s, ?_, by omega⟩
  · exact (Below.heap_alloc _ _ _ (by omega)).trans ((hb1.block _ (by simp; omega)).trans (blk2_new w (.int .i64 form) (.string D) 75 _))
  · exact ((((Below.refl _ w).alloc (Nat.le_refl _) _).alloc (by simp) _).trans (hb1.mono (by simp; omega))).alloc (by omega) _

/-- The result's four cells set. -/
theorem OfAt.below4 {w W : World} {form : Int} {D : ByteArray} {bS s : Nat} (h : OfAt w W form D bS s) (a b c d : Value) :
    Below w.heap.size w ((((W.setCell ⟨w.heap.size + 1, 0, none⟩ a).setCell ⟨w.heap.size + 1, 1, none⟩ b).setCell ⟨w.heap.size + 1, 2, none⟩ c).setCell ⟨w.heap.size + 1, 3, none⟩ d) :=
  (((h.below.setCell (p := ⟨w.heap.size + 1, 0, none⟩) (Nat.le_succ _) _).setCell (p := ⟨w.heap.size + 1, 1, none⟩) (Nat.le_succ _) _).setCell (p := ⟨w.heap.size + 1, 2, none⟩) (Nat.le_succ _) _).setCell (p := ⟨w.heap.size + 1, 3, none⟩) (Nat.le_succ _) _

set_option maxRecDepth 100000 in
set_option maxHeartbeats 4000000 in
theorem of_any (form : Int) (D : ByteArray) (w : World) (hD : D.size ≤ 1000000) (hT : Tab w) :
    Calls Tryd.prog 79 #[.agg #[.int .i64 form, .string D]] w fun e W' => e = .returned (.tuple #[wv (ofRes form D).1, .bool (ofRes form D).2]) ∧ Below w.heap.size w W' := by
  have hrd := Lib.hid (read_any form D ((w.alloc (.cells #[.int .i64 form, .string D] 75)).alloc (.cells (wcs 0) 113)) hD)
  go_enter Tryd.func79, Tryd.ntmps79
  go_wp2_with fail
  refine (hrd.out).mono ?_
  rintro e W1 ⟨rfl, hb1⟩
  have hM := Lib.hid (OfAt.start form D w W1 (readAll form (dn D)) hb1)
  have hT3 := hT.below hM.out.below hT.lt
  have c0 := hM.out.set.cell (i := 0) (by decide)
  have c1 := hM.out.set.cell (i := 1) (by decide)
  have c2 := hM.out.set.cell (i := 2) (by decide)
  have c3 := hM.out.set.cell (i := 3) (by decide)
  obtain ⟨b0, b1, _, _⟩ := blk2_cells hM.out.box
  clear hb1
  cases has : asOf (readAll form (dn D)) form with
  | none =>
    obtain ⟨n1, n2, n3⟩ := asOf_none has
    have k1 := Lib.hid (as_none (readAll form (dn D)) form (W1.alloc (.cells #[.int .u64 (limb (readAll form (dn D)) 0 : Int), .int .u64 (limb (readAll form (dn D)) 1 : Int), .int .u64 (limb (readAll form (dn D)) 2 : Int), .int .u64 (limb (readAll form (dn D)) 3 : Int)] 113)) n1 n2 n3)
    have hof := Lib.hid (ofRes_none has)
    clear has n1 n2 n3
    simp only [wv, wcs, lv]
    go_wp2_with fail
    refine (k1.out).mono ?_
    rintro e W2 ⟨rfl, hb2⟩
    have hM3 : Hid (OfAt w (W2.alloc (.cells #[.int .i64 0, .string (bs [])] 75)) form D W1.heap.size (readAll form (dn D))) := (hM.out.later hb2).later ((Below.refl _ W2).alloc (Nat.le_refl _) _)
    obtain ⟨d0, d1, _, _⟩ := blk2_cells hM3.out.box
    obtain ⟨n0, n1, _, _⟩ := blk2_cells (heap_alloc_new W2 (.cells #[.int .i64 0, .string (bs [])] 75))
    have r0 := hM3.out.res.cell (i := 0) (by decide)
    have r1 := hM3.out.res.cell (i := 1) (by decide)
    have r2 := hM3.out.res.cell (i := 2) (by decide)
    have r3 := hM3.out.res.cell (i := 3) (by decide)
    have f0 := hM3.out.res.frozen 0
    have f1 := hM3.out.res.frozen 1
    have f2 := hM3.out.res.frozen 2
    have f3 := hM3.out.res.frozen 3
    have hr := Lib.hid (words_set4 hM3.out.res 0)
    clear c0 c1 c2 c3 b0 b1
    simp only [cv]
    go_wp2
    have g0 := hr.out.cell (i := 0) (by decide)
    have g1 := hr.out.cell (i := 1) (by decide)
    have g2 := hr.out.cell (i := 2) (by decide)
    have g3 := hr.out.cell (i := 3) (by decide)
    simp only [limb_zero, Int.ofNat_zero] at g0 g1 g2 g3
    refine bodyPost_ret (v := .tuple #[wv 0, .bool false]) ?_ rfl ⟨by rw [hof.out], hM3.out.below4 _ _ _ _⟩
    simp [results, Tryd.results79, go_sem, wv, wcs, lv, g0, g1, g2, g3, limb_zero]
  | some d =>
    have k1 := Lib.hid (as_some has (W1.alloc (.cells #[.int .u64 (limb (readAll form (dn D)) 0 : Int), .int .u64 (limb (readAll form (dn D)) 1 : Int), .int .u64 (limb (readAll form (dn D)) 2 : Int), .int .u64 (limb (readAll form (dn D)) 3 : Int)] 113)) hT3)
    have hl := Lib.hid (asOf_lt has)
    have heq := cont_neq form form (bs d) D
    have hgd := cont_guard
    cases hsm : sameC form (bs d) form D with
    | true =>
      have hof := Lib.hid (ofRes_same has hsm)
      rw [hsm] at heq
      clear has hsm
      simp only [wv, wcs, lv]
      go_wp2_with fail
      refine (k1.out).mono ?_
      rintro e W2 ⟨rfl, hb2⟩
      have hM3 : Hid (OfAt w (W2.alloc (.cells #[.int .i64 form, .string (bs d)] 75)) form D W1.heap.size (readAll form (dn D))) := (hM.out.later hb2).later ((Below.refl _ W2).alloc (Nat.le_refl _) _)
      obtain ⟨d0, d1, _, _⟩ := blk2_cells hM3.out.box
      obtain ⟨n0, n1, _, _⟩ := blk2_cells (heap_alloc_new W2 (.cells #[.int .i64 form, .string (bs d)] 75))
      have r0 := hM3.out.res.cell (i := 0) (by decide)
      have r1 := hM3.out.res.cell (i := 1) (by decide)
      have r2 := hM3.out.res.cell (i := 2) (by decide)
      have r3 := hM3.out.res.cell (i := 3) (by decide)
      have f0 := hM3.out.res.frozen 0
      have f1 := hM3.out.res.frozen 1
      have f2 := hM3.out.res.frozen 2
      have f3 := hM3.out.res.frozen 3
      have s0 := hM3.out.set.cell (i := 0) (by decide)
      have s1 := hM3.out.set.cell (i := 1) (by decide)
      have s2 := hM3.out.set.cell (i := 2) (by decide)
      have s3 := hM3.out.set.cell (i := 3) (by decide)
      have hr := Lib.hid (words_set4 hM3.out.res (readAll form (dn D)))
      clear c0 c1 c2 c3 b0 b1
      simp only [cv]
      go_wp2
      have g0 := hr.out.cell (i := 0) (by decide)
      have g1 := hr.out.cell (i := 1) (by decide)
      have g2 := hr.out.cell (i := 2) (by decide)
      have g3 := hr.out.cell (i := 3) (by decide)
      refine bodyPost_ret (v := .tuple #[wv (readAll form (dn D)), .bool true]) ?_ rfl ⟨by rw [hof.out], hM3.out.below4 _ _ _ _⟩
      simp [results, Tryd.results79, go_sem, wv, wcs, lv, g0, g1, g2, g3]
    | false =>
      have hof := Lib.hid (ofRes_other has hsm)
      rw [hsm] at heq
      clear has hsm
      simp only [wv, wcs, lv]
      go_wp2_with fail
      refine (k1.out).mono ?_
      rintro e W2 ⟨rfl, hb2⟩
      have hM3 : Hid (OfAt w (W2.alloc (.cells #[.int .i64 form, .string (bs d)] 75)) form D W1.heap.size (readAll form (dn D))) := (hM.out.later hb2).later ((Below.refl _ W2).alloc (Nat.le_refl _) _)
      obtain ⟨d0, d1, _, _⟩ := blk2_cells hM3.out.box
      obtain ⟨n0, n1, _, _⟩ := blk2_cells (heap_alloc_new W2 (.cells #[.int .i64 form, .string (bs d)] 75))
      have r0 := hM3.out.res.cell (i := 0) (by decide)
      have r1 := hM3.out.res.cell (i := 1) (by decide)
      have r2 := hM3.out.res.cell (i := 2) (by decide)
      have r3 := hM3.out.res.cell (i := 3) (by decide)
      have f0 := hM3.out.res.frozen 0
      have f1 := hM3.out.res.frozen 1
      have f2 := hM3.out.res.frozen 2
      have f3 := hM3.out.res.frozen 3
      have hr := Lib.hid (words_set4 hM3.out.res 0)
      clear c0 c1 c2 c3 b0 b1
      simp only [cv]
      go_wp2
      have g0 := hr.out.cell (i := 0) (by decide)
      have g1 := hr.out.cell (i := 1) (by decide)
      have g2 := hr.out.cell (i := 2) (by decide)
      have g3 := hr.out.cell (i := 3) (by decide)
      simp only [limb_zero, Int.ofNat_zero] at g0 g1 g2 g3
      refine bodyPost_ret (v := .tuple #[wv 0, .bool false]) ?_ rfl ⟨by rw [hof.out], hM3.out.below4 _ _ _ _⟩
      simp [results, Tryd.results79, go_sem, wv, wcs, lv, g0, g1, g2, g3, limb_zero]
end Go.Proofs.YtnigpmbpipmgfaaDoor
