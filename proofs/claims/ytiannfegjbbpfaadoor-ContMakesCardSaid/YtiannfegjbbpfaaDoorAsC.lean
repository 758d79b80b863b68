/-
  cont's As; the reference's Ints.
-/
import Derived.Test.YtiannfegjbbpfaaDoorPlain
namespace Go.Proofs.YtiannfegjbbpfaaDoor
open Go.RowKit Tess

theorem asRes_no {f : Int} {D : ByteArray} {form : Int} (h : (ofRes f D).2 = false) : asRes f D form = (⟨0, []⟩, 60) := by
  unfold asRes; rw [h]
theorem asRes_none {f : Int} {D : ByteArray} {form : Int} (h : asOf (ofRes f D).1 form = none) : asRes f D form = (⟨0, []⟩, 60) := by
  unfold asRes; rw [h]; cases (ofRes f D).2 <;> rfl
theorem asRes_some {f : Int} {D : ByteArray} {form : Int} {d : List Nat} (h1 : (ofRes f D).2 = true) (h : asOf (ofRes f D).1 form = some d) : asRes f D form = (⟨form, d⟩, 0) := by
  unfold asRes; rw [h, h1]

/-- What lies in memory while As works. -/
structure AsAt (w W : World) (bS s : Nat) : Prop where
  res : W.heap[w.heap.size + 1]? = some (.cells #[.int .i64 0, .string ⟨#[]⟩] 25 (0, 0))
  set : Words 51 W bS s
  below : Below w.heap.size w W
  lo : w.heap.size + 2 ≤ bS
theorem AsAt.later {w wr W : World} {bS s : Nat} (h : AsAt w wr bS s) (hb : Below wr.heap.size wr W) : AsAt w W bS s :=
  ⟨(hb.block _ (lt_of_heap h.res)).trans h.res, h.set.below hb h.set.lt, h.below.trans (hb.mono h.below.size), h.lo⟩

set_option maxRecDepth 100000 in
set_option maxHeartbeats 4000000 in
/-- **As(c, form)** -/
theorem As_any (f : Int) (D : ByteArray) (form : Int) (w : World) (hD : D.size ≤ 1000000) (hT : Tab w) :
    Calls Tryd.prog 22 #[.agg #[.int .i64 f, .string D], .int .i64 form] w fun e W' => e = .returned (.tuple #[cv (asRes f D form).1.form (asRes f D form).1.data, .int .i64 (asRes f D form).2]) ∧ Below w.heap.size w W' := by
  have hR : Below w.heap.size w ((w.alloc (.cells #[.int .i64 f, .string D] 25)).alloc (.cells #[.int .i64 0, .string ⟨#[]⟩] 25)) := ((Below.refl _ w).alloc (Nat.le_refl _) _).alloc (by simp) _
  have ho := Lib.hid (of_any f D _ hD (hT.below hR hT.lt))
  have hM0 := heap_alloc_new (w.alloc (.cells #[.int .i64 f, .string D] 25)) (.cells #[.int .i64 0, .string ⟨#[]⟩] 25)
  rw [World.size_alloc] at hM0
  go_enter Tryd.func22, Tryd.ntmps22
  go_wp2_with fail
  refine (ho.out).mono ?_
  rintro e W1 ⟨rfl, hb1⟩
  have hs1 := hb1.size
  simp only [World.size_alloc] at hs1
  have hA : Hid (AsAt w (W1.alloc (.cells (wcs (ofRes f D).1) 51)) W1.heap.size (ofRes f D).1) :=
    ⟨(Below.heap_alloc _ _ _ (by omega)).trans ((hb1.block _ (by simp)).trans hM0), Words.new W1 _ _, ((hR.trans (hb1.mono (by simp; omega))).alloc (by omega) _), by omega⟩
  clear hb1 hM0
  have c0 := hA.out.set.cell (i := 0) (by decide)
  have c1 := hA.out.set.cell (i := 1) (by decide)
  have c2 := hA.out.set.cell (i := 2) (by decide)
  have c3 := hA.out.set.cell (i := 3) (by decide)
  have hT3 := hT.below hA.out.below hT.lt
  cases has : asOf (ofRes f D).1 form with
  | none =>
    obtain ⟨n1, n2, n3⟩ := asOf_none has
    have k1 := Lib.hid (as_none (ofRes f D).1 form (W1.alloc (.cells (wcs (ofRes f D).1) 51)) n1 n2 n3)
    have hof := Lib.hid (asRes_none has)
    clear has n1 n2 n3
    simp only [wv, wcs, lv] at c0 c1 c2 c3 k1 ⊢
    go_wp2_with fail
    refine (k1.out).mono ?_
    rintro e W2 ⟨rfl, hb2⟩
    have hM3 : Hid (AsAt w (W2.alloc (.cells #[.int .i64 0, .string (bs [])] 25)) W1.heap.size (ofRes f D).1) := (hA.out.later hb2).later ((Below.refl _ W2).alloc (Nat.le_refl _) _)
    obtain ⟨r0, r1, f0, f1⟩ := blk2_cells hM3.out.res
    clear c0 c1 c2 c3
    simp only [cv]
    cases hok : (ofRes f D).2 with
    | false =>
      go_wp2
      have hrs := blk2_cells (heap_set2 hM3.out.res (.int .i64 0) (.string ⟨#[]⟩))
      refine bodyPost_ret (v := .tuple #[cv 0 [], .int .i64 60]) ?_ rfl ⟨by rw [hof.out], (hM3.out.below.setCell (p := ⟨w.heap.size + 1, 0, none⟩) (Nat.le_succ _) _).setCell (p := ⟨w.heap.size + 1, 1, none⟩) (Nat.le_succ _) _⟩
      simp [results, Tryd.results22, go_sem, cv, hrs.1, hrs.2.1]
      try rfl
    | true =>
      go_wp2
      have hrs := blk2_cells (heap_set2 hM3.out.res (.int .i64 0) (.string ⟨#[]⟩))
      refine bodyPost_ret (v := .tuple #[cv 0 [], .int .i64 60]) ?_ rfl ⟨by rw [hof.out], (hM3.out.below.setCell (p := ⟨w.heap.size + 1, 0, none⟩) (Nat.le_succ _) _).setCell (p := ⟨w.heap.size + 1, 1, none⟩) (Nat.le_succ _) _⟩
      simp [results, Tryd.results22, go_sem, cv, hrs.1, hrs.2.1]
      try rfl
  | some d =>
    have k1 := Lib.hid (as_some has (W1.alloc (.cells (wcs (ofRes f D).1) 51)) hT3)
    have hof1 := Lib.hid (fun h : (ofRes f D).2 = false => asRes_no (form := form) h)
    have hof2 := Lib.hid (fun h : (ofRes f D).2 = true => asRes_some h has)
    clear has
    simp only [wv, wcs, lv] at c0 c1 c2 c3 k1 ⊢
    go_wp2_with fail
    refine (k1.out).mono ?_
    rintro e W2 ⟨rfl, hb2⟩
    have hM3 : Hid (AsAt w (W2.alloc (.cells #[.int .i64 form, .string (bs d)] 25)) W1.heap.size (ofRes f D).1) := (hA.out.later hb2).later ((Below.refl _ W2).alloc (Nat.le_refl _) _)
    obtain ⟨r0, r1, f0, f1⟩ := blk2_cells hM3.out.res
    obtain ⟨n0, n1, _, _⟩ := blk2_cells (heap_alloc_new W2 (.cells #[.int .i64 form, .string (bs d)] 25))
    clear c0 c1 c2 c3
    simp only [cv]
    cases hok : (ofRes f D).2 with
    | false =>
      have hof := Lib.hid (hof1.out hok)
      go_wp2
      have hrs := blk2_cells (heap_set2 hM3.out.res (.int .i64 0) (.string ⟨#[]⟩))
      refine bodyPost_ret (v := .tuple #[cv 0 [], .int .i64 60]) ?_ rfl ⟨by rw [hof.out], (hM3.out.below.setCell (p := ⟨w.heap.size + 1, 0, none⟩) (Nat.le_succ _) _).setCell (p := ⟨w.heap.size + 1, 1, none⟩) (Nat.le_succ _) _⟩
      simp [results, Tryd.results22, go_sem, cv, hrs.1, hrs.2.1]
      try rfl
    | true =>
      have hof := Lib.hid (hof2.out hok)
      go_wp2
      have hrs := blk2_cells (heap_set2 hM3.out.res (.int .i64 form) (.string (bs d)))
      refine bodyPost_ret (v := .tuple #[cv form d, .int .i64 0]) ?_ rfl ⟨by rw [hof.out], (hM3.out.below.setCell (p := ⟨w.heap.size + 1, 0, none⟩) (Nat.le_succ _) _).setCell (p := ⟨w.heap.size + 1, 1, none⟩) (Nat.le_succ _) _⟩
      simp [results, Tryd.results22, go_sem, cv, hrs.1, hrs.2.1]
end Go.Proofs.YtiannfegjbbpfaaDoor
