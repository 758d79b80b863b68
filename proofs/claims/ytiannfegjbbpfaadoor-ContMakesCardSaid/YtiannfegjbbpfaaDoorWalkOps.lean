/-
  ContOps: the walk.
-/
import Derived.Test.YtiannfegjbbpfaaDoorROp
import Derived.Test.YtiannfegjbbpfaaDoorWalkParts
namespace Go.Proofs.YtiannfegjbbpfaaDoor
open Go.RowKit Tess

theorem cont_refl (f : Int) (D : ByteArray) (w : World) : (binOp .eql 25 (.agg #[.int .i64 f, .string D]) (.agg #[.int .i64 f, .string D])).run Tryd.prog w = .ok (.bool true) w := by
  rw [cont_eq, sameC_refl]
theorem box_far {W : World} {b n : Nat} {f : Int} {D : ByteArray} (h : CBox W b f D) (hne : b ≠ n) (u v : Value) : CBox ((W.setCell ⟨n, 0, none⟩ u).setCell ⟨n, 1, none⟩ v) b f D :=
  (Below.heap_setCell _ ⟨n, 1, none⟩ _ _ hne).trans ((Below.heap_setCell W ⟨n, 0, none⟩ _ _ hne).trans h)
theorem below_set2 {w W : World} {n : Nat} (h : Below w.heap.size w W) (hn : w.heap.size ≤ n) (u v : Value) : Below w.heap.size w ((W.setCell ⟨n, 0, none⟩ u).setCell ⟨n, 1, none⟩ v) :=
  (h.setCell (p := ⟨n, 0, none⟩) hn _).setCell (p := ⟨n, 1, none⟩) hn _
theorem boxes_two {W : World} {b1 b2 : Nat} {f1 f2 : Int} {D1 D2 : ByteArray} (h1 : CBox W b1 f1 D1) (h2 : CBox W b2 f2 D2) : Boxes W [(b2, f2, D2), (b1, f1, D1)] := by
  intro x hx
  rcases List.mem_cons.1 hx with rfl | hx
  · exact h2
  · rcases List.mem_cons.1 hx with rfl | hx
    · exact h1
    · cases hx

set_option maxRecDepth 100000 in
set_option maxHeartbeats 16000000 in
theorem contOps_walk (f1 : Int) (D1 : ByteArray) (f2 : Int) (D2 : ByteArray) (op a b : Int) {w : World} (hT : Tab w) :
    Calls Tryd.prog 7 #[.agg #[.int .i64 f1, .string D1], .agg #[.int .i64 f2, .string D2], .int .i64 op, .int .i64 a, .int .i64 b] w fun e W' => e = .returned (.bool true) ∧ Below w.heap.size w W' := by
  have hR : Below w.heap.size w ((w.alloc (.cells #[.int .i64 f1, .string D1] 25)).alloc (.cells #[.int .i64 f2, .string D2] 25)) := ((Below.refl _ w).alloc (Nat.le_refl _) _).alloc (by simp) _
  have k1 := Lib.hid (shown_any _ (hT.below hR hT.lt))
  have hx0 := Lib.hid ((CBox.new w f1 D1).alloc (.cells #[.int .i64 f2, .string D2] 25))
  have hy0 : Hid (CBox ((w.alloc (.cells #[.int .i64 f1, .string D1] 25)).alloc (.cells #[.int .i64 f2, .string D2] 25)) (w.heap.size + 1) f2 D2) := by
    have := CBox.new (w.alloc (.cells #[.int .i64 f1, .string D1] 25)) f2 D2
    rwa [World.size_alloc] at this
  have hTl := Lib.hid hT
  have hR0 := Lib.hid hR
  clear hT hR
  go_enter Tryd.func7, Tryd.ntmps7
  go_wp2_with fail
  refine (k1.out).mono ?_
  rintro e W1 ⟨rfl, hb1⟩
  have hB1 := Lib.hid (hR0.out.trans (hb1.mono hR0.out.size))
  have hx1 := Lib.hid (hx0.out.later hb1)
  have hy1 := Lib.hid (hy0.out.later hb1)
  clear hb1 k1 hx0 hy0 hR0
  obtain ⟨d0, d1, p0, p1⟩ := blk2_cells hx1.out
  have k2 := Lib.hid (cut_any f1 D1 W1)
  go_wp2_with fail
  refine (k2.out).mono ?_
  rintro e W2 ⟨rfl, hb2⟩
  have hB2 := Lib.hid (below_set2 (hB1.out.trans (hb2.mono hB1.out.size)) (Nat.le_refl _) (.int .i64 f1) (.string (cutD D1)))
  have hx2 : Hid (CBox ((W2.setCell ⟨w.heap.size, 0, none⟩ (.int .i64 f1)).setCell ⟨w.heap.size, 1, none⟩ (.string (cutD D1))) w.heap.size f1 (cutD D1)) := heap_set2 (hx1.out.later hb2) (.int .i64 f1) (.string (cutD D1))
  have hy2 := Lib.hid (box_far (hy1.out.later hb2) (show w.heap.size + 1 ≠ w.heap.size by omega) (.int .i64 f1) (.string (cutD D1)))
  have hxw := hx1.out.later hb2
  clear d0 d1 p0 p1 k2 hB1 hx1 hy1 hb2
  obtain ⟨z0, z1, p0, p1⟩ := blk2_cells hxw
  obtain ⟨d0, d1, -, -⟩ := blk2_cells hy2.out
  have k3 := Lib.hid (cut_any f2 D2 ((W2.setCell ⟨w.heap.size, 0, none⟩ (.int .i64 f1)).setCell ⟨w.heap.size, 1, none⟩ (.string (cutD D1))))
  clear hxw
  go_wp2_with fail
  refine (k3.out).mono ?_
  rintro e W3 ⟨rfl, hb3⟩
  have hB3 := Lib.hid (below_set2 (hB2.out.trans (hb3.mono hB2.out.size)) (Nat.le_succ _) (.int .i64 f2) (.string (cutD D2)))
  have hyw := hy2.out.later hb3
  have hy3 : CBox ((W3.setCell ⟨w.heap.size + 1, 0, none⟩ (.int .i64 f2)).setCell ⟨w.heap.size + 1, 1, none⟩ (.string (cutD D2))) (w.heap.size + 1) f2 (cutD D2) := heap_set2 hyw (.int .i64 f2) (.string (cutD D2))
  have hx3 := Lib.hid (boxes_two (box_far (hx2.out.later hb3) (show w.heap.size ≠ w.heap.size + 1 by omega) (.int .i64 f2) (.string (cutD D2))) hy3)
  clear d0 d1 z0 z1 p0 p1 k3 hB2 hx2 hy2 hb3 hy3
  obtain ⟨z0, z1, p0, p1⟩ := blk2_cells hyw
  clear hyw
  have hl1 : (cutD D1).size ≤ 1000000 := Nat.le_trans (cutD_size D1) (by decide)
  have hl2 : (cutD D2).size ≤ 1000000 := Nat.le_trans (cutD_size D2) (by decide)
  generalize cutD D1 = A at hx3 hB3 hl1 ⊢
  generalize cutD D2 = B at hx3 hB3 hl2 ⊢
  obtain ⟨r1, hr1⟩ : ∃ r, opRes op f1 A f2 B = r := ⟨_, rfl⟩
  obtain ⟨r2, hr2⟩ : ∃ r, flRes f1 A a b = r := ⟨_, rfl⟩
  obtain ⟨r3, hr3⟩ : ∃ r, asRes f2 B op = r := ⟨_, rfl⟩
  have q1 := Lib.hid hr1
  have q2 := Lib.hid hr2
  have q3 := Lib.hid hr3
  clear hr1 hr2 hr3
  have hl1' := Lib.hid hl1
  have hl2' := Lib.hid hl2
  clear hl1 hl2
  have k13 := Lib.hid (Op_any op f1 A f2 B ((W3.setCell ⟨w.heap.size + 1, 0, none⟩ (.int .i64 f2)).setCell ⟨w.heap.size + 1, 1, none⟩ (.string B)) hl1'.out hl2'.out (hTl.out.below hB3.out hTl.out.lt))
  rw [q1.out] at k13
  obtain ⟨d0, d1, -, -⟩ := blk2_cells (hx3.out (w.heap.size, f1, A) (by simp))
  obtain ⟨g0, g1, -, -⟩ := blk2_cells (hx3.out (w.heap.size + 1, f2, B) (by simp))
  go_wp2_with fail
  refine (k13.out).mono ?_
  rintro e W4 ⟨rfl, hb4⟩
  clear z0 z1 p0 p1
  have hB4 := Lib.hid (below_box hB3.out hB3.out.size hb4 (.cells #[.int .i64 r1.1.form, .string (bs r1.1.data)] 25))
  have hx4 := Lib.hid (hx3.out.more hb4 r1.1.form (bs r1.1.data))
  clear d0 d1 g0 g1 hb4 k13 hx3 hB3
  have k14 := Lib.hid (rop_any op f1 A f2 B (W4.alloc (.cells #[.int .i64 r1.1.form, .string (bs r1.1.data)] 25)) hl1'.out hl2'.out)
  rw [q1.out] at k14
  obtain ⟨d0, d1, -, -⟩ := blk2_cells (hx4.out (w.heap.size, f1, A) (by simp))
  obtain ⟨g0, g1, -, -⟩ := blk2_cells (hx4.out (w.heap.size + 1, f2, B) (by simp))
  try simp only [cv]
  go_wp2_with fail
  refine (k14.out).mono ?_
  rintro e W5 ⟨rfl, hb5⟩
  have hB5 := Lib.hid (below_box hB4.out hB4.out.size hb5 (.cells #[.int .i64 r1.1.form, .string (bs r1.1.data)] 25))
  have hx5 := Lib.hid (hx4.out.more hb5 r1.1.form (bs r1.1.data))
  clear d0 d1 g0 g1 hb5 k14 hx4 hB4
  have k15 := Lib.hid (flip_any f1 A a b (W5.alloc (.cells #[.int .i64 r1.1.form, .string (bs r1.1.data)] 25)) hl1'.out (hTl.out.below hB5.out hTl.out.lt))
  rw [q2.out] at k15
  obtain ⟨d0, d1, -, -⟩ := blk2_cells (hx5.out (w.heap.size, f1, A) (by simp))
  try simp only [cv]
  go_wp2_with fail
  refine (k15.out).mono ?_
  rintro e W6 ⟨rfl, hb6⟩
  have hB6 := Lib.hid (below_box hB5.out hB5.out.size hb6 (.cells #[.int .i64 r2.1.form, .string (bs r2.1.data)] 25))
  have hx6 := Lib.hid (hx5.out.more hb6 r2.1.form (bs r2.1.data))
  clear d0 d1 hb6 k15 hx5 hB5
  have k16 := Lib.hid (rflip_any f1 A a b (W6.alloc (.cells #[.int .i64 r2.1.form, .string (bs r2.1.data)] 25)) hl1'.out)
  rw [q2.out] at k16
  obtain ⟨d0, d1, -, -⟩ := blk2_cells (hx6.out (w.heap.size, f1, A) (by simp))
  try simp only [cv]
  go_wp2_with fail
  refine (k16.out).mono ?_
  rintro e W7 ⟨rfl, hb7⟩
  have hB7 := Lib.hid (below_box hB6.out hB6.out.size hb7 (.cells #[.int .i64 r2.1.form, .string (bs r2.1.data)] 25))
  have hx7 := Lib.hid (hx6.out.more hb7 r2.1.form (bs r2.1.data))
  clear d0 d1 hb7 k16 hx6 hB6
  have k17 := Lib.hid (As_any f2 B op (W7.alloc (.cells #[.int .i64 r2.1.form, .string (bs r2.1.data)] 25)) hl2'.out (hTl.out.below hB7.out hTl.out.lt))
  rw [q3.out] at k17
  obtain ⟨g0, g1, -, -⟩ := blk2_cells (hx7.out (w.heap.size + 1, f2, B) (by simp))
  try simp only [cv]
  go_wp2_with fail
  refine (k17.out).mono ?_
  rintro e W8 ⟨rfl, hb8⟩
  have hB8 := Lib.hid (below_box hB7.out hB7.out.size hb8 (.cells #[.int .i64 r3.1.form, .string (bs r3.1.data)] 25))
  have hx8 := Lib.hid (hx7.out.more hb8 r3.1.form (bs r3.1.data))
  clear g0 g1 hb8 k17 hx7 hB7
  have k18 := Lib.hid (ras_any f2 B op (W8.alloc (.cells #[.int .i64 r3.1.form, .string (bs r3.1.data)] 25)) hl2'.out)
  rw [q3.out] at k18
  obtain ⟨g0, g1, -, -⟩ := blk2_cells (hx8.out (w.heap.size + 1, f2, B) (by simp))
  try simp only [cv]
  go_wp2_with fail
  refine (k18.out).mono ?_
  rintro e W9 ⟨rfl, hb9⟩
  have hB9 := Lib.hid (below_box hB8.out hB8.out.size hb9 (.cells #[.int .i64 r3.1.form, .string (bs r3.1.data)] 25))
  have hx9 := Lib.hid (hx8.out.more hb9 r3.1.form (bs r3.1.data))
  clear g0 g1 hb9 k18 hx8 hB8
  try simp only [cv]
  obtain ⟨c00, c01, -, -⟩ := blk2_cells (hx9.out (W4.heap.size, r1.1.form, bs r1.1.data) (by simp))
  obtain ⟨c10, c11, -, -⟩ := blk2_cells (hx9.out (W5.heap.size, r1.1.form, bs r1.1.data) (by simp))
  obtain ⟨c20, c21, -, -⟩ := blk2_cells (hx9.out (W6.heap.size, r2.1.form, bs r2.1.data) (by simp))
  obtain ⟨c30, c31, -, -⟩ := blk2_cells (hx9.out (W7.heap.size, r2.1.form, bs r2.1.data) (by simp))
  obtain ⟨c40, c41, -, -⟩ := blk2_cells (hx9.out (W8.heap.size, r3.1.form, bs r3.1.data) (by simp))
  obtain ⟨c50, c51, -, -⟩ := blk2_cells (hx9.out (W9.heap.size, r3.1.form, bs r3.1.data) (by simp))
  have her1 := cont_refl r1.1.form (bs r1.1.data)
  have her2 := cont_refl r2.1.form (bs r2.1.data)
  have her3 := cont_refl r3.1.form (bs r3.1.data)
  have hgd := cont_guard
  go_wp2
  exact bodyPost_ret (v := .bool true) (by simp [results, Tryd.results7, go_sem]) rfl ⟨rfl, hB9.out⟩
end Go.Proofs.YtiannfegjbbpfaaDoor
