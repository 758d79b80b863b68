/-
  The reference's best, Right, As.
-/
import Derived.Deep.RegionHeld3
import Derived.Test.YtalnfbkmlllfhaaDoorRForm
import Derived.Test.YtalnfbkmlllfhaaDoorPlainR
namespace Go.Proofs.YtalnfbkmlllfhaaDoor
open Go.RowKit Tess

theorem form1 (s : Nat) (w : World) : Calls Tryd.prog 105 #[.agg (bc s), .int .i64 1] w fun e W' => e = .returned (cv 1 (nums s)) ∧ Below w.heap.size w W' := form_any (by rfl) w
theorem form2 (s : Nat) (w : World) : Calls Tryd.prog 105 #[.agg (bc s), .int .i64 2] w fun e W' => e = .returned (cv 2 (raw s)) ∧ Below w.heap.size w W' := form_any (by rfl) w
theorem form3 (s : Nat) (w : World) : Calls Tryd.prog 105 #[.agg (bc s), .int .i64 3] w fun e W' => e = .returned (cv 3 (runs s)) ∧ Below w.heap.size w W' := form_any (by rfl) w

theorem best_first {s : Nat} (h : (nums s).length ≤ (runs s).length) (h2 : (nums s).length ≤ 32) : best s = ⟨1, nums s⟩ := by
  rcases best_cases s with ⟨h, _⟩ | ⟨_, h1, _⟩ | h1
  · exact h
  · omega
  · obtain ⟨_, h3, h4⟩ := h1; omega
theorem best_third {s : Nat} (h : ¬ ((nums s).length ≤ (runs s).length ∧ (nums s).length ≤ 32)) (h2 : (runs s).length ≤ 32) : best s = ⟨3, runs s⟩ := by
  rcases best_cases s with ⟨_, h1, h3⟩ | ⟨h, _⟩ | h1
  · exact absurd ⟨h3, h1⟩ h
  · exact h
  · obtain ⟨_, h3, h4⟩ := h1; omega
theorem best_second {s : Nat} (h : ¬ ((nums s).length ≤ (runs s).length ∧ (nums s).length ≤ 32)) (h2 : ¬ (runs s).length ≤ 32) : best s = ⟨2, raw s⟩ := by
  rcases best_cases s with ⟨_, h1, h3⟩ | ⟨_, _, h1⟩ | h1
  · exact absurd ⟨h3, h1⟩ h
  · omega
  · exact h1.1

/-- What lies in memory while best works. -/
structure RBestAt (w W : World) (s : Nat) : Prop where
  res : W.heap[w.heap.size + 1]? = some (.cells #[.int .i64 0, .string ⟨#[]⟩] 57 (0, 0))
  arr : Arr W w.heap.size s
  below : Below w.heap.size w W
theorem RBestAt.box {w A W : World} {s : Nat} (h : RBestAt w A s) (hb : Below A.heap.size A W) (o : Obj) : RBestAt w (W.alloc o) s :=
  ⟨(Below.heap_alloc _ _ _ (Nat.lt_of_lt_of_le (lt_of_heap h.res) hb.size)).trans ((hb.block _ (lt_of_heap h.res)).trans h.res), (h.arr.later hb).alloc _, below_box h.below h.below.size hb o⟩

set_option maxRecDepth 100000 in
set_option maxHeartbeats 4000000 in
theorem rbest_any (s : Nat) (w : World) :
    Calls Tryd.prog 92 #[.agg (bc s)] w fun e W' => e = .returned (cv (best s).form (best s).data) ∧ Below w.heap.size w W' := by
  have hA0 : Hid (RBestAt w ((w.alloc (.cells (bc s) 118)).alloc (.cells #[.int .i64 0, .string ⟨#[]⟩] 57)) s) :=
    ⟨by have := heap_alloc_new (w.alloc (.cells (bc s) 118)) (.cells #[.int .i64 0, .string ⟨#[]⟩] 57); rwa [World.size_alloc] at this, (Arr.new w s).alloc _, ((Below.refl _ w).alloc (Nat.le_refl _) _).alloc (by simp) _⟩
  go_enter Tryd.func92, Tryd.ntmps92
  go_wp2
  refine Arr.wpLoad hA0.out.arr _ rfl rfl ?_
  have k1 := Lib.hid (form1 s ((w.alloc (.cells (bc s) 118)).alloc (.cells #[.int .i64 0, .string ⟨#[]⟩] 57)))
  go_wp2_with fail
  refine (k1.out).mono ?_
  rintro e W1 ⟨rfl, hb1⟩
  have hA1 := Lib.hid (hA0.out.box hb1 (.cells #[.int .i64 1, .string (bs (nums s))] 57))
  have hx1 := Lib.hid (CBox.new W1 1 (bs (nums s)))
  clear hb1 k1 hA0
  simp only [cv]
  go_wp2
  refine Arr.wpLoad hA1.out.arr _ rfl rfl ?_
  have k2 := Lib.hid (form2 s (W1.alloc (.cells #[.int .i64 1, .string (bs (nums s))] 57)))
  go_wp2_with fail
  refine (k2.out).mono ?_
  rintro e W2 ⟨rfl, hb2⟩
  have hA2 := Lib.hid (hA1.out.box hb2 (.cells #[.int .i64 2, .string (bs (raw s))] 57))
  have hx2 := Lib.hid ((hx1.out.later hb2).alloc (.cells #[.int .i64 2, .string (bs (raw s))] 57))
  have hy2 := Lib.hid (CBox.new W2 2 (bs (raw s)))
  clear hb2 k2 hA1 hx1
  simp only [cv]
  go_wp2
  refine Arr.wpLoad hA2.out.arr _ rfl rfl ?_
  have k3 := Lib.hid (form3 s (W2.alloc (.cells #[.int .i64 2, .string (bs (raw s))] 57)))
  go_wp2_with fail
  refine (k3.out).mono ?_
  rintro e W3 ⟨rfl, hb3⟩
  have hA3 := Lib.hid (hA2.out.box hb3 (.cells #[.int .i64 3, .string (bs (runs s))] 57))
  have hx3 := (hx2.out.later hb3).alloc (.cells #[.int .i64 3, .string (bs (runs s))] 57)
  have hy3 := (hy2.out.later hb3).alloc (.cells #[.int .i64 3, .string (bs (runs s))] 57)
  have hz3 := CBox.new W3 3 (bs (runs s))
  clear hb3 k3 hA2 hx2 hy2
  obtain ⟨a0, a1, -, -⟩ := blk2_cells hx3
  obtain ⟨b0, b1, -, -⟩ := blk2_cells hy3
  obtain ⟨c0, c1, -, -⟩ := blk2_cells hz3
  obtain ⟨r0, r1, f0, f1⟩ := blk2_cells hA3.out.res
  clear hx3 hy3 hz3
  have l1 : (bs (nums s)).size = (nums s).length := bs_size _
  have l2 : (bs (runs s)).size = (runs s).length := bs_size _
  simp only [cv]
  by_cases h1 : (nums s).length ≤ (runs s).length
  · have d1 : decide ((nums s).length ≤ (runs s).length) = true := by simpa using h1
    by_cases h2 : (nums s).length ≤ 32
    · have d2 : decide (((nums s).length : Int) ≤ 32) = true := by simp; omega
      have hbe := Lib.hid (best_first h1 h2)
      go_wp2
      have hrs := blk2_cells (heap_set2 hA3.out.res (.int .i64 1) (.string (bs (nums s))))
      refine bodyPost_ret (v := cv 1 (nums s)) ?_ rfl ⟨by rw [hbe.out], (hA3.out.below.setCell (p := ⟨w.heap.size + 1, 0, none⟩) (Nat.le_succ _) _).setCell (p := ⟨w.heap.size + 1, 1, none⟩) (Nat.le_succ _) _⟩
      simp [results, Tryd.results92, go_sem, cv, hrs.1, hrs.2.1]
    · have d2 : decide (((nums s).length : Int) ≤ 32) = false := by simp; omega
      have d3 : decide (((runs s).length : Int) ≤ 32) = false := by simp; omega
      have hbe := Lib.hid (best_second (s := s) (fun h => h2 h.2) (by omega))
      go_wp2
      have hrs := blk2_cells (heap_set2 hA3.out.res (.int .i64 2) (.string (bs (raw s))))
      refine bodyPost_ret (v := cv 2 (raw s)) ?_ rfl ⟨by rw [hbe.out], (hA3.out.below.setCell (p := ⟨w.heap.size + 1, 0, none⟩) (Nat.le_succ _) _).setCell (p := ⟨w.heap.size + 1, 1, none⟩) (Nat.le_succ _) _⟩
      simp [results, Tryd.results92, go_sem, cv, hrs.1, hrs.2.1]
  · have d1 : decide ((nums s).length ≤ (runs s).length) = false := by simpa using h1
    by_cases h2 : (runs s).length ≤ 32
    · have d2 : decide (((runs s).length : Int) ≤ 32) = true := by simp; omega
      have hbe := Lib.hid (best_third (fun h => h1 h.1) h2)
      go_wp2
      have hrs := blk2_cells (heap_set2 hA3.out.res (.int .i64 3) (.string (bs (runs s))))
      refine bodyPost_ret (v := cv 3 (runs s)) ?_ rfl ⟨by rw [hbe.out], (hA3.out.below.setCell (p := ⟨w.heap.size + 1, 0, none⟩) (Nat.le_succ _) _).setCell (p := ⟨w.heap.size + 1, 1, none⟩) (Nat.le_succ _) _⟩
      simp [results, Tryd.results92, go_sem, cv, hrs.1, hrs.2.1]
    · have d2 : decide (((runs s).length : Int) ≤ 32) = false := by simp; omega
      have hbe := Lib.hid (best_second (fun h => h1 h.1) h2)
      go_wp2
      have hrs := blk2_cells (heap_set2 hA3.out.res (.int .i64 2) (.string (bs (raw s))))
      refine bodyPost_ret (v := cv 2 (raw s)) ?_ rfl ⟨by rw [hbe.out], (hA3.out.below.setCell (p := ⟨w.heap.size + 1, 0, none⟩) (Nat.le_succ _) _).setCell (p := ⟨w.heap.size + 1, 1, none⟩) (Nat.le_succ _) _⟩
      simp [results, Tryd.results92, go_sem, cv, hrs.1, hrs.2.1]
end Go.Proofs.YtalnfbkmlllfhaaDoor
