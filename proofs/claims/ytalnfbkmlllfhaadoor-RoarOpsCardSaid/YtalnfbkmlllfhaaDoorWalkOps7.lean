/-
  RoarOps: the walk. Printed by genops7.py.
-/
import Derived.Test.YtalnfbkmlllfhaaDoorROp7
import Derived.Test.YtalnfbkmlllfhaaDoorFew7
namespace Go.Proofs.YtalnfbkmlllfhaaDoor
open Go.RowKit Tess

theorem rbs_setHead {W : World} {b : Nat} {v v' : Value} {l l' : List Ch} {L : List (Nat × Value × List Ch)} (h : RBs W ((b, v, l) :: L)) (hv : HC W v' l') (hne : ∀ x ∈ L, x.1 ≠ b) : RBs (W.setCell ⟨b, 0, none⟩ v') ((b, v', l') :: L) := by
  have hb := (h (b, v, l) List.mem_cons_self).box
  intro x hx
  rcases List.mem_cons.1 hx with rfl | hx
  · exact ⟨hb.set v', hv.setR hb v'⟩
  · have hx' := h x (List.mem_cons_of_mem _ hx)
    exact ⟨hx'.box.far (hne x hx) _, hx'.chs.setR hb v'⟩
theorem rbs_swap {W : World} {x y : Nat × Value × List Ch} {L : List (Nat × Value × List Ch)} (h : RBs W (x :: y :: L)) : RBs W (y :: x :: L) := fun z hz => h z (by
  rcases List.mem_cons.1 hz with rfl | hz
  · exact List.mem_cons_of_mem _ List.mem_cons_self
  · rcases List.mem_cons.1 hz with rfl | hz
    · exact List.mem_cons_self
    · exact List.mem_cons_of_mem _ (List.mem_cons_of_mem _ hz))
theorem opL_ex (op : Int) (l m : List Ch) : ∃ r e, opL op l m = (r, e) ∧ rightL r = true := by
  unfold opL
  split
  · exact ⟨_, _, rfl, canon_right fun k _ => opOf_lt (setAt_lt l k) (setAt_lt m k)⟩
  · exact ⟨_, _, rfl, rfl⟩
theorem flipL_ex (l : List Ch) (a b : Int) : ∃ r e, flipL l a b = (r, e) ∧ rightL r = true := by
  unfold flipL
  split
  · exact ⟨_, _, rfl, canon_right fun k _ => flipK_lt (setAt_lt l k) k a b⟩
  · exact ⟨_, _, rfl, rfl⟩

set_option maxRecDepth 100000 in
set_option maxHeartbeats 16000000 in
theorem roarOps_walk {la lb : List Ch} {va vb : Value} {w : World} (op a b : Int) (h1 : HC w va la) (h2 : HC w vb lb) (hT : Tab w) :
    Calls Tryd.prog 3 #[.agg #[va], .agg #[vb], .int .i64 op, .int .i64 a, .int .i64 b] w fun e W' => e = .returned (.bool true) ∧ Below w.heap.size w W' := by
  have hB0 := Lib.hid (((Below.refl w.heap.size w).alloc (Nat.le_refl _) (.cells #[va] 24)).alloc (by simp) (.cells #[vb] 24))
  have hS0 : Hid (RBs ((w.alloc (.cells #[va] 24)).alloc (.cells #[vb] 24)) [(w.heap.size, va, la), (w.heap.size + 1, vb, lb)]) := Lib.hid fun x hx => by
    rcases List.mem_cons.1 hx with rfl | hx
    · exact (RB.new h1).alloc _
    · obtain rfl := List.mem_singleton.1 hx
      have := RB.new (h2.alloc (.cells #[va] 24))
      rwa [World.size_alloc] at this
  obtain ⟨pa, ca, rfl, -, -⟩ := Hid.out h1
  obtain ⟨pb, cb, rfl, -, -⟩ := Hid.out h2
  have hTl := Lib.hid hT
  have k0 := Lib.hid (shown7_any _ (hTl.out.below hB0.out hTl.out.lt))
  clear h1 h2 hT
  go_enter Tryd.func3, Tryd.ntmps3
  go_wp2_with fail
  refine (k0.out).mono ?_
  rintro e W0 ⟨rfl, hb0⟩
  have hB1 := Lib.hid (hB0.out.trans (hb0.mono hB0.out.size))
  have hS1 := Lib.hid (hS0.out.later hb0)
  clear k0 hb0 hB0 hS0
  -- a = Few(a)
  have k := Lib.hid (fewR_any (hS1.out (w.heap.size, .slice pa la.length ca, la) (by simp)).chs)
  have y1 := (hS1.out (w.heap.size, .slice pa la.length ca, la) (by simp)).box.cell
  go_wp2_with fail
  refine (k.out).mono ?_
  rintro e W1 ⟨v1, rfl, hv1, hb1⟩
  obtain ⟨p1, c1, rfl, -, -⟩ := Hid.out hv1
  have hs1 := fewL_small la
  generalize fewL la = A1 at hv1 hs1
  have f1 := ((hS1.out.later hb1) (w.heap.size, .slice pa la.length ca, la) (by simp)).box.frozen
  have g1 := ((hS1.out.later hb1) (w.heap.size, .slice pa la.length ca, la) (by simp)).box.cell
  have hS2 := Lib.hid (rbs_swap (rbs_setHead (hS1.out.later hb1) hv1 (by simp)))
  have hB2 := Lib.hid ((hB1.out.trans (hb1.mono hB1.out.size)).setCell (p := ⟨w.heap.size, 0, none⟩) (Nat.le_refl _) (.slice p1 A1.length c1))
  clear k y1 hb1 hv1 hB1 hS1
  -- b = Few(b)
  have k := Lib.hid (fewR_any (hS2.out (w.heap.size + 1, .slice pb lb.length cb, lb) (by simp)).chs)
  have y1 := (hS2.out (w.heap.size + 1, .slice pb lb.length cb, lb) (by simp)).box.cell
  go_wp2_with fail
  refine (k.out).mono ?_
  rintro e W2 ⟨v2, rfl, hv2, hb2⟩
  obtain ⟨p2, c2, rfl, -, -⟩ := Hid.out hv2
  have hs2 := fewL_small lb
  generalize fewL lb = A2 at hv2 hs2
  clear f1 g1
  have f1 := ((hS2.out.later hb2) (w.heap.size + 1, .slice pb lb.length cb, lb) (by simp)).box.frozen
  have g1 := ((hS2.out.later hb2) (w.heap.size + 1, .slice pb lb.length cb, lb) (by simp)).box.cell
  have hS3 := Lib.hid (rbs_setHead (hS2.out.later hb2) hv2 (by simp))
  have hB3 := Lib.hid ((hB2.out.trans (hb2.mono hB2.out.size)).setCell (p := ⟨w.heap.size + 1, 0, none⟩) (Nat.le_succ _) (.slice p2 A2.length c2))
  clear k y1 hb2 hv2 hB2 hS2
  obtain ⟨r1, e1, h1, hr1⟩ := opL_ex op A1 A2
  obtain ⟨r2, e2, h2, hr2⟩ := flipL_ex A1 a b
  obtain ⟨r3, e3, h3, hr3⟩ := flipL_ex [] a b
  have h3 : spanL a b = (r3, e3) := h3
  -- step 1
  have k := Lib.hid (op7_any op (hS3.out (w.heap.size, .slice p1 A1.length c1, A1) (by simp)).chs (hS3.out (w.heap.size + 1, .slice p2 A2.length c2, A2) (by simp)).chs hs1 hs2 (hTl.out.below hB3.out hTl.out.lt))
  have y1 := (hS3.out (w.heap.size, .slice p1 A1.length c1, A1) (by simp)).box.cell
  have y2 := (hS3.out (w.heap.size + 1, .slice p2 A2.length c2, A2) (by simp)).box.cell
  rw [h1] at k
  go_wp2_with fail
  refine (k.out).mono ?_
  rintro e W4 ⟨v4, rfl, hv4, hb4⟩
  obtain ⟨p4, c4, rfl, -, -⟩ := Hid.out hv4
  have hB4 := Lib.hid (below_box hB3.out hB3.out.size hb4 (.cells #[.slice p4 r1.length c4] 24))
  have hS4 := Lib.hid (hS3.out.more hb4 hv4)
  clear k y1 y2 hb4 hv4 hB3 hS3
  clear f1 g1
  -- step 2
  have k := Lib.hid (rop7_any op (hS4.out (w.heap.size, .slice p1 A1.length c1, A1) (by simp)).chs (hS4.out (w.heap.size + 1, .slice p2 A2.length c2, A2) (by simp)).chs hs1 hs2)
  have y1 := (hS4.out (w.heap.size, .slice p1 A1.length c1, A1) (by simp)).box.cell
  have y2 := (hS4.out (w.heap.size + 1, .slice p2 A2.length c2, A2) (by simp)).box.cell
  rw [h1] at k
  go_wp2_with fail
  refine (k.out).mono ?_
  rintro e W5 ⟨v5, rfl, hv5, hb5⟩
  obtain ⟨p5, c5, rfl, -, -⟩ := Hid.out hv5
  have hB5 := Lib.hid (below_box hB4.out hB4.out.size hb5 (.cells #[.slice p5 r1.length c5] 24))
  have hS5 := Lib.hid (hS4.out.more hb5 hv5)
  clear k y1 y2 hb5 hv5 hB4 hS4
  -- step 3
  have k := Lib.hid (flip7_any a b (hS5.out (w.heap.size, .slice p1 A1.length c1, A1) (by simp)).chs hs1 (hTl.out.below hB5.out hTl.out.lt))
  have y1 := (hS5.out (w.heap.size, .slice p1 A1.length c1, A1) (by simp)).box.cell
  have y2 := True.intro
  rw [h2] at k
  go_wp2_with fail
  refine (k.out).mono ?_
  rintro e W6 ⟨v6, rfl, hv6, hb6⟩
  obtain ⟨p6, c6, rfl, -, -⟩ := Hid.out hv6
  have hB6 := Lib.hid (below_box hB5.out hB5.out.size hb6 (.cells #[.slice p6 r2.length c6] 24))
  have hS6 := Lib.hid (hS5.out.more hb6 hv6)
  clear k y1 y2 hb6 hv6 hB5 hS5
  -- step 4
  have k := Lib.hid (rflip7_any a b (hS6.out (w.heap.size, .slice p1 A1.length c1, A1) (by simp)).chs hs1)
  have y1 := (hS6.out (w.heap.size, .slice p1 A1.length c1, A1) (by simp)).box.cell
  have y2 := True.intro
  rw [h2] at k
  go_wp2_with fail
  refine (k.out).mono ?_
  rintro e W7 ⟨v7, rfl, hv7, hb7⟩
  obtain ⟨p7, c7, rfl, -, -⟩ := Hid.out hv7
  have hB7 := Lib.hid (below_box hB6.out hB6.out.size hb7 (.cells #[.slice p7 r2.length c7] 24))
  have hS7 := Lib.hid (hS6.out.more hb7 hv7)
  clear k y1 y2 hb7 hv7 hB6 hS6
  -- step 5
  have k := Lib.hid (span7_any a b (hTl.out.below hB7.out hTl.out.lt))
  have y1 := True.intro
  have y2 := True.intro
  rw [h3] at k
  go_wp2_with fail
  refine (k.out).mono ?_
  rintro e W8 ⟨v8, rfl, hv8, hb8⟩
  obtain ⟨p8, c8, rfl, -, -⟩ := Hid.out hv8
  have hB8 := Lib.hid (below_box hB7.out hB7.out.size hb8 (.cells #[.slice p8 r3.length c8] 24))
  have hS8 := Lib.hid (hS7.out.more hb8 hv8)
  clear k y1 y2 hb8 hv8 hB7 hS7
  -- step 6
  have k := Lib.hid (rspan7_any a b (w := (W8.alloc (.cells #[.slice p8 r3.length c8] 24))))
  have y1 := True.intro
  have y2 := True.intro
  rw [h3] at k
  go_wp2_with fail
  refine (k.out).mono ?_
  rintro e W9 ⟨v9, rfl, hv9, hb9⟩
  obtain ⟨p9, c9, rfl, -, -⟩ := Hid.out hv9
  have hB9 := Lib.hid (below_box hB8.out hB8.out.size hb9 (.cells #[.slice p9 r3.length c9] 24))
  have hS9 := Lib.hid (hS8.out.more hb9 hv9)
  clear k y1 y2 hb9 hv9 hB8 hS8
  -- same 1
  have k := Lib.hid (same7_any (hS9.out (W4.heap.size, .slice p4 r1.length c4, r1) (by simp)).chs (hS9.out (W5.heap.size, .slice p5 r1.length c5, r1) (by simp)).chs (small_right hr1).1)
  rw [decide_eq_true rfl] at k
  have y1 := (hS9.out (W4.heap.size, .slice p4 r1.length c4, r1) (by simp)).box.cell
  have y2 := (hS9.out (W5.heap.size, .slice p5 r1.length c5, r1) (by simp)).box.cell
  go_wp2_with fail
  refine (k.out).mono ?_
  rintro e W10 ⟨rfl, hb10⟩
  have hB10 := Lib.hid (hB9.out.trans (hb10.mono hB9.out.size))
  have hS10 := Lib.hid (hS9.out.later hb10)
  clear k y1 y2 hb10 hB9 hS9
  -- same 2
  have k := Lib.hid (same7_any (hS10.out (W6.heap.size, .slice p6 r2.length c6, r2) (by simp)).chs (hS10.out (W7.heap.size, .slice p7 r2.length c7, r2) (by simp)).chs (small_right hr2).1)
  rw [decide_eq_true rfl] at k
  have y1 := (hS10.out (W6.heap.size, .slice p6 r2.length c6, r2) (by simp)).box.cell
  have y2 := (hS10.out (W7.heap.size, .slice p7 r2.length c7, r2) (by simp)).box.cell
  go_wp2_with fail
  refine (k.out).mono ?_
  rintro e W11 ⟨rfl, hb11⟩
  have hB11 := Lib.hid (hB10.out.trans (hb11.mono hB10.out.size))
  have hS11 := Lib.hid (hS10.out.later hb11)
  clear k y1 y2 hb11 hB10 hS10
  -- same 3
  have k := Lib.hid (same7_any (hS11.out (W8.heap.size, .slice p8 r3.length c8, r3) (by simp)).chs (hS11.out (W9.heap.size, .slice p9 r3.length c9, r3) (by simp)).chs (small_right hr3).1)
  rw [decide_eq_true rfl] at k
  have y1 := (hS11.out (W8.heap.size, .slice p8 r3.length c8, r3) (by simp)).box.cell
  have y2 := (hS11.out (W9.heap.size, .slice p9 r3.length c9, r3) (by simp)).box.cell
  go_wp2_with fail
  refine (k.out).mono ?_
  rintro e W12 ⟨rfl, hb12⟩
  have hB12 := Lib.hid (hB11.out.trans (hb12.mono hB11.out.size))
  have hS12 := Lib.hid (hS11.out.later hb12)
  clear k y1 y2 hb12 hB11 hS11
  go_wp2
  exact bodyPost_ret (v := .bool true) (by simp [results, Tryd.results3, go_sem]) rfl ⟨rfl, hB12.out⟩
end Go.Proofs.YtalnfbkmlllfhaaDoor
