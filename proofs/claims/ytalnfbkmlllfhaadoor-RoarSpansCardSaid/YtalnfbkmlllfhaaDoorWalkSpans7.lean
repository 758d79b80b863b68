/-
  RoarSpans: the walk.
-/
import Derived.Test.YtalnfbkmlllfhaaDoorSame7
import Derived.Test.YtalnfbkmlllfhaaDoorBoxes7
namespace Go.Proofs.YtalnfbkmlllfhaaDoor
open Go.RowKit Tess

set_option maxRecDepth 100000 in
set_option maxHeartbeats 16000000 in
theorem roarSpans_walk {zs : List Int} {sv : Value} {w : World} (a b m : Int) (h : Ints w.heap.size w sv zs) (hcap : ∀ p n c, sv = .slice p n c → n ≤ c) (hT : Tab w) :
    Calls Tryd.prog 4 #[.int .i64 a, .int .i64 b, .int .i64 m, sv] w fun e W' => e = .returned (.bool true) ∧ Below w.heap.size w W' := by
  have k0 := Lib.hid (shown7_any w hT)
  have hh0 := Lib.hid h
  have hc0 := Lib.hid hcap
  have hTl := Lib.hid hT
  clear h hcap hT
  go_enter Tryd.func4, Tryd.ntmps4
  go_wp2_with fail
  refine (k0.out).mono ?_
  rintro e W0 ⟨rfl, hB0'⟩
  have hB0 := Lib.hid hB0'
  have hS0 := Lib.hid (RBs.none W0)
  clear k0 hB0'
  -- span
  have k := Lib.hid (span7_any a b (hTl.out.below hB0.out hTl.out.lt))
  obtain ⟨s, e1, hse⟩ : ∃ s e1, spanL a b = (s, e1) := ⟨_, _, rfl⟩
  rw [hse] at k
  go_wp2_with fail
  refine (k.out).mono ?_
  rintro e W1 ⟨v1, rfl, hv1, hb1⟩
  obtain ⟨p1, c1, rfl, -, -⟩ := Hid.out hv1
  have hB1 := Lib.hid (below_box hB0.out hB0.out.size hb1 (.cells #[.slice p1 s.length c1] 24))
  have hS1 := Lib.hid (hS0.out.more hb1 hv1)
  clear k hb1 hv1 hB0 hS0
  -- make
  have f0 := Lib.hid (few7_any (hh0.out.below hB1.out (Nat.le_refl _)) hc0.out)
  go_wp2_with fail
  refine (f0.out).mono ?_
  rintro e V ⟨⟨u, rfl, hu⟩, hVe⟩
  subst V
  have k := Lib.hid (make7_any (hu.more hB1.out.size) (by rw [List.length_take]; omega) (hTl.out.below hB1.out hTl.out.lt))
  obtain ⟨r, e2, hm, hr, g2⟩ := mkL_ex (zs.take 300)
  rw [hm] at k
  clear hm hu f0 hh0 hc0
  go_wp2_with fail
  refine (k.out).mono ?_
  rintro e W2 ⟨v2, rfl, hv2, hb2⟩
  obtain ⟨p2, c2, rfl, -, -⟩ := Hid.out hv2
  have hB2 := Lib.hid (below_box hB1.out hB1.out.size hb2 (.cells #[.slice p2 r.length c2] 24))
  have hS2 := Lib.hid (hS1.out.more hb2 hv2)
  clear k hb2 hv2 hB1 hS1
  by_cases hab : 0 ≤ a ∧ a ≤ 65536 ∧ 0 ≤ b ∧ b ≤ 65536
  rotate_left
  · obtain ⟨rfl, rfl⟩ : s = [] ∧ e1 = 70 := by have := spans_out hab; rw [hse] at this; cases this; exact ⟨rfl, rfl⟩
    clear hse g2
    simp only [List.length_nil]
    by_cases q1 : a < 0
    · have q1' : decide (a < 0) = true := by simpa using q1
      clear hab
      go_wp2
      exact bodyPost_ret (v := .bool true) (by simp [results, Tryd.results4, go_sem]) rfl ⟨rfl, hB2.out⟩
    · have q1' : decide (a < 0) = false := by simpa using q1
      by_cases q2 : b < 0
      · have q2' : decide (b < 0) = true := by simpa using q2
        clear hab
        go_wp2
        exact bodyPost_ret (v := .bool true) (by simp [results, Tryd.results4, go_sem]) rfl ⟨rfl, hB2.out⟩
      · have q2' : decide (b < 0) = false := by simpa using q2
        by_cases q3 : 65536 < a
        · have q3' : decide (a > 65536) = true := by simpa using q3
          clear hab
          go_wp2
          exact bodyPost_ret (v := .bool true) (by simp [results, Tryd.results4, go_sem]) rfl ⟨rfl, hB2.out⟩
        · have q3' : decide (a > 65536) = false := by simpa using q3
          have q4 : 65536 < b := by omega
          have q4' : decide (b > 65536) = true := by simpa using q4
          clear hab
          go_wp2
          exact bodyPost_ret (v := .bool true) (by simp [results, Tryd.results4, go_sem]) rfl ⟨rfl, hB2.out⟩
  · obtain ⟨s', f, ⟨hs, hf⟩, t1, t2, t3, t4, t5⟩ := spans_plain hr hab
    obtain ⟨rfl, rfl⟩ : s = s' ∧ e1 = 0 := by rw [hse] at t1; cases t1; exact ⟨rfl, rfl⟩
    clear hse t1
    have q1' : decide (a < 0) = false := by simp; omega
    have q2' : decide (b < 0) = false := by simp; omega
    have q3' : decide (a > 65536) = false := by simp; omega
    have q4' : decide (b > 65536) = false := by simp; omega
    have hab' := Lib.hid hab
    clear hab
    -- flip
    have k := Lib.hid (flip7_any a b (hS2.out (W2.heap.size, .slice p2 r.length c2, r) (by simp)).chs (small_right hr) (hTl.out.below hB2.out hTl.out.lt))
    have y1 := (hS2.out (W2.heap.size, .slice p2 r.length c2, r) (by simp)).box.cell
    rw [t2] at k
    go_wp2_with fail
    refine (k.out).mono ?_
    rintro e W3 ⟨v3, rfl, hv3, hb3⟩
    obtain ⟨p3, c3, rfl, -, -⟩ := Hid.out hv3
    have hB3 := Lib.hid (below_box hB2.out hB2.out.size hb3 (.cells #[.slice p3 f.length c3] 24))
    have hS3 := Lib.hid (hS2.out.more hb3 hv3)
    clear k hb3 hv3 hB2 hS2 y1
    -- flip
    have k := Lib.hid (flip7_any a b (hS3.out (W3.heap.size, .slice p3 f.length c3, f) (by simp)).chs (small_right hf) (hTl.out.below hB3.out hTl.out.lt))
    have y1 := (hS3.out (W3.heap.size, .slice p3 f.length c3, f) (by simp)).box.cell
    rw [t3] at k
    go_wp2_with fail
    refine (k.out).mono ?_
    rintro e W4 ⟨v4, rfl, hv4, hb4⟩
    obtain ⟨p4, c4, rfl, -, -⟩ := Hid.out hv4
    have hB4 := Lib.hid (below_box hB3.out hB3.out.size hb4 (.cells #[.slice p4 r.length c4] 24))
    have hS4 := Lib.hid (hS3.out.more hb4 hv4)
    clear k hb4 hv4 hB3 hS3 y1
    obtain ⟨d1, hd1⟩ : ∃ d1, decide (m ≥ a) = d1 := ⟨_, rfl⟩
    obtain ⟨d2, hd2⟩ : ∃ d2, decide (m < b) = d2 := ⟨_, rfl⟩
    have hdd : Hid (decide (a ≤ m ∧ m < b) = (d1 && d2)) := by show _ = _; rw [← hd1, ← hd2]; simp [Bool.decide_and]
    have hw : IntKind.i64.wrap (b - a) = b - a := by have := hab'.out; exact IntWalk.i64_in _ (by omega)
    clear t2 t3
    rcases g2 with rfl | rfl
    · have ks := Lib.hid (same7_any (hS4.out (W4.heap.size, .slice p4 r.length c4, r) (by simp)).chs (hS4.out (W2.heap.size, .slice p2 r.length c2, r) (by simp)).chs (small_right hr).1)
      rw [decide_eq_true rfl] at ks
      have y1 := (hS4.out (W4.heap.size, .slice p4 r.length c4, r) (by simp)).box.cell
      have y2 := (hS4.out (W2.heap.size, .slice p2 r.length c2, r) (by simp)).box.cell
      go_wp2_with fail
      refine (ks.out).mono ?_
      rintro e W5 ⟨rfl, hb5⟩
      have hB5 := Lib.hid (hB4.out.trans (hb5.mono hB4.out.size))
      have hS5 := Lib.hid (hS4.out.later hb5)
      clear ks hb5 hB4 hS4 y1 y2
      have k := Lib.hid (has7_any m (hS5.out (W1.heap.size, .slice p1 s.length c1, s) (by simp)).chs (small_right hs) (hTl.out.below hB5.out hTl.out.lt))
      have y1 := (hS5.out (W1.heap.size, .slice p1 s.length c1, s) (by simp)).box.cell
      rw [t4, hdd.out] at k
      cases d1 <;> cases d2 <;> (
        go_wp2_with fail
        refine (k.out).mono ?_
        rintro e W6 ⟨rfl, hb6⟩
        have hB6 := Lib.hid (hB5.out.trans (hb6.mono hB5.out.size))
        have hS6 := Lib.hid (hS5.out.later hb6)
        have k7 := Lib.hid (count7_any (hS6.out (W1.heap.size, .slice p1 s.length c1, s) (by simp)).chs (small_right hs) (hTl.out.below hB6.out hTl.out.lt))
        have y2 := (hS6.out (W1.heap.size, .slice p1 s.length c1, s) (by simp)).box.cell
        rw [t5] at k7
        clear k hb6 y1
        go_wp2_with fail
        refine (k7.out).mono ?_
        rintro e W7 ⟨rfl, hb7⟩
        have hB7 := Lib.hid (hB6.out.trans (hb7.mono hB6.out.size))
        clear k7 hb7 y2
        go_wp2
        exact bodyPost_ret (v := .bool true) (by simp [results, Tryd.results4, go_sem]) rfl ⟨rfl, hB7.out⟩)
    · skip
      have k := Lib.hid (has7_any m (hS4.out (W1.heap.size, .slice p1 s.length c1, s) (by simp)).chs (small_right hs) (hTl.out.below hB4.out hTl.out.lt))
      have y1 := (hS4.out (W1.heap.size, .slice p1 s.length c1, s) (by simp)).box.cell
      rw [t4, hdd.out] at k
      cases d1 <;> cases d2 <;> (
        go_wp2_with fail
        refine (k.out).mono ?_
        rintro e W6 ⟨rfl, hb6⟩
        have hB6 := Lib.hid (hB4.out.trans (hb6.mono hB4.out.size))
        have hS6 := Lib.hid (hS4.out.later hb6)
        have k7 := Lib.hid (count7_any (hS6.out (W1.heap.size, .slice p1 s.length c1, s) (by simp)).chs (small_right hs) (hTl.out.below hB6.out hTl.out.lt))
        have y2 := (hS6.out (W1.heap.size, .slice p1 s.length c1, s) (by simp)).box.cell
        rw [t5] at k7
        clear k hb6 y1
        go_wp2_with fail
        refine (k7.out).mono ?_
        rintro e W7 ⟨rfl, hb7⟩
        have hB7 := Lib.hid (hB6.out.trans (hb7.mono hB6.out.size))
        clear k7 hb7 y2
        go_wp2
        exact bodyPost_ret (v := .bool true) (by simp [results, Tryd.results4, go_sem]) rfl ⟨rfl, hB7.out⟩)
end Go.Proofs.YtalnfbkmlllfhaaDoor
