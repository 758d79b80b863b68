/-
  RoarRules: the walk. Printed by genroar.py.
-/
import Derived.Test.YtalnfbkmlllfhaaDoorBm3
import Derived.Test.YtalnfbkmlllfhaaDoorSame7
import Derived.Test.YtalnfbkmlllfhaaDoorBoxes7
namespace Go.Proofs.YtalnfbkmlllfhaaDoor
open Go.RowKit Tess

set_option maxRecDepth 100000 in
set_option maxHeartbeats 16000000 in
theorem roarRules_walk {z0 z1 z2 : List Int} {s0 s1 s2 : Value} {w : World} (h0 : Ints w.heap.size w s0 z0) (c0 : ∀ p n c, s0 = .slice p n c → n ≤ c) (h1 : Ints w.heap.size w s1 z1) (c1 : ∀ p n c, s1 = .slice p n c → n ≤ c) (h2 : Ints w.heap.size w s2 z2) (c2 : ∀ p n c, s2 = .slice p n c → n ≤ c) (hT : Tab w) :
    Calls Tryd.prog 5 #[s0, s1, s2] w fun e W' => e = .returned (.bool true) ∧ Below w.heap.size w W' := by
  have k0 := Lib.hid (shown7_any w hT)
  have hh0 := Lib.hid h0
  have hh1 := Lib.hid h1
  have hh2 := Lib.hid h2
  have hc0 := Lib.hid c0
  have hc1 := Lib.hid c1
  have hc2 := Lib.hid c2
  have hTl := Lib.hid hT
  clear h0 h1 h2 c0 c1 c2 hT
  go_enter Tryd.func5, Tryd.ntmps5
  go_wp2_with fail
  refine (k0.out).mono ?_
  rintro e W0 ⟨rfl, hB0'⟩
  have hB0 := Lib.hid hB0'
  have hS0 := Lib.hid (RBs.none W0)
  clear k0 hB0'
  -- make a
  have f0 := Lib.hid (few7_any (hh0.out.below hB0.out (Nat.le_refl _)) hc0.out)
  go_wp2_with fail
  refine (f0.out).mono ?_
  rintro e V ⟨⟨u, rfl, hu⟩, hVe⟩
  subst V
  have k := Lib.hid (make7_any (hu.more hB0.out.size) (by rw [List.length_take]; omega) (hTl.out.below hB0.out hTl.out.lt))
  obtain ⟨a, e1, hm, r1, g1⟩ := mkL_ex (z0.take 300)
  rw [hm] at k
  clear hm hu f0 hh0 hc0
  go_wp2_with fail
  refine (k.out).mono ?_
  rintro e W1 ⟨v1, rfl, hv1, hb1⟩
  obtain ⟨p1, c1, rfl, -, -⟩ := Hid.out hv1
  have hB1 := Lib.hid (below_box hB0.out hB0.out.size hb1 (.cells #[.slice p1 a.length c1] 24))
  have hS1 := Lib.hid (hS0.out.more hb1 hv1)
  clear k hb1 hv1 hB0 hS0
  -- make b
  have f1 := Lib.hid (few7_any (hh1.out.below hB1.out (Nat.le_refl _)) hc1.out)
  go_wp2_with fail
  refine (f1.out).mono ?_
  rintro e V ⟨⟨u, rfl, hu⟩, hVe⟩
  subst V
  have k := Lib.hid (make7_any (hu.more hB1.out.size) (by rw [List.length_take]; omega) (hTl.out.below hB1.out hTl.out.lt))
  obtain ⟨b, e2, hm, r2, g2⟩ := mkL_ex (z1.take 300)
  rw [hm] at k
  clear hm hu f1 hh1 hc1
  go_wp2_with fail
  refine (k.out).mono ?_
  rintro e W2 ⟨v2, rfl, hv2, hb2⟩
  obtain ⟨p2, c2, rfl, -, -⟩ := Hid.out hv2
  have hB2 := Lib.hid (below_box hB1.out hB1.out.size hb2 (.cells #[.slice p2 b.length c2] 24))
  have hS2 := Lib.hid (hS1.out.more hb2 hv2)
  clear k hb2 hv2 hB1 hS1
  -- make c
  have f2 := Lib.hid (few7_any (hh2.out.below hB2.out (Nat.le_refl _)) hc2.out)
  go_wp2_with fail
  refine (f2.out).mono ?_
  rintro e V ⟨⟨u, rfl, hu⟩, hVe⟩
  subst V
  have k := Lib.hid (make7_any (hu.more hB2.out.size) (by rw [List.length_take]; omega) (hTl.out.below hB2.out hTl.out.lt))
  obtain ⟨c, e3, hm, r3, g3⟩ := mkL_ex (z2.take 300)
  rw [hm] at k
  clear hm hu f2 hh2 hc2
  go_wp2_with fail
  refine (k.out).mono ?_
  rintro e W3 ⟨v3, rfl, hv3, hb3⟩
  obtain ⟨p3, c3, rfl, -, -⟩ := Hid.out hv3
  have hB3 := Lib.hid (below_box hB2.out hB2.out.size hb3 (.cells #[.slice p3 c.length c3] 24))
  have hS3 := Lib.hid (hS2.out.more hb3 hv3)
  clear k hb3 hv3 hB2 hS2
  by_cases hall : e1 = 0 ∧ e2 = 0 ∧ e3 = 0
  rotate_left
  · obtain ⟨d1, d2, d3, hd⟩ : ∃ d1 d2 d3 : Bool, (e1 != 0) = d1 ∧ (e2 != 0) = d2 ∧ (e3 != 0) = d3 := ⟨_, _, _, rfl, rfl, rfl⟩
    have hd0 : (d1 || d2 || d3) = true := by
      obtain ⟨q1, q2, q3⟩ := hd
      subst q1; subst q2; subst q3
      simp only [Bool.or_eq_true, bne_iff_ne]
      omega
    clear hall g1 g2 g3
    obtain ⟨q1, q2, q3⟩ := hd
    cases d1 <;> cases d2 <;> cases d3 <;> first | (exact absurd hd0 (by decide)) | (go_wp2; exact bodyPost_ret (v := .bool true) (by simp [results, Tryd.results5, go_sem]) rfl ⟨rfl, hB3.out⟩)
  obtain ⟨rfl, rfl, rfl⟩ := hall
  clear g1 g2 g3
  obtain ⟨r, x, p, q, s, u, ⟨hr, hx, hp, hq, hs, hu⟩, t1, t2, t3, t4, t5, t6, t7, t8, t9, t10, hcnt⟩ := rules_plain r1 r2 r3
  -- r
  have k := Lib.hid (op7_any 2 (hS3.out (W2.heap.size, .slice p2 b.length c2, b) (by simp)).chs (hS3.out (W3.heap.size, .slice p3 c.length c3, c) (by simp)).chs (small_right r2) (small_right r3) (hTl.out.below hB3.out hTl.out.lt))
  have y1 := (hS3.out (W2.heap.size, .slice p2 b.length c2, b) (by simp)).box.cell
  have y2 := (hS3.out (W3.heap.size, .slice p3 c.length c3, c) (by simp)).box.cell
  rw [t1] at k
  go_wp2_with fail
  refine (k.out).mono ?_
  rintro e W4 ⟨v4, rfl, hv4, hb4⟩
  obtain ⟨p4, c4, rfl, -, -⟩ := Hid.out hv4
  have hB4 := Lib.hid (below_box hB3.out hB3.out.size hb4 (.cells #[.slice p4 r.length c4] 24))
  have hS4 := Lib.hid (hS3.out.more hb4 hv4)
  clear k y1 y2 hb4 hv4 hB3 hS3
  -- x
  have k := Lib.hid (op7_any 1 (hS4.out (W1.heap.size, .slice p1 a.length c1, a) (by simp)).chs (hS4.out (W4.heap.size, .slice p4 r.length c4, r) (by simp)).chs (small_right r1) (small_right hr) (hTl.out.below hB4.out hTl.out.lt))
  have y1 := (hS4.out (W1.heap.size, .slice p1 a.length c1, a) (by simp)).box.cell
  have y2 := (hS4.out (W4.heap.size, .slice p4 r.length c4, r) (by simp)).box.cell
  rw [t2] at k
  go_wp2_with fail
  refine (k.out).mono ?_
  rintro e W5 ⟨v5, rfl, hv5, hb5⟩
  obtain ⟨p5, c5, rfl, -, -⟩ := Hid.out hv5
  have hB5 := Lib.hid (below_box hB4.out hB4.out.size hb5 (.cells #[.slice p5 x.length c5] 24))
  have hS5 := Lib.hid (hS4.out.more hb5 hv5)
  clear k y1 y2 hb5 hv5 hB4 hS4
  -- p
  have k := Lib.hid (op7_any 1 (hS5.out (W1.heap.size, .slice p1 a.length c1, a) (by simp)).chs (hS5.out (W2.heap.size, .slice p2 b.length c2, b) (by simp)).chs (small_right r1) (small_right r2) (hTl.out.below hB5.out hTl.out.lt))
  have y1 := (hS5.out (W1.heap.size, .slice p1 a.length c1, a) (by simp)).box.cell
  have y2 := (hS5.out (W2.heap.size, .slice p2 b.length c2, b) (by simp)).box.cell
  rw [t3] at k
  go_wp2_with fail
  refine (k.out).mono ?_
  rintro e W6 ⟨v6, rfl, hv6, hb6⟩
  obtain ⟨p6, c6, rfl, -, -⟩ := Hid.out hv6
  have hB6 := Lib.hid (below_box hB5.out hB5.out.size hb6 (.cells #[.slice p6 p.length c6] 24))
  have hS6 := Lib.hid (hS5.out.more hb6 hv6)
  clear k y1 y2 hb6 hv6 hB5 hS5
  -- q
  have k := Lib.hid (op7_any 1 (hS6.out (W1.heap.size, .slice p1 a.length c1, a) (by simp)).chs (hS6.out (W3.heap.size, .slice p3 c.length c3, c) (by simp)).chs (small_right r1) (small_right r3) (hTl.out.below hB6.out hTl.out.lt))
  have y1 := (hS6.out (W1.heap.size, .slice p1 a.length c1, a) (by simp)).box.cell
  have y2 := (hS6.out (W3.heap.size, .slice p3 c.length c3, c) (by simp)).box.cell
  rw [t4] at k
  go_wp2_with fail
  refine (k.out).mono ?_
  rintro e W7 ⟨v7, rfl, hv7, hb7⟩
  obtain ⟨p7, c7, rfl, -, -⟩ := Hid.out hv7
  have hB7 := Lib.hid (below_box hB6.out hB6.out.size hb7 (.cells #[.slice p7 q.length c7] 24))
  have hS7 := Lib.hid (hS6.out.more hb7 hv7)
  clear k y1 y2 hb7 hv7 hB6 hS6
  -- y
  have k := Lib.hid (op7_any 2 (hS7.out (W6.heap.size, .slice p6 p.length c6, p) (by simp)).chs (hS7.out (W7.heap.size, .slice p7 q.length c7, q) (by simp)).chs (small_right hp) (small_right hq) (hTl.out.below hB7.out hTl.out.lt))
  have y1 := (hS7.out (W6.heap.size, .slice p6 p.length c6, p) (by simp)).box.cell
  have y2 := (hS7.out (W7.heap.size, .slice p7 q.length c7, q) (by simp)).box.cell
  rw [t5] at k
  go_wp2_with fail
  refine (k.out).mono ?_
  rintro e W8 ⟨v8, rfl, hv8, hb8⟩
  obtain ⟨p8, c8, rfl, -, -⟩ := Hid.out hv8
  have hB8 := Lib.hid (below_box hB7.out hB7.out.size hb8 (.cells #[.slice p8 x.length c8] 24))
  have hS8 := Lib.hid (hS7.out.more hb8 hv8)
  clear k y1 y2 hb8 hv8 hB7 hS7
  -- z
  have k := Lib.hid (op7_any 2 (hS8.out (W3.heap.size, .slice p3 c.length c3, c) (by simp)).chs (hS8.out (W2.heap.size, .slice p2 b.length c2, b) (by simp)).chs (small_right r3) (small_right r2) (hTl.out.below hB8.out hTl.out.lt))
  have y1 := (hS8.out (W3.heap.size, .slice p3 c.length c3, c) (by simp)).box.cell
  have y2 := (hS8.out (W2.heap.size, .slice p2 b.length c2, b) (by simp)).box.cell
  rw [t6] at k
  go_wp2_with fail
  refine (k.out).mono ?_
  rintro e W9 ⟨v9, rfl, hv9, hb9⟩
  obtain ⟨p9, c9, rfl, -, -⟩ := Hid.out hv9
  have hB9 := Lib.hid (below_box hB8.out hB8.out.size hb9 (.cells #[.slice p9 r.length c9] 24))
  have hS9 := Lib.hid (hS8.out.more hb9 hv9)
  clear k y1 y2 hb9 hv9 hB8 hS8
  -- s
  have k := Lib.hid (span7_any 0 65536 (hTl.out.below hB9.out hTl.out.lt))
  have y1 := True.intro
  have y2 := y1
  rw [t7] at k
  go_wp2_with fail
  refine (k.out).mono ?_
  rintro e W10 ⟨v10, rfl, hv10, hb10⟩
  obtain ⟨p10, c10, rfl, -, -⟩ := Hid.out hv10
  have hB10 := Lib.hid (below_box hB9.out hB9.out.size hb10 (.cells #[.slice p10 s.length c10] 24))
  have hS10 := Lib.hid (hS9.out.more hb10 hv10)
  clear k y1 y2 hb10 hv10 hB9 hS9
  -- u
  have k := Lib.hid (flip7_any 0 65536 (hS10.out (W4.heap.size, .slice p4 r.length c4, r) (by simp)).chs (small_right hr) (hTl.out.below hB10.out hTl.out.lt))
  have y1 := (hS10.out (W4.heap.size, .slice p4 r.length c4, r) (by simp)).box.cell
  have y2 := y1
  rw [t8] at k
  go_wp2_with fail
  refine (k.out).mono ?_
  rintro e W11 ⟨v11, rfl, hv11, hb11⟩
  obtain ⟨p11, c11, rfl, -, -⟩ := Hid.out hv11
  have hB11 := Lib.hid (below_box hB10.out hB10.out.size hb11 (.cells #[.slice p11 u.length c11] 24))
  have hS11 := Lib.hid (hS10.out.more hb11 hv11)
  clear k y1 y2 hb11 hv11 hB10 hS10
  -- v
  have k := Lib.hid (op7_any 4 (hS11.out (W10.heap.size, .slice p10 s.length c10, s) (by simp)).chs (hS11.out (W4.heap.size, .slice p4 r.length c4, r) (by simp)).chs (small_right hs) (small_right hr) (hTl.out.below hB11.out hTl.out.lt))
  have y1 := (hS11.out (W10.heap.size, .slice p10 s.length c10, s) (by simp)).box.cell
  have y2 := (hS11.out (W4.heap.size, .slice p4 r.length c4, r) (by simp)).box.cell
  rw [t9] at k
  go_wp2_with fail
  refine (k.out).mono ?_
  rintro e W12 ⟨v12, rfl, hv12, hb12⟩
  obtain ⟨p12, c12, rfl, -, -⟩ := Hid.out hv12
  have hB12 := Lib.hid (below_box hB11.out hB11.out.size hb12 (.cells #[.slice p12 u.length c12] 24))
  have hS12 := Lib.hid (hS11.out.more hb12 hv12)
  clear k y1 y2 hb12 hv12 hB11 hS11
  -- t
  have k := Lib.hid (op7_any 3 (hS12.out (W10.heap.size, .slice p10 s.length c10, s) (by simp)).chs (hS12.out (W4.heap.size, .slice p4 r.length c4, r) (by simp)).chs (small_right hs) (small_right hr) (hTl.out.below hB12.out hTl.out.lt))
  have y1 := (hS12.out (W10.heap.size, .slice p10 s.length c10, s) (by simp)).box.cell
  have y2 := (hS12.out (W4.heap.size, .slice p4 r.length c4, r) (by simp)).box.cell
  rw [t10] at k
  go_wp2_with fail
  refine (k.out).mono ?_
  rintro e W13 ⟨v13, rfl, hv13, hb13⟩
  obtain ⟨p13, c13, rfl, -, -⟩ := Hid.out hv13
  have hB13 := Lib.hid (below_box hB12.out hB12.out.size hb13 (.cells #[.slice p13 u.length c13] 24))
  have hS13 := Lib.hid (hS12.out.more hb13 hv13)
  clear k y1 y2 hb13 hv13 hB12 hS12
  obtain ⟨LL, hLL⟩ : ∃ LL : List (Nat × Value × List Ch), LL = [(W13.heap.size, .slice p13 u.length c13, u), (W12.heap.size, .slice p12 u.length c12, u), (W11.heap.size, .slice p11 u.length c11, u), (W10.heap.size, .slice p10 s.length c10, s), (W9.heap.size, .slice p9 r.length c9, r), (W8.heap.size, .slice p8 x.length c8, x), (W7.heap.size, .slice p7 q.length c7, q), (W6.heap.size, .slice p6 p.length c6, p), (W5.heap.size, .slice p5 x.length c5, x), (W4.heap.size, .slice p4 r.length c4, r), (W3.heap.size, .slice p3 c.length c3, c), (W2.heap.size, .slice p2 b.length c2, b), (W1.heap.size, .slice p1 a.length c1, a)] := ⟨_, rfl⟩
  rw [← hLL] at hS13
  have kS0 : Hid (∀ W', RBs W' LL → Calls Tryd.prog 18 #[.agg #[.slice p5 x.length c5], .agg #[.slice p8 x.length c8]] W' fun e W'' => e = .returned (.bool true) ∧ Below W'.heap.size W' W'') :=
    Lib.hid fun W' h => by have := same7_any (h (W5.heap.size, .slice p5 x.length c5, x) (by rw [hLL]; simp)).chs (h (W8.heap.size, .slice p8 x.length c8, x) (by rw [hLL]; simp)).chs (small_right hx).1; rwa [decide_eq_true rfl] at this
  have kS1 : Hid (∀ W', RBs W' LL → Calls Tryd.prog 18 #[.agg #[.slice p4 r.length c4], .agg #[.slice p9 r.length c9]] W' fun e W'' => e = .returned (.bool true) ∧ Below W'.heap.size W' W'') :=
    Lib.hid fun W' h => by have := same7_any (h (W4.heap.size, .slice p4 r.length c4, r) (by rw [hLL]; simp)).chs (h (W9.heap.size, .slice p9 r.length c9, r) (by rw [hLL]; simp)).chs (small_right hr).1; rwa [decide_eq_true rfl] at this
  have kS2 : Hid (∀ W', RBs W' LL → Calls Tryd.prog 18 #[.agg #[.slice p11 u.length c11], .agg #[.slice p12 u.length c12]] W' fun e W'' => e = .returned (.bool true) ∧ Below W'.heap.size W' W'') :=
    Lib.hid fun W' h => by have := same7_any (h (W11.heap.size, .slice p11 u.length c11, u) (by rw [hLL]; simp)).chs (h (W12.heap.size, .slice p12 u.length c12, u) (by rw [hLL]; simp)).chs (small_right hu).1; rwa [decide_eq_true rfl] at this
  have kS3 : Hid (∀ W', RBs W' LL → Calls Tryd.prog 18 #[.agg #[.slice p11 u.length c11], .agg #[.slice p13 u.length c13]] W' fun e W'' => e = .returned (.bool true) ∧ Below W'.heap.size W' W'') :=
    Lib.hid fun W' h => by have := same7_any (h (W11.heap.size, .slice p11 u.length c11, u) (by rw [hLL]; simp)).chs (h (W13.heap.size, .slice p13 u.length c13, u) (by rw [hLL]; simp)).chs (small_right hu).1; rwa [decide_eq_true rfl] at this
  have kC0 : Hid (∀ W', RBs W' LL → Below w.heap.size w W' → Calls Tryd.prog 22 #[.agg #[.slice p11 u.length c11]] W' fun e W'' => e = .returned (.int .i64 (cntL u)) ∧ Below W'.heap.size W' W'') :=
    Lib.hid fun W' h hb => count7_any (h (W11.heap.size, .slice p11 u.length c11, u) (by rw [hLL]; simp)).chs (small_right hu) (hTl.out.below hb hTl.out.lt)
  have kC1 : Hid (∀ W', RBs W' LL → Below w.heap.size w W' → Calls Tryd.prog 22 #[.agg #[.slice p4 r.length c4]] W' fun e W'' => e = .returned (.int .i64 (cntL r)) ∧ Below W'.heap.size W' W'') :=
    Lib.hid fun W' h hb => count7_any (h (W4.heap.size, .slice p4 r.length c4, r) (by rw [hLL]; simp)).chs (small_right hr) (hTl.out.below hb hTl.out.lt)
  have kcells : Hid (∀ W', RBs W' LL → W'.cell? ⟨W5.heap.size, 0, none⟩ = some (.slice p5 x.length c5) ∧ W'.cell? ⟨W8.heap.size, 0, none⟩ = some (.slice p8 x.length c8) ∧ W'.cell? ⟨W4.heap.size, 0, none⟩ = some (.slice p4 r.length c4) ∧ W'.cell? ⟨W9.heap.size, 0, none⟩ = some (.slice p9 r.length c9) ∧ W'.cell? ⟨W11.heap.size, 0, none⟩ = some (.slice p11 u.length c11) ∧ W'.cell? ⟨W12.heap.size, 0, none⟩ = some (.slice p12 u.length c12) ∧ W'.cell? ⟨W13.heap.size, 0, none⟩ = some (.slice p13 u.length c13)) :=
    Lib.hid fun W' h => ⟨(h (W5.heap.size, .slice p5 x.length c5, x) (by rw [hLL]; simp)).box.cell, (h (W8.heap.size, .slice p8 x.length c8, x) (by rw [hLL]; simp)).box.cell, (h (W4.heap.size, .slice p4 r.length c4, r) (by rw [hLL]; simp)).box.cell, (h (W9.heap.size, .slice p9 r.length c9, r) (by rw [hLL]; simp)).box.cell, (h (W11.heap.size, .slice p11 u.length c11, u) (by rw [hLL]; simp)).box.cell, (h (W12.heap.size, .slice p12 u.length c12, u) (by rw [hLL]; simp)).box.cell, (h (W13.heap.size, .slice p13 u.length c13, u) (by rw [hLL]; simp)).box.cell⟩
  have kc1 := cntL_range hu
  have kc2 := cntL_range hr
  generalize cntL u = cu at kC0 kc1 hcnt
  generalize cntL r = cr at kC1 kc2 hcnt
  have hw65 : IntKind.i64.wrap 65536 = 65536 := by decide +kernel
  have hM := kcells.out _ hS13.out
  clear hLL
  go_wp2
  go_region_held3 (fun W' => Hid (Below w.heap.size w W') ∧ Hid (RBs W' LL) ∧ W'.cell? ⟨W5.heap.size, 0, none⟩ = some (.slice p5 x.length c5) ∧ W'.cell? ⟨W8.heap.size, 0, none⟩ = some (.slice p8 x.length c8) ∧ W'.cell? ⟨W4.heap.size, 0, none⟩ = some (.slice p4 r.length c4) ∧ W'.cell? ⟨W9.heap.size, 0, none⟩ = some (.slice p9 r.length c9) ∧ W'.cell? ⟨W11.heap.size, 0, none⟩ = some (.slice p11 u.length c11) ∧ W'.cell? ⟨W12.heap.size, 0, none⟩ = some (.slice p12 u.length c12) ∧ W'.cell? ⟨W13.heap.size, 0, none⟩ = some (.slice p13 u.length c13))
    (first | exact ⟨Lib.hid (Below.drew hB13.out), Lib.hid (hS13.out.later (Below.drew (Below.refl _ _))), hM⟩ | assumption)
    (first
      | (go_at_call 18
         with_reducible refine (kS0.out _ (Hid.out (And.left (And.right (by assumption))))).mono ?_
         rintro e Wn ⟨rfl, hbn⟩
         obtain ⟨s1, s2, _⟩ : _ ∧ _ ∧ _ := by assumption
         have hnew := rb_keep kcells hbn s1 s2)
      | (go_at_call 18
         with_reducible refine (kS1.out _ (Hid.out (And.left (And.right (by assumption))))).mono ?_
         rintro e Wn ⟨rfl, hbn⟩
         obtain ⟨s1, s2, _⟩ : _ ∧ _ ∧ _ := by assumption
         have hnew := rb_keep kcells hbn s1 s2)
      | (go_at_call 18
         with_reducible refine (kS2.out _ (Hid.out (And.left (And.right (by assumption))))).mono ?_
         rintro e Wn ⟨rfl, hbn⟩
         obtain ⟨s1, s2, _⟩ : _ ∧ _ ∧ _ := by assumption
         have hnew := rb_keep kcells hbn s1 s2)
      | (go_at_call 18
         with_reducible refine (kS3.out _ (Hid.out (And.left (And.right (by assumption))))).mono ?_
         rintro e Wn ⟨rfl, hbn⟩
         obtain ⟨s1, s2, _⟩ : _ ∧ _ ∧ _ := by assumption
         have hnew := rb_keep kcells hbn s1 s2)
      | (go_at_call 22
         with_reducible refine (kC0.out _ (Hid.out (And.left (And.right (by assumption)))) (Hid.out (And.left (by assumption)))).mono ?_
         rintro e Wn ⟨rfl, hbn⟩
         obtain ⟨s1, s2, _⟩ : _ ∧ _ ∧ _ := by assumption
         have hnew := rb_keep kcells hbn s1 s2)
      | (go_at_call 22
         with_reducible refine (kC1.out _ (Hid.out (And.left (And.right (by assumption)))) (Hid.out (And.left (by assumption)))).mono ?_
         rintro e Wn ⟨rfl, hbn⟩
         obtain ⟨s1, s2, _⟩ : _ ∧ _ ∧ _ := by assumption
         have hnew := rb_keep kcells hbn s1 s2))
  all_goals go_wp2
  all_goals exact bodyPost_ret (v := .bool true) (by simp [results, Tryd.results5, go_sem]) rfl ⟨rfl, Hid.out (And.left (by assumption))⟩
end Go.Proofs.YtalnfbkmlllfhaaDoor
