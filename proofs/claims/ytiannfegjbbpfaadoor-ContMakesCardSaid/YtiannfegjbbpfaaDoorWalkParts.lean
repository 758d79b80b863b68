/-
  ContParts: the plain law and the walk.
-/
import Derived.Test.YtiannfegjbbpfaaDoorHeld
import Derived.Test.YtiannfegjbbpfaaDoorOp
namespace Go.Proofs.YtiannfegjbbpfaaDoor
open Go.RowKit Tess

/-- Boxes that hold containers. -/
def Boxes (W : World) (l : List (Nat × Int × ByteArray)) : Prop := ∀ x ∈ l, CBox W x.1 x.2.1 x.2.2
theorem Boxes.later {W W' : World} {l : List (Nat × Int × ByteArray)} (h : Boxes W l) (hb : Below W.heap.size W W') : Boxes W' l := fun x hx => (h x hx).later hb
theorem Boxes.more {W W' : World} {l : List (Nat × Int × ByteArray)} (h : Boxes W l) (hb : Below W.heap.size W W') (f : Int) (D : ByteArray) :
    Boxes (W'.alloc (.cells #[.int .i64 f, .string D] 25)) ((W'.heap.size, f, D) :: l) := by
  intro x hx
  rcases List.mem_cons.1 hx with rfl | hx
  · exact CBox.new W' f D
  · exact ((h x hx).later hb).alloc _
theorem Boxes.none (W : World) : Boxes W [] := fun x hx => by cases hx
/-- Op of two containers. -/
def opC (op : Int) (a b : C) : C × Int := opRes op a.form (bs a.data) b.form (bs b.data)
theorem Op_c (op : Int) (a b : C) (w : World) (ha : (bs a.data).size ≤ 1000000) (hb : (bs b.data).size ≤ 1000000) (hT : Tab w) :
    Calls Tryd.prog 18 #[.int .i64 op, .agg #[.int .i64 a.form, .string (bs a.data)], .agg #[.int .i64 b.form, .string (bs b.data)]] w fun e W' => e = .returned (.tuple #[cv (opC op a b).1.form (opC op a b).1.data, .int .i64 (opC op a b).2]) ∧ Below w.heap.size w W' := Op_any op a.form (bs a.data) b.form (bs b.data) w ha hb hT
theorem best_len (s : Nat) : (bs (best s).data).size ≤ 1000000 := by
  rw [bs_size]; exact Nat.le_trans (best_length_le s) (by decide)

structure Parts (ca cb cn co cx cp cq : C) : Prop where
  la : (bs ca.data).size ≤ 1000000
  lb : (bs cb.data).size ≤ 1000000
  ln : (bs cn.data).size ≤ 1000000
  lo : (bs co.data).size ≤ 1000000
  lx : (bs cx.data).size ≤ 1000000
  lp : (bs cp.data).size ≤ 1000000
  lq : (bs cq.data).size ≤ 1000000
  e1 : opC 1 ca cb = (cn, 0)
  e2 : opC 2 ca cb = (co, 0)
  e3 : opC 3 ca cb = (cx, 0)
  e4 : opC 4 ca cb = (cp, 0)
  e5 : opC 4 cb ca = (cq, 0)
  e6 : opC 2 cp cq = (cx, 0)
  e7 : opC 2 cx cn = (co, 0)
  e8 : opC 4 co cn = (cx, 0)
  e9 : ci ca.form (bs ca.data) + ci cb.form (bs cb.data) = ci co.form (bs co.data) + ci cn.form (bs cn.data)
theorem parts_of {zs ms : List Int} (h1 : (mkRes zs).2 = 0) (h2 : (mkRes ms).2 = 0) : ∃ cn co cx cp cq : C, Parts (mkRes zs).1 (mkRes ms).1 cn co cx cp cq := by
  obtain ⟨s, hs, es, _⟩ := ofRes_mk h1
  obtain ⟨t, ht, et, _⟩ := ofRes_mk h2
  have lt : ∀ op : Int, opOf op s t < big := fun op => opOf_lt hs ht
  have lt' : ∀ op : Int, opOf op t s < big := fun op => opOf_lt ht hs
  have cb : ∀ u, u < big → ci (best u).form (bs (best u).data) = (count u : Int) := fun u hu => by unfold ci; rw [ofRes_best hu]
  rw [es, et]
  refine ⟨best (opOf 1 s t), best (opOf 2 s t), best (opOf 3 s t), best (opOf 4 s t), best (opOf 4 t s), best_len _, best_len _, best_len _, best_len _, best_len _, best_len _, best_len _,
    opRes_best hs ht (by decide) (by decide), opRes_best hs ht (by decide) (by decide), opRes_best hs ht (by decide) (by decide), opRes_best hs ht (by decide) (by decide), opRes_best ht hs (by decide) (by decide), ?_, ?_, ?_, ?_⟩
  · show opRes 2 _ _ _ _ = _
    rw [opRes_best (lt 4) (lt' 4) (by decide) (by decide), op_xor]
  · show opRes 2 _ _ _ _ = _
    rw [opRes_best (lt 3) (lt 1) (by decide) (by decide), ← op_xor, op_or]
  · show opRes 4 _ _ _ _ = _
    rw [opRes_best (lt 2) (lt 1) (by decide) (by decide), op_xor2]
  · show ci (best s).form _ + ci (best t).form _ = _
    rw [cb s hs, cb t ht, cb _ (lt 2), cb _ (lt 1)]
    have := op_count s t
    omega

theorem parts_cells {W : World} {bu bv bz bq bp bx bo bn bb ba : Nat} {ca cb cn co cx cp cq : C} (s2 : Hid (Boxes W [(bu, cx.form, bs cx.data), (bv, co.form, bs co.data), (bz, cx.form, bs cx.data), (bq, cq.form, bs cq.data), (bp, cp.form, bs cp.data), (bx, cx.form, bs cx.data), (bo, co.form, bs co.data), (bn, cn.form, bs cn.data), (bb, cb.form, bs cb.data), (ba, ca.form, bs ca.data)])) :
    W.cell? ⟨bv, 0, none⟩ = some (.int .i64 co.form) ∧ W.cell? ⟨bv, 1, none⟩ = some (.string (bs co.data)) ∧ W.cell? ⟨bo, 0, none⟩ = some (.int .i64 co.form) ∧ W.cell? ⟨bo, 1, none⟩ = some (.string (bs co.data)) ∧ W.cell? ⟨bz, 0, none⟩ = some (.int .i64 cx.form) ∧ W.cell? ⟨bz, 1, none⟩ = some (.string (bs cx.data)) ∧ W.cell? ⟨bx, 0, none⟩ = some (.int .i64 cx.form) ∧ W.cell? ⟨bx, 1, none⟩ = some (.string (bs cx.data)) ∧ W.cell? ⟨bu, 0, none⟩ = some (.int .i64 cx.form) ∧ W.cell? ⟨bu, 1, none⟩ = some (.string (bs cx.data)) ∧ W.cell? ⟨ba, 0, none⟩ = some (.int .i64 ca.form) ∧ W.cell? ⟨ba, 1, none⟩ = some (.string (bs ca.data)) ∧ W.cell? ⟨bb, 0, none⟩ = some (.int .i64 cb.form) ∧ W.cell? ⟨bb, 1, none⟩ = some (.string (bs cb.data)) ∧ W.cell? ⟨bn, 0, none⟩ = some (.int .i64 cn.form) ∧ W.cell? ⟨bn, 1, none⟩ = some (.string (bs cn.data)) := by
  have hv := blk2_cells (s2.out (bv, co.form, bs co.data) (by simp))
  have ho := blk2_cells (s2.out (bo, co.form, bs co.data) (by simp))
  have hz := blk2_cells (s2.out (bz, cx.form, bs cx.data) (by simp))
  have hx := blk2_cells (s2.out (bx, cx.form, bs cx.data) (by simp))
  have hu := blk2_cells (s2.out (bu, cx.form, bs cx.data) (by simp))
  have ha := blk2_cells (s2.out (ba, ca.form, bs ca.data) (by simp))
  have hb := blk2_cells (s2.out (bb, cb.form, bs cb.data) (by simp))
  have hn := blk2_cells (s2.out (bn, cn.form, bs cn.data) (by simp))
  exact ⟨hv.1, hv.2.1, ho.1, ho.2.1, hz.1, hz.2.1, hx.1, hx.2.1, hu.1, hu.2.1, ha.1, ha.2.1, hb.1, hb.2.1, hn.1, hn.2.1⟩
theorem parts_keep {w W W' : World} {bu bv bz bq bp bx bo bn bb ba : Nat} {ca cb cn co cx cp cq : C} (hb : Below W.heap.size W W') (s1 : Hid (Below w.heap.size w W)) (s2 : Hid (Boxes W [(bu, cx.form, bs cx.data), (bv, co.form, bs co.data), (bz, cx.form, bs cx.data), (bq, cq.form, bs cq.data), (bp, cp.form, bs cp.data), (bx, cx.form, bs cx.data), (bo, co.form, bs co.data), (bn, cn.form, bs cn.data), (bb, cb.form, bs cb.data), (ba, ca.form, bs ca.data)])) :
    Hid (Below w.heap.size w W') ∧ Hid (Boxes W' [(bu, cx.form, bs cx.data), (bv, co.form, bs co.data), (bz, cx.form, bs cx.data), (bq, cq.form, bs cq.data), (bp, cp.form, bs cp.data), (bx, cx.form, bs cx.data), (bo, co.form, bs co.data), (bn, cn.form, bs cn.data), (bb, cb.form, bs cb.data), (ba, ca.form, bs ca.data)]) ∧ W'.cell? ⟨bv, 0, none⟩ = some (.int .i64 co.form) ∧ W'.cell? ⟨bv, 1, none⟩ = some (.string (bs co.data)) ∧ W'.cell? ⟨bo, 0, none⟩ = some (.int .i64 co.form) ∧ W'.cell? ⟨bo, 1, none⟩ = some (.string (bs co.data)) ∧ W'.cell? ⟨bz, 0, none⟩ = some (.int .i64 cx.form) ∧ W'.cell? ⟨bz, 1, none⟩ = some (.string (bs cx.data)) ∧ W'.cell? ⟨bx, 0, none⟩ = some (.int .i64 cx.form) ∧ W'.cell? ⟨bx, 1, none⟩ = some (.string (bs cx.data)) ∧ W'.cell? ⟨bu, 0, none⟩ = some (.int .i64 cx.form) ∧ W'.cell? ⟨bu, 1, none⟩ = some (.string (bs cx.data)) ∧ W'.cell? ⟨ba, 0, none⟩ = some (.int .i64 ca.form) ∧ W'.cell? ⟨ba, 1, none⟩ = some (.string (bs ca.data)) ∧ W'.cell? ⟨bb, 0, none⟩ = some (.int .i64 cb.form) ∧ W'.cell? ⟨bb, 1, none⟩ = some (.string (bs cb.data)) ∧ W'.cell? ⟨bn, 0, none⟩ = some (.int .i64 cn.form) ∧ W'.cell? ⟨bn, 1, none⟩ = some (.string (bs cn.data)) :=
  ⟨Lib.hid (s1.out.trans (hb.mono s1.out.size)), Lib.hid (s2.out.later hb), parts_cells (Lib.hid (s2.out.later hb))⟩

set_option maxRecDepth 100000 in
set_option maxHeartbeats 16000000 in
theorem contParts_walk {zs ms : List Int} {sv sm : Value} {w : World} (h : Ints w.heap.size w sv zs) (hcap : ∀ p n c, sv = .slice p n c → n ≤ c) (h' : Ints w.heap.size w sm ms) (hcap' : ∀ p n c, sm = .slice p n c → n ≤ c) (hT : Tab w) :
    Calls Tryd.prog 6 #[sv, sm] w fun e W' => e = .returned (.bool true) ∧ Below w.heap.size w W' := by
  have k1 := Lib.hid (shown_any w hT)
  have hh := Lib.hid h
  have hcp := Lib.hid hcap
  have hh' := Lib.hid h'
  have hcp' := Lib.hid hcap'
  clear h hcap h' hcap'
  go_enter Tryd.func6, Tryd.ntmps6
  go_wp2_with fail
  refine (k1.out).mono ?_
  rintro e W1 ⟨rfl, hB1⟩
  have k2 := Lib.hid (few_any (hh.out.below hB1 (Nat.le_refl _)) hcp.out)
  go_wp2_with fail
  refine (k2.out).mono ?_
  rintro e W1' ⟨⟨v, rfl, hv⟩, rfl⟩
  have k3 := Lib.hid (make_any (hv.more hB1.size) (by rw [List.length_take]; omega) (hT.below hB1 hT.lt))
  have hgood := Lib.hid (@parts_of (zs.take 300) (ms.take 300))
  generalize mkRes (zs.take 300) = r at k3 hgood
  have hBB := Lib.hid hB1
  clear hv k1 k2 hh hcp hB1
  go_wp2_with fail
  refine (k3.out).mono ?_
  rintro e W2 ⟨rfl, hb2⟩
  have hB2 := Lib.hid (below_box hBB.out hBB.out.size hb2 (.cells #[.int .i64 r.1.form, .string (bs r.1.data)] 25))
  have hx2 := Lib.hid ((Boxes.none W1').more hb2 r.1.form (bs r.1.data))
  have k4 := Lib.hid (few_any (hh'.out.below hB2.out (Nat.le_refl _)) hcp'.out)
  clear hb2 k3 hBB
  simp only [cv]
  go_wp2_with fail
  refine (k4.out).mono ?_
  rintro e W2' ⟨⟨v', rfl, hv'⟩, rfl⟩
  have k5 := Lib.hid (make_any (hv'.more hB2.out.size) (by rw [List.length_take]; omega) (hT.below hB2.out hT.lt))
  generalize mkRes (ms.take 300) = q at k5 hgood
  clear hv' k4 hh' hcp'
  go_wp2_with fail
  refine (k5.out).mono ?_
  rintro e W3 ⟨rfl, hb3⟩
  have hB3 := Lib.hid (below_box hB2.out hB2.out.size hb3 (.cells #[.int .i64 q.1.form, .string (bs q.1.data)] 25))
  have hx3 := Lib.hid (hx2.out.more hb3 q.1.form (bs q.1.data))
  clear hb3 k5 hx2 hB2
  obtain ⟨ca, r2⟩ := r
  obtain ⟨cb, q2⟩ := q
  simp only at hx3 hB3 hgood
  simp only [cv]
  cases h0 : (r2 != 0) with
  | true =>
    clear hgood
    go_wp2
    exact bodyPost_ret (v := .bool true) (by simp [results, Tryd.results6, go_sem]) rfl ⟨rfl, hB3.out⟩
  | false =>
    cases h1 : (q2 != 0) with
    | true =>
      clear hgood
      go_wp2
      exact bodyPost_ret (v := .bool true) (by simp [results, Tryd.results6, go_sem]) rfl ⟨rfl, hB3.out⟩
    | false =>
      have hr0 : r2 = 0 := by simpa using h0
      have hq0 : q2 = 0 := by simpa using h1
      subst hr0
      subst hq0
      obtain ⟨cn, co, cx, cp, cq, hp⟩ := hgood.out rfl rfl
      have hP := Lib.hid hp
      clear hgood h0 h1 hp
      have hTl := Lib.hid hT
      clear hT
      -- n
      have k6 := Lib.hid (Op_c 1 ca cb _ hP.out.la hP.out.lb (hTl.out.below hB3.out hTl.out.lt))
      rw [hP.out.e1] at k6
      obtain ⟨d0, d1, -, -⟩ := blk2_cells (hx3.out (W2.heap.size, ca.form, bs ca.data) (by simp))
      obtain ⟨g0, g1, -, -⟩ := blk2_cells (hx3.out (W3.heap.size, cb.form, bs cb.data) (by simp))
      try simp only [cv]
      go_wp2_with fail
      refine (k6.out).mono ?_
      rintro e W4 ⟨rfl, hb4⟩
      have hB4 := Lib.hid (below_box hB3.out hB3.out.size hb4 (.cells #[.int .i64 cn.form, .string (bs cn.data)] 25))
      have hx4 := Lib.hid (hx3.out.more hb4 cn.form (bs cn.data))
      clear d0 d1 g0 g1 hb4 k6 hx3 hB3
      -- o
      have k7 := Lib.hid (Op_c 2 ca cb _ hP.out.la hP.out.lb (hTl.out.below hB4.out hTl.out.lt))
      rw [hP.out.e2] at k7
      obtain ⟨d0, d1, -, -⟩ := blk2_cells (hx4.out (W2.heap.size, ca.form, bs ca.data) (by simp))
      obtain ⟨g0, g1, -, -⟩ := blk2_cells (hx4.out (W3.heap.size, cb.form, bs cb.data) (by simp))
      try simp only [cv]
      go_wp2_with fail
      refine (k7.out).mono ?_
      rintro e W5 ⟨rfl, hb5⟩
      have hB5 := Lib.hid (below_box hB4.out hB4.out.size hb5 (.cells #[.int .i64 co.form, .string (bs co.data)] 25))
      have hx5 := Lib.hid (hx4.out.more hb5 co.form (bs co.data))
      clear d0 d1 g0 g1 hb5 k7 hx4 hB4
      -- x
      have k8 := Lib.hid (Op_c 3 ca cb _ hP.out.la hP.out.lb (hTl.out.below hB5.out hTl.out.lt))
      rw [hP.out.e3] at k8
      obtain ⟨d0, d1, -, -⟩ := blk2_cells (hx5.out (W2.heap.size, ca.form, bs ca.data) (by simp))
      obtain ⟨g0, g1, -, -⟩ := blk2_cells (hx5.out (W3.heap.size, cb.form, bs cb.data) (by simp))
      try simp only [cv]
      go_wp2_with fail
      refine (k8.out).mono ?_
      rintro e W6 ⟨rfl, hb6⟩
      have hB6 := Lib.hid (below_box hB5.out hB5.out.size hb6 (.cells #[.int .i64 cx.form, .string (bs cx.data)] 25))
      have hx6 := Lib.hid (hx5.out.more hb6 cx.form (bs cx.data))
      clear d0 d1 g0 g1 hb6 k8 hx5 hB5
      -- p
      have k9 := Lib.hid (Op_c 4 ca cb _ hP.out.la hP.out.lb (hTl.out.below hB6.out hTl.out.lt))
      rw [hP.out.e4] at k9
      obtain ⟨d0, d1, -, -⟩ := blk2_cells (hx6.out (W2.heap.size, ca.form, bs ca.data) (by simp))
      obtain ⟨g0, g1, -, -⟩ := blk2_cells (hx6.out (W3.heap.size, cb.form, bs cb.data) (by simp))
      try simp only [cv]
      go_wp2_with fail
      refine (k9.out).mono ?_
      rintro e W7 ⟨rfl, hb7⟩
      have hB7 := Lib.hid (below_box hB6.out hB6.out.size hb7 (.cells #[.int .i64 cp.form, .string (bs cp.data)] 25))
      have hx7 := Lib.hid (hx6.out.more hb7 cp.form (bs cp.data))
      clear d0 d1 g0 g1 hb7 k9 hx6 hB6
      -- q
      have k10 := Lib.hid (Op_c 4 cb ca _ hP.out.lb hP.out.la (hTl.out.below hB7.out hTl.out.lt))
      rw [hP.out.e5] at k10
      obtain ⟨d0, d1, -, -⟩ := blk2_cells (hx7.out (W3.heap.size, cb.form, bs cb.data) (by simp))
      obtain ⟨g0, g1, -, -⟩ := blk2_cells (hx7.out (W2.heap.size, ca.form, bs ca.data) (by simp))
      try simp only [cv]
      go_wp2_with fail
      refine (k10.out).mono ?_
      rintro e W8 ⟨rfl, hb8⟩
      have hB8 := Lib.hid (below_box hB7.out hB7.out.size hb8 (.cells #[.int .i64 cq.form, .string (bs cq.data)] 25))
      have hx8 := Lib.hid (hx7.out.more hb8 cq.form (bs cq.data))
      clear d0 d1 g0 g1 hb8 k10 hx7 hB7
      -- z
      have k11 := Lib.hid (Op_c 2 cp cq _ hP.out.lp hP.out.lq (hTl.out.below hB8.out hTl.out.lt))
      rw [hP.out.e6] at k11
      obtain ⟨d0, d1, -, -⟩ := blk2_cells (hx8.out (W7.heap.size, cp.form, bs cp.data) (by simp))
      obtain ⟨g0, g1, -, -⟩ := blk2_cells (hx8.out (W8.heap.size, cq.form, bs cq.data) (by simp))
      try simp only [cv]
      go_wp2_with fail
      refine (k11.out).mono ?_
      rintro e W9 ⟨rfl, hb9⟩
      have hB9 := Lib.hid (below_box hB8.out hB8.out.size hb9 (.cells #[.int .i64 cx.form, .string (bs cx.data)] 25))
      have hx9 := Lib.hid (hx8.out.more hb9 cx.form (bs cx.data))
      clear d0 d1 g0 g1 hb9 k11 hx8 hB8
      -- v
      have k12 := Lib.hid (Op_c 2 cx cn _ hP.out.lx hP.out.ln (hTl.out.below hB9.out hTl.out.lt))
      rw [hP.out.e7] at k12
      obtain ⟨d0, d1, -, -⟩ := blk2_cells (hx9.out (W9.heap.size, cx.form, bs cx.data) (by simp))
      obtain ⟨g0, g1, -, -⟩ := blk2_cells (hx9.out (W4.heap.size, cn.form, bs cn.data) (by simp))
      try simp only [cv]
      go_wp2_with fail
      refine (k12.out).mono ?_
      rintro e W10 ⟨rfl, hb10⟩
      have hB10 := Lib.hid (below_box hB9.out hB9.out.size hb10 (.cells #[.int .i64 co.form, .string (bs co.data)] 25))
      have hx10 := Lib.hid (hx9.out.more hb10 co.form (bs co.data))
      clear d0 d1 g0 g1 hb10 k12 hx9 hB9
      -- u
      have k13 := Lib.hid (Op_c 4 co cn _ hP.out.lo hP.out.ln (hTl.out.below hB10.out hTl.out.lt))
      rw [hP.out.e8] at k13
      obtain ⟨d0, d1, -, -⟩ := blk2_cells (hx10.out (W5.heap.size, co.form, bs co.data) (by simp))
      obtain ⟨g0, g1, -, -⟩ := blk2_cells (hx10.out (W4.heap.size, cn.form, bs cn.data) (by simp))
      try simp only [cv]
      go_wp2_with fail
      refine (k13.out).mono ?_
      rintro e W11 ⟨rfl, hb11⟩
      have hB11 := Lib.hid (below_box hB10.out hB10.out.size hb11 (.cells #[.int .i64 cx.form, .string (bs cx.data)] 25))
      have hx11 := Lib.hid (hx10.out.more hb11 cx.form (bs cx.data))
      clear d0 d1 g0 g1 hb11 k13 hx10 hB10
      simp only [cv]
      have hM := parts_cells hx11
      have hgd := cont_guard
      have hq1 := cont_eq cx.form cx.form (bs cx.data) (bs cx.data)
      have hq2 := cont_eq co.form co.form (bs co.data) (bs co.data)
      rw [sameC_refl] at hq1 hq2
      have hla := hP.out.la
      have hlb := hP.out.lb
      have hln := hP.out.ln
      have hlo := hP.out.lo
      obtain ⟨S, hS⟩ : ∃ S, ci ca.form (bs ca.data) + ci cb.form (bs cb.data) = S := ⟨_, rfl⟩
      have ra := ci_range ca.form (bs ca.data)
      have rb := ci_range cb.form (bs cb.data)
      have hw1 : IntKind.i64.wrap (ci ca.form (bs ca.data) + ci cb.form (bs cb.data)) = S := by rw [IntWalk.i64_in _ (by omega), hS]
      have hw2 : IntKind.i64.wrap (ci co.form (bs co.data) + ci cn.form (bs cn.data)) = S := by rw [← hP.out.e9, IntWalk.i64_in _ (by omega), hS]
      clear hS ra rb
      go_wp2
      go_region_held3 (fun W' => Hid (Below w.heap.size w W') ∧ Hid (Boxes W' [(W11.heap.size, cx.form, bs cx.data), (W10.heap.size, co.form, bs co.data), (W9.heap.size, cx.form, bs cx.data), (W8.heap.size, cq.form, bs cq.data), (W7.heap.size, cp.form, bs cp.data), (W6.heap.size, cx.form, bs cx.data), (W5.heap.size, co.form, bs co.data), (W4.heap.size, cn.form, bs cn.data), (W3.heap.size, cb.form, bs cb.data), (W2.heap.size, ca.form, bs ca.data)]) ∧ W'.cell? ⟨W10.heap.size, 0, none⟩ = some (.int .i64 co.form) ∧ W'.cell? ⟨W10.heap.size, 1, none⟩ = some (.string (bs co.data)) ∧ W'.cell? ⟨W5.heap.size, 0, none⟩ = some (.int .i64 co.form) ∧ W'.cell? ⟨W5.heap.size, 1, none⟩ = some (.string (bs co.data)) ∧ W'.cell? ⟨W9.heap.size, 0, none⟩ = some (.int .i64 cx.form) ∧ W'.cell? ⟨W9.heap.size, 1, none⟩ = some (.string (bs cx.data)) ∧ W'.cell? ⟨W6.heap.size, 0, none⟩ = some (.int .i64 cx.form) ∧ W'.cell? ⟨W6.heap.size, 1, none⟩ = some (.string (bs cx.data)) ∧ W'.cell? ⟨W11.heap.size, 0, none⟩ = some (.int .i64 cx.form) ∧ W'.cell? ⟨W11.heap.size, 1, none⟩ = some (.string (bs cx.data)) ∧ W'.cell? ⟨W2.heap.size, 0, none⟩ = some (.int .i64 ca.form) ∧ W'.cell? ⟨W2.heap.size, 1, none⟩ = some (.string (bs ca.data)) ∧ W'.cell? ⟨W3.heap.size, 0, none⟩ = some (.int .i64 cb.form) ∧ W'.cell? ⟨W3.heap.size, 1, none⟩ = some (.string (bs cb.data)) ∧ W'.cell? ⟨W4.heap.size, 0, none⟩ = some (.int .i64 cn.form) ∧ W'.cell? ⟨W4.heap.size, 1, none⟩ = some (.string (bs cn.data)))
        (first | exact ⟨Lib.hid (Below.drew hB11.out), hx11, hM⟩ | assumption)
        (first
          | (go_at_call 15
             refine (Count_ci _ _ _ (by assumption) (hTl.out.below (Hid.out (And.left (by assumption))) hTl.out.lt)).mono ?_
             rintro e Wn ⟨rfl, hbn⟩
             obtain ⟨s1, s2, _⟩ : _ ∧ _ ∧ _ := by assumption
             have hnew := parts_keep hbn s1 s2))
      all_goals go_wp2
      all_goals exact bodyPost_ret (v := .bool true) (by simp [results, Tryd.results6, go_sem]) rfl ⟨rfl, Hid.out (And.left (by assumption))⟩
end Go.Proofs.YtiannfegjbbpfaaDoor
