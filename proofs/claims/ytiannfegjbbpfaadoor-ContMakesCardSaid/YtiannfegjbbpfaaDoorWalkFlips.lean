/-
  ContFlips: the walk.
-/
import Derived.Test.YtiannfegjbbpfaaDoorLawFlips
namespace Go.Proofs.YtiannfegjbbpfaaDoor
open Go.RowKit Tess

theorem below_box {n₀ : Nat} {w A W : World} (hB : Below n₀ w A) (hA : n₀ ≤ A.heap.size) (hb : Below A.heap.size A W) (o : Obj) : Below n₀ w (W.alloc o) :=
  (hB.trans (hb.mono hA)).alloc (Nat.le_trans hA hb.size) o

set_option maxRecDepth 100000 in
set_option maxHeartbeats 8000000 in
theorem contFlips_walk {zs : List Int} {sv : Value} (a b : Int) {w : World} (h : Ints w.heap.size w sv zs) (hcap : ∀ p n c, sv = .slice p n c → n ≤ c) (hT : Tab w) :
    Calls Tryd.prog 3 #[sv, .int .i64 a, .int .i64 b] w fun e W' => e = .returned (.bool true) ∧ Below w.heap.size w W' := by
  have k1 := Lib.hid (shown_any w hT)
  have hh := Lib.hid h
  have hcp := Lib.hid hcap
  clear h hcap
  go_enter Tryd.func3, Tryd.ntmps3
  go_wp2_with fail
  refine (k1.out).mono ?_
  rintro e W1 ⟨rfl, hB1⟩
  have k2 := Lib.hid (few_any (hh.out.below hB1 (Nat.le_refl _)) hcp.out)
  go_wp2_with fail
  refine (k2.out).mono ?_
  rintro e W1' ⟨⟨v, rfl, hv⟩, rfl⟩
  have k3 := Lib.hid (make_any (hv.more hB1.size) (by rw [List.length_take]; omega) (hT.below hB1 hT.lt))
  have hlen := mkRes_len (zs.take 300)
  have hbad := @flips_bad (zs.take 300) a b
  have hgood := @flips_good (zs.take 300) a b
  generalize mkRes (zs.take 300) = r at k3 hlen hbad hgood
  have hbad' := Lib.hid hbad
  have hgood' := Lib.hid hgood
  have hBB := Lib.hid hB1
  clear hv k1 k2 hh hcp hbad hgood hB1
  go_wp2_with fail
  refine (k3.out).mono ?_
  rintro e W2 ⟨rfl, hb2⟩
  have hB2 := Lib.hid (below_box hBB.out hBB.out.size hb2 (.cells #[.int .i64 r.1.form, .string (bs r.1.data)] 25))
  have hx1 := CBox.new W2 r.1.form (bs r.1.data)
  have k4 := Lib.hid (flip_any r.1.form (bs r.1.data) a b _ hlen (hT.below hB2.out hT.lt))
  have hfl := flRes_len r.1.form (bs r.1.data) a b
  obtain ⟨d0, d1, _, _⟩ := blk2_cells hx1
  have hx1' := Lib.hid hx1
  clear hb2 hx1 k3 hBB
  generalize flRes r.1.form (bs r.1.data) a b = f at k4 hfl hbad' hgood'
  simp only [cv]
  go_wp2_with fail
  refine (k4.out).mono ?_
  rintro e W3 ⟨rfl, hb3⟩
  have hB3 := Lib.hid (below_box hB2.out hB2.out.size hb3 (.cells #[.int .i64 f.1.form, .string (bs f.1.data)] 25))
  have hx2 := CBox.new W3 f.1.form (bs f.1.data)
  have hx3 := Lib.hid ((hx1'.out.later hb3).alloc (.cells #[.int .i64 f.1.form, .string (bs f.1.data)] 25))
  have k5 := Lib.hid (flip_any f.1.form (bs f.1.data) a b _ hfl (hT.below hB3.out hT.lt))
  clear d0 d1 hb3 hx1' k4
  obtain ⟨d0, d1, _, _⟩ := blk2_cells hx2
  clear hx2
  generalize flRes f.1.form (bs f.1.data) a b = g at k5 hgood'
  simp only [cv]
  go_wp2_with fail
  refine (k5.out).mono ?_
  rintro e W4 ⟨rfl, hb4⟩
  have hB4 := Lib.hid (below_box hB3.out hB3.out.size hb4 (.cells #[.int .i64 g.1.form, .string (bs g.1.data)] 25))
  have hx4 := (hx3.out.later hb4).alloc (.cells #[.int .i64 g.1.form, .string (bs g.1.data)] 25)
  have hx5 := CBox.new W4 g.1.form (bs g.1.data)
  clear d0 d1 hb4 hx3
  obtain ⟨d0, d1, _, _⟩ := blk2_cells hx4
  obtain ⟨e0, e1, _, _⟩ := blk2_cells hx5
  clear hx4 hx5 k5
  obtain ⟨r1, r2⟩ := r
  obtain ⟨f1, f2⟩ := f
  obtain ⟨g1, g2⟩ := g
  simp only at d0 d1 e0 e1 hB4 hB3 hB2
  have hgd := cont_guard
  simp only [cv]
  cases h0 : (r2 != 0) with
  | true =>
    obtain rfl : f2 = 60 := hbad'.out (by simp at h0; simp; omega)
    clear hbad' hgood'
    go_wp2
    exact bodyPost_ret (v := .bool true) (by simp [results, Tryd.results3, go_sem]) rfl ⟨rfl, hB4.out⟩
  | false =>
    cases h1 : decide (a < 0) with
    | true =>
      obtain rfl : f2 = 60 := hbad'.out (by simp at h1; simp; omega)
      clear hbad' hgood'
      go_wp2
      exact bodyPost_ret (v := .bool true) (by simp [results, Tryd.results3, go_sem]) rfl ⟨rfl, hB4.out⟩
    | false =>
      cases h2 : decide (b < 0) with
      | true =>
        obtain rfl : f2 = 60 := hbad'.out (by simp at h2; simp; omega)
        clear hbad' hgood'
        go_wp2
        exact bodyPost_ret (v := .bool true) (by simp [results, Tryd.results3, go_sem]) rfl ⟨rfl, hB4.out⟩
      | false =>
        cases h3 : decide (256 < a) with
        | true =>
          obtain rfl : f2 = 60 := hbad'.out (by simp at h3; simp; omega)
          clear hbad' hgood'
          go_wp2
          exact bodyPost_ret (v := .bool true) (by simp [results, Tryd.results3, go_sem]) rfl ⟨rfl, hB4.out⟩
        | false =>
          cases h4 : decide (256 < b) with
          | true =>
            obtain rfl : f2 = 60 := hbad'.out (by simp at h4; simp; omega)
            clear hbad' hgood'
            go_wp2
            exact bodyPost_ret (v := .bool true) (by simp [results, Tryd.results3, go_sem]) rfl ⟨rfl, hB4.out⟩
          | false =>
            have hr0 : r2 = 0 := by simpa using h0
            obtain ⟨hf, hg⟩ := hgood'.out hr0 (by simp at h1 h2 h3 h4; omega)
            obtain ⟨rfl, rfl⟩ := Prod.mk.inj hg
            obtain rfl : f2 = 0 := hf
            subst hr0
            have hq := cont_eq g1.form g1.form (bs g1.data) (bs g1.data)
            rw [sameC_refl] at hq
            clear hbad' hgood' hg
            go_wp2
            exact bodyPost_ret (v := .bool true) (by simp [results, Tryd.results3, go_sem]) rfl ⟨rfl, hB4.out⟩
end Go.Proofs.YtiannfegjbbpfaaDoor
