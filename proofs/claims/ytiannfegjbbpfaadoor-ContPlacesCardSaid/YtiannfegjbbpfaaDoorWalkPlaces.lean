/-
  ContPlaces: the walk.
-/
import Derived.Test.YtiannfegjbbpfaaDoorWalkFlips
import Derived.Test.YtiannfegjbbpfaaDoorVals
namespace Go.Proofs.YtiannfegjbbpfaaDoor
open Go.RowKit Tess

set_option maxRecDepth 100000 in
set_option maxHeartbeats 8000000 in
theorem contPlaces_walk {zs : List Int} {sv : Value} (p : Int) {w : World} (h : Ints w.heap.size w sv zs) (hcap : ∀ p n c, sv = .slice p n c → n ≤ c) (hT : Tab w) :
    Calls Tryd.prog 9 #[sv, .int .i64 p] w fun e W' => e = .returned (.bool true) ∧ Below w.heap.size w W' := by
  have k1 := Lib.hid (shown_any w hT)
  have hh := Lib.hid h
  have hcp := Lib.hid hcap
  clear h hcap
  go_enter Tryd.func9, Tryd.ntmps9
  go_wp2_with fail
  refine (k1.out).mono ?_
  rintro e W1 ⟨rfl, hB1⟩
  have k2 := Lib.hid (few_any (hh.out.below hB1 (Nat.le_refl _)) hcp.out)
  go_wp2_with fail
  refine (k2.out).mono ?_
  rintro e W1' ⟨⟨v, rfl, hv⟩, rfl⟩
  have k3 := Lib.hid (make_any (hv.more hB1.size) (by rw [List.length_take]; omega) (hT.below hB1 hT.lt))
  have hlen := mkRes_len (zs.take 300)
  have hbad := Lib.hid (@ofRes_mk_bad (zs.take 300))
  generalize mkRes (zs.take 300) = r at k3 hlen hbad
  have hBB := Lib.hid hB1
  clear hv k1 k2 hh hcp hB1
  go_wp2_with fail
  refine (k3.out).mono ?_
  rintro e W2 ⟨rfl, hb2⟩
  have hB2 := Lib.hid (below_box hBB.out hBB.out.size hb2 (.cells #[.int .i64 r.1.form, .string (bs r.1.data)] 25))
  have hx1 := CBox.new W2 r.1.form (bs r.1.data)
  have k4 := Lib.hid (Select_any r.1.form (bs r.1.data) p _ hlen (hT.below hB2.out hT.lt))
  obtain ⟨d0, d1, _, _⟩ := blk2_cells hx1
  have hx1' := Lib.hid hx1
  clear hb2 hx1 k3 hBB
  obtain ⟨s, hss⟩ : ∃ s, (ofRes r.1.form (bs r.1.data)).1 = s := ⟨_, rfl⟩
  rw [hss] at k4
  have hss' := Lib.hid hss
  have hbad' : Hid (r.2 ≠ 0 → s = 0) := fun h => by rw [← hss, hbad.out h]
  clear hss hbad
  simp only [cv]
  go_wp2_with fail
  refine (k4.out).mono ?_
  rintro e W3 ⟨rfl, hb3⟩
  have hs2 := hb3.size
  have hB3 := Lib.hid (hB2.out.trans (hb3.mono hB2.out.size))
  have hx2 := Lib.hid (hx1'.out.later hb3)
  clear d0 d1 k4
  obtain ⟨d0, d1, _, _⟩ := blk2_cells hx2.out
  have k5 := Lib.hid (Count_any r.1.form (bs r.1.data) _ hlen (hT.below hB3.out hT.lt))
  rw [hss'.out] at k5
  have hcl := count_le s
  obtain ⟨r1, r2⟩ := r
  simp only at d0 d1 hB3 hB2 hx2 k5 hlen
  cases h0 : (r2 != 0) with
  | true =>
    obtain rfl : s = 0 := hbad'.out (by simpa using h0)
    have hsel := sel_zero p
    rw [hsel]
    clear hbad' hsel
    go_wp2
    exact bodyPost_ret (v := .bool true) (by simp [results, Tryd.results9, go_sem]) rfl ⟨rfl, hB3.out⟩
  | false =>
    cases h1 : decide (p < 0) with
    | true =>
      have hsel := sel_out (s := s) (p := p) (.inl (by simpa using h1))
      rw [hsel]
      clear hbad' hsel
      go_wp2
      exact bodyPost_ret (v := .bool true) (by simp [results, Tryd.results9, go_sem]) rfl ⟨rfl, hB3.out⟩
    | false =>
      cases h2 : decide ((count s : Int) ≤ p) with
      | true =>
        have hsel := sel_out (s := s) (p := p) (.inr (by simpa using h2))
        rw [hsel]
        generalize count s = ct at k5 hcl h2
        clear hbad' hsel
        go_wp2_with fail
        refine (k5.out).mono ?_
        rintro e W4 ⟨rfl, hb4⟩
        have hB4 := Lib.hid (hB3.out.trans (hb4.mono hB3.out.size))
        clear hb4
        go_wp2
        exact bodyPost_ret (v := .bool true) (by simp [results, Tryd.results9, go_sem]) rfl ⟨rfl, hB4.out⟩
      | false =>
        obtain ⟨m, hm, hsel, q1, q2, q3⟩ := sel_in (s := s) (p := p) (by simp at h1; omega) (by simp at h2; omega)
        rw [hsel]
        have hp256 : p < 256 := by simp at h2; omega
        have hp0 : 0 ≤ p := by simp at h1; omega
        have q1' := Lib.hid q1
        have q2' := Lib.hid q2
        have q3' := Lib.hid q3
        generalize count s = ct at k5 hcl h2
        clear hbad' hsel q1 q2 q3
        go_wp2_with fail
        refine (k5.out).mono ?_
        rintro e W4 ⟨rfl, hb4⟩
        have hB4 := Lib.hid (hB3.out.trans (hb4.mono hB3.out.size))
        have hx4 := Lib.hid (hx2.out.later hb4)
        have k6 := Lib.hid (Has_any r1.form (bs r1.data) m _ hlen (hT.below hB4.out hT.lt))
        rw [hss'.out, q1'.out] at k6
        clear d0 d1 hb4
        obtain ⟨d0, d1, _, _⟩ := blk2_cells hx4.out
        go_wp2_with fail
        refine (k6.out).mono ?_
        rintro e W5 ⟨rfl, hb5⟩
        have hB5 := Lib.hid (hB4.out.trans (hb5.mono hB4.out.size))
        have hx5 := Lib.hid (hx4.out.later hb5)
        have k7 := Lib.hid (Rank_any r1.form (bs r1.data) m _ hlen (hT.below hB5.out hT.lt))
        rw [hss'.out, q2'.out] at k7
        clear d0 d1 hb5
        obtain ⟨d0, d1, _, _⟩ := blk2_cells hx5.out
        go_wp2_with fail
        refine (k7.out).mono ?_
        rintro e W6 ⟨rfl, hb6⟩
        have hB6 := Lib.hid (hB5.out.trans (hb6.mono hB5.out.size))
        have hx6 := Lib.hid (hx5.out.later hb6)
        have k8 := Lib.hid (Rank_any r1.form (bs r1.data) ((m : Int) - 1) _ hlen (hT.below hB6.out hT.lt))
        rw [hss'.out, q3'.out] at k8
        clear d0 d1 hb6
        obtain ⟨d0, d1, _, _⟩ := blk2_cells hx6.out
        go_wp2_with fail
        refine (k8.out).mono ?_
        rintro e W7 ⟨rfl, hb7⟩
        have hB7 := Lib.hid (hB6.out.trans (hb7.mono hB6.out.size))
        clear hb7
        go_wp2
        exact bodyPost_ret (v := .bool true) (by simp [results, Tryd.results9, go_sem]) rfl ⟨rfl, hB7.out⟩
end Go.Proofs.YtiannfegjbbpfaaDoor
