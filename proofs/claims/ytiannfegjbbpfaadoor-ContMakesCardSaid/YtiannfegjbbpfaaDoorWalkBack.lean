/-
  ContBack: the walk.
-/
import Derived.Test.YtiannfegjbbpfaaDoorInts
namespace Go.Proofs.YtiannfegjbbpfaaDoor
open Go.RowKit Tess

/-- Two containers' boxes are kept. -/
theorem keep2 {w W W' : World} {b2 b3 : Nat} {f2 f3 : Int} {D2 D3 : ByteArray} (hb : Below W.heap.size W W')
    (s1 : Hid (Below w.heap.size w W)) (s2 : Hid (CBox W b2 f2 D2)) (s3 : Hid (CBox W b3 f3 D3)) :
    Hid (Below w.heap.size w W') ∧ Hid (CBox W' b2 f2 D2) ∧ Hid (CBox W' b3 f3 D3) ∧ W'.cell? ⟨b2, 0, none⟩ = some (.int .i64 f2) ∧ W'.cell? ⟨b2, 1, none⟩ = some (.string D2) ∧
      W'.cell? ⟨b3, 0, none⟩ = some (.int .i64 f3) ∧ W'.cell? ⟨b3, 1, none⟩ = some (.string D3) := by
  have h2 := s2.out.later hb
  have c2 := blk2_cells h2
  have h3 := s3.out.later hb
  have c3 := blk2_cells h3
  exact ⟨Lib.hid (s1.out.trans (hb.mono s1.out.size)), Lib.hid h2, Lib.hid h3, c2.1, c2.2.1, c3.1, c3.2.1⟩
theorem any_step {zs : List Int} {n : Int} {k : Nat} (h : k < zs.length) : (zs.take (k + 1)).any (· == n) = ((zs.take k).any (· == n) || (zs[k]?.getD 0 == n)) := by
  rw [List.take_succ_eq_append_getElem h, List.any_append]; simp [h]

set_option maxRecDepth 100000 in
set_option maxHeartbeats 16000000 in
theorem contBack_walk {zs : List Int} {sv : Value} (form n : Int) {w : World} (h : Ints w.heap.size w sv zs) (hcap : ∀ p n c, sv = .slice p n c → n ≤ c) (hT : Tab w) :
    Calls Tryd.prog 8 #[sv, .int .i64 form, .int .i64 n] w fun e W' => e = .returned (.bool true) ∧ Below w.heap.size w W' := by
  have k1 := Lib.hid (shown_any w hT)
  have hh := Lib.hid h
  have hcp := Lib.hid hcap
  clear h hcap
  go_enter Tryd.func8, Tryd.ntmps8
  go_wp2_with fail
  refine (k1.out).mono ?_
  rintro e W1 ⟨rfl, hB1⟩
  have k2 := Lib.hid (few_any (hh.out.below hB1 (Nat.le_refl _)) hcp.out)
  go_wp2_with fail
  refine (k2.out).mono ?_
  rintro e W1' ⟨⟨v, rfl, hv⟩, rfl⟩
  obtain ⟨l, hl⟩ : ∃ l, zs.take 300 = l := ⟨_, rfl⟩
  have hll : l.length ≤ 300 := by rw [← hl, List.length_take]; omega
  rw [hl] at hv
  have k3 := Lib.hid (make_any (hv.more hB1.size) (by omega) (hT.below hB1 hT.lt))
  have hHI : HI W1' v l := Lib.hid (hv.more hB1.size)
  have hgood := Lib.hid (fun h => @back_of l h n)
  have hbad := Lib.hid (@back_bad l)
  generalize mkRes l = r at k3 hgood hbad
  have hBB := Lib.hid hB1
  clear hv k1 k2 hh hcp hB1 hl
  go_wp2_with fail
  refine (k3.out).mono ?_
  rintro e W2 ⟨rfl, hb2⟩
  have hB2 := Lib.hid (below_box hBB.out hBB.out.size hb2 (.cells #[.int .i64 r.1.form, .string (bs r.1.data)] 25))
  have hx2 := Lib.hid (CBox.new W2 r.1.form (bs r.1.data))
  have hH2 := (hHI.later hb2).later ((Below.refl _ W2).alloc (Nat.le_refl _) (.cells #[.int .i64 r.1.form, .string (bs r.1.data)] 25))
  obtain ⟨p, cap, rfl, hcell⟩ := (Hid.out hH2).slice
  have hcl := Lib.hid hcell
  clear hb2 k3 hBB hHI hH2 hcell
  obtain ⟨c, r2⟩ := r
  simp only at hB2 hx2 hgood hbad hcl
  obtain ⟨d0, d1, -, -⟩ := blk2_cells hx2.out
  have hTl := Lib.hid hT
  clear hT
  simp only [cv]
  cases h0 : (r2 != 0) with
  | true =>
    obtain ⟨hr0, hlen⟩ := hbad.out (by simpa using h0)
    have k4 := Lib.hid (Right_any c.form (bs c.data) _ hlen (hTl.out.below hB2.out hTl.out.lt))
    rw [hr0] at k4
    clear hgood hbad hr0 hcl
    go_wp2_with fail
    refine (k4.out).mono ?_
    rintro e W3 ⟨rfl, hb3⟩
    have hB3 := Lib.hid (hB2.out.trans (hb3.mono hB2.out.size))
    clear hb3
    go_wp2
    exact bodyPost_ret (v := .bool true) (by simp [results, Tryd.results8, go_sem]) rfl ⟨rfl, hB3.out⟩
  | false =>
    have hr0 : r2 = 0 := by simpa using h0
    subst hr0
    obtain ⟨L, hbk, htn⟩ := hgood.out rfl
    have hBk := Lib.hid hbk
    have hTn := Lib.hid htn
    clear hgood hbad h0 hbk htn d0 d1
    go_wp2
    go_loopw [10, 11] (fun s i wr => ∃ k : Nat, k ≤ l.length ∧ i = .int .i64 k ∧ s = .bool ((l.take k).any (· == n)) ∧ wr = W2.alloc (.cells #[.int .i64 c.form, .string (bs c.data)] 25))
      (fun _ i _ => l.length - (intOf i).toNat)
    case atStart => exact ⟨0, Nat.zero_le _, rfl, rfl, rfl⟩
    case round =>
      obtain ⟨k, hk, rfl, rfl, rfl⟩ := hrel
      by_cases hlt : k < l.length
      · obtain ⟨b1, o1, rfl, _, hx1⟩ := hcl.out k hlt
        have hkd : decide (k < l.length) = true := by simpa using hlt
        have hk0 : (0 : Int) ≤ (k : Int) := by omega
        have hk1 : (k : Int) < (l.length : Int) := by omega
        have hst := Lib.hid (any_step (n := n) hlt)
        cases hs : (l.take k).any (· == n) with
        | true =>
          rw [hs, Bool.true_or] at hst
          clear hx1
          go_wp2
          go_roundw
          case rel => exact ⟨k + 1, by omega, by go_num, by rw [hst.out], trivial⟩
          case measure => simp [intOf]; omega
        | false =>
          rw [hs, Bool.false_or] at hst
          generalize l[k]?.getD 0 = z at hx1 hst
          go_wp2
          go_roundw
          case rel => exact ⟨k + 1, by omega, by go_num, by rw [hst.out], trivial⟩
          case measure => simp [intOf]; omega
      · have hkd : decide (k < l.length) = false := by simpa using hlt
        have hkl : l.take k = l := List.take_of_length_le (by omega)
        rw [hkl]
        clear hkl hcl
        generalize l.any (· == n) = isb at hBk hTn ⊢
        obtain ⟨d0, d1, -, -⟩ := blk2_cells hx2.out
        have k4 := Lib.hid (Values_hv c.form (bs c.data) _ hBk.out.len (hTl.out.below hB2.out hTl.out.lt))
        rw [hBk.out.vals] at k4
        have hLl : L.length ≤ 1000000 := by rw [← hBk.out.vals]; exact numsI_len _ _
        go_wp2_with fail
        refine (k4.out).mono ?_
        rintro e W3 ⟨v3, rfl, hv3, hb3⟩
        have hB3 := Lib.hid (hB2.out.trans (hb3.mono hB2.out.size))
        have hx3 := Lib.hid (hx2.out.later hb3)
        have k5 := Lib.hid (make_hv hv3 hLl (hTl.out.below hB3.out hTl.out.lt))
        rw [hBk.out.back] at k5
        clear d0 d1 hb3 k4 hv3 hB2 hx2
        go_wp2_with fail
        refine (k5.out).mono ?_
        rintro e W4 ⟨rfl, hb4⟩
        have hB4 := Lib.hid (below_box hB3.out hB3.out.size hb4 (.cells #[.int .i64 c.form, .string (bs c.data)] 25))
        have hx4 := Lib.hid ((hx3.out.later hb4).alloc (.cells #[.int .i64 c.form, .string (bs c.data)] 25))
        have hy4 := Lib.hid (CBox.new W4 c.form (bs c.data))
        obtain ⟨d0, d1, -, -⟩ := blk2_cells hx4.out
        have k6 := Lib.hid (Has_hi c.form (bs c.data) n _ hBk.out.len (hTl.out.below hB4.out hTl.out.lt))
        rw [hBk.out.has] at k6
        clear hb4 k5 hB3 hx3
        simp only [cv]
        go_wp2_with fail
        refine (k6.out).mono ?_
        rintro e W5 ⟨rfl, hb5⟩
        have hB5 := Lib.hid (hB4.out.trans (hb5.mono hB4.out.size))
        have hx5 := Lib.hid (hx4.out.later hb5)
        have hy5 := Lib.hid (hy4.out.later hb5)
        clear d0 d1 hb5 k6 hB4 hx4 hy4
        obtain ⟨d0, d1, -, -⟩ := blk2_cells hx5.out
        obtain ⟨g0, g1, -, -⟩ := blk2_cells hy5.out
        have k7 := Lib.hid (Right_any c.form (bs c.data) _ hBk.out.len (hTl.out.below hB5.out hTl.out.lt))
        rw [hBk.out.right] at k7
        have hne := cont_neq c.form c.form (bs c.data) (bs c.data)
        rw [sameC_refl] at hne
        have hgd := cont_guard
        go_wp2_with fail
        refine (k7.out).mono ?_
        rintro e W6 ⟨rfl, hb6⟩
        have hB6 := Lib.hid (hB5.out.trans (hb6.mono hB5.out.size))
        have hx6 := Lib.hid (hx5.out.later hb6)
        clear d0 d1 g0 g1 hb6 k7 hB5 hx5 hy5 hne
        cases h1 : decide (form < 1) with
        | true =>
          go_wp2
          exact bodyPost_ret (v := .bool true) (by simp [results, Tryd.results8, go_sem]) rfl ⟨rfl, hB6.out⟩
        | false =>
          cases h2 : decide (3 < form) with
          | true =>
            go_wp2
            exact bodyPost_ret (v := .bool true) (by simp [results, Tryd.results8, go_sem]) rfl ⟨rfl, hB6.out⟩
          | false =>
            obtain ⟨x, hx⟩ := hTn.out form (by simp at h1; omega) (by simp at h2; omega)
            have hX := Lib.hid hx
            have k8 := Lib.hid (As_any c.form (bs c.data) form _ hBk.out.len (hTl.out.below hB6.out hTl.out.lt))
            rw [hX.out.is] at k8
            obtain ⟨d0, d1, -, -⟩ := blk2_cells hx6.out
            clear hTn hx
            go_wp2_with fail
            refine (k8.out).mono ?_
            rintro e W7 ⟨rfl, hb7⟩
            have hB7 := Lib.hid (below_box hB6.out hB6.out.size hb7 (.cells #[.int .i64 form, .string (bs x)] 25))
            have hx7 := Lib.hid ((hx6.out.later hb7).alloc (.cells #[.int .i64 form, .string (bs x)] 25))
            have hy7 := Lib.hid (CBox.new W7 form (bs x))
            clear d0 d1 hb7 k8 hB6 hx6
            obtain ⟨d0, d1, -, -⟩ := blk2_cells hx7.out
            obtain ⟨g0, g1, -, -⟩ := blk2_cells hy7.out
            have hlc := hBk.out.len
            have hlx := hX.out.len
            have e1 := hX.out.has
            have e2 := hX.out.count
            have e3 := hX.out.right
            have e4 := hX.out.vals
            have e5 := hBk.out.vals
            have e6 : decide ((bs c.data).size ≤ (bs x).size) = true := by simpa using hX.out.size
            have e7 : decide (((bs c.data).size : Int) ≤ ((bs x).size : Int)) = true := by simpa using hX.out.size
            have e4' := Lib.hid e4
            have e5' := Lib.hid e5
            clear hBk hX h1 h2 e4 e5
            simp only [cv]
            go_wp2
            go_region_held3 (fun W' => Hid (Below w.heap.size w W') ∧ Hid (CBox W' W2.heap.size c.form (bs c.data)) ∧ Hid (CBox W' W7.heap.size form (bs x)) ∧ W'.cell? ⟨W2.heap.size, 0, none⟩ = some (.int .i64 c.form) ∧ W'.cell? ⟨W2.heap.size, 1, none⟩ = some (.string (bs c.data)) ∧
              W'.cell? ⟨W7.heap.size, 0, none⟩ = some (.int .i64 form) ∧ W'.cell? ⟨W7.heap.size, 1, none⟩ = some (.string (bs x)))
              (first | exact ⟨Lib.hid (Below.drew hB7.out), hx7, hy7, d0, d1, g0, g1⟩ | assumption)
              (first
                | (go_at_call 24
                   refine (Right_any _ _ _ (by assumption) (hTl.out.below (Hid.out (And.left (by assumption))) hTl.out.lt)).mono ?_
                   rintro e Wn ⟨rfl, hbn⟩
                   obtain ⟨s1, s2, s3, _⟩ : _ ∧ _ ∧ _ ∧ _ := by assumption
                   have hnew := keep2 hbn s1 s2 s3)
                | (go_at_call 15
                   refine (Count_ci _ _ _ (by assumption) (hTl.out.below (Hid.out (And.left (by assumption))) hTl.out.lt)).mono ?_
                   rintro e Wn ⟨rfl, hbn⟩
                   obtain ⟨s1, s2, s3, _⟩ : _ ∧ _ ∧ _ ∧ _ := by assumption
                   have hnew := keep2 hbn s1 s2 s3)
                | (go_at_call 17
                   refine (Has_hi _ _ _ _ (by assumption) (hTl.out.below (Hid.out (And.left (by assumption))) hTl.out.lt)).mono ?_
                   rintro e Wn ⟨rfl, hbn⟩
                   obtain ⟨s1, s2, s3, _⟩ : _ ∧ _ ∧ _ ∧ _ := by assumption
                   have hnew := keep2 hbn s1 s2 s3)
                | (go_at_call 26
                   refine (ints_hv (by assumption) (by assumption) hLl).mono ?_
                   rintro e Wn ⟨rfl, hbn⟩
                   obtain ⟨s1, s2, s3, _⟩ : _ ∧ _ ∧ _ ∧ _ := by assumption
                   have hnew := keep2 hbn s1 s2 s3)
                | (go_at_call 25
                   refine (Values_hv _ _ _ (by assumption) (hTl.out.below (Hid.out (And.left (by assumption))) hTl.out.lt)).mono ?_
                   rintro e Wn ⟨vn, rfl, hvn, hbn⟩
                   obtain ⟨s1, s2, s3, _⟩ : _ ∧ _ ∧ _ ∧ _ := by assumption
                   first | rw [e4'.out] at hvn | rw [e5'.out] at hvn
                   try (have hold := HI.later (by assumption) hbn)
                   have hnew := keep2 hbn s1 s2 s3))
            all_goals go_wp2
            all_goals exact bodyPost_ret (v := .bool true) (by simp [results, Tryd.results8, go_sem]) rfl ⟨rfl, Hid.out (And.left (by assumption))⟩
end Go.Proofs.YtiannfegjbbpfaaDoor
