/-
  ContRanks: the walk.
-/
import Derived.Test.YtiannfegjbbpfaaDoorHeld
namespace Go.Proofs.YtiannfegjbbpfaaDoor
open Go.RowKit Tess

set_option maxRecDepth 100000 in
set_option maxHeartbeats 8000000 in
theorem contRanks_walk {zs : List Int} {sv : Value} {w : World} (h : Ints w.heap.size w sv zs) (hcap : ∀ p n c, sv = .slice p n c → n ≤ c) (hT : Tab w) :
    Calls Tryd.prog 5 #[sv] w fun e W' => e = .returned (.bool true) ∧ Below w.heap.size w W' := by
  have k1 := Lib.hid (shown_any w hT)
  have hh := Lib.hid h
  have hcp := Lib.hid hcap
  clear h hcap
  go_enter Tryd.func5, Tryd.ntmps5
  go_wp2_with fail
  refine (k1.out).mono ?_
  rintro e W1 ⟨rfl, hB1⟩
  have k2 := Lib.hid (few_any (hh.out.below hB1 (Nat.le_refl _)) hcp.out)
  go_wp2_with fail
  refine (k2.out).mono ?_
  rintro e W1' ⟨⟨v, rfl, hv⟩, rfl⟩
  have k3 := Lib.hid (make_any (hv.more hB1.size) (by rw [List.length_take]; omega) (hT.below hB1 hT.lt))
  have hlen := mkRes_len (zs.take 300)
  have hgood := Lib.hid (@ofRes_mk (zs.take 300))
  generalize mkRes (zs.take 300) = r at k3 hlen hgood
  have hBB := Lib.hid hB1
  clear hv k1 k2 hh hcp hB1
  go_wp2_with fail
  refine (k3.out).mono ?_
  rintro e W2 ⟨rfl, hb2⟩
  have hB2 := Lib.hid (below_box hBB.out hBB.out.size hb2 (.cells #[.int .i64 r.1.form, .string (bs r.1.data)] 25))
  have hx1' := Lib.hid (CBox.new W2 r.1.form (bs r.1.data))
  clear hb2 k3 hBB
  obtain ⟨r1, r2⟩ := r
  simp only at hB2 hlen hx1'
  simp only [cv]
  cases h0 : (r2 != 0) with
  | true =>
    clear hgood
    go_wp2
    exact bodyPost_ret (v := .bool true) (by simp [results, Tryd.results5, go_sem]) rfl ⟨rfl, hB2.out⟩
  | false =>
    have hr0 : r2 = 0 := by simpa using h0
    subst hr0
    obtain ⟨s, hs, _, hso, _, _⟩ := hgood.out rfl
    simp only at hso
    have e1 : ∀ n, rk r1.form (bs r1.data) n = (rank s n : Int) := fun n => by unfold rk; rw [hso]
    have e2 : ∀ n, hi r1.form (bs r1.data) n = hasI s n := fun n => by unfold hi; rw [hso]
    have e3 : ci r1.form (bs r1.data) = (count s : Int) := by unfold ci; rw [hso]
    have g1 : rk r1.form (bs r1.data) 255 = ci r1.form (bs r1.data) := by rw [e1, e3, rank_all s (by omega)]
    have g2 : rk r1.form (bs r1.data) (-1) = 0 := by rw [e1, rank_neg s (by omega)]; rfl
    have e1' := Lib.hid e1
    have e2' := Lib.hid e2
    have g1' := Lib.hid g1
    have g2' := Lib.hid g2
    clear hgood h0 e1 e2 e3 g1 g2 hso
    generalize bs r1.data = X at hlen hB2 hx1' e1' e2' g1' g2' ⊢
    generalize r1.form = f at hlen hB2 hx1' e1' e2' g1' g2' ⊢
    have hTl := Lib.hid hT
    clear hT
    go_wp2
    go_loopw [6] (fun i wr => ∃ k : Nat, k ≤ 256 ∧ i = .int .i64 k ∧ Hid (Below w.heap.size w wr) ∧ Hid (CBox wr W2.heap.size f X))
      (fun i _ => 256 - (intOf i).toNat)
    case atStart => exact ⟨0, by omega, rfl, hB2, hx1'⟩
    case round =>
      obtain ⟨k, hk, rfl, hM, hC⟩ := hrel
      clear hB2 hx1'
      obtain ⟨c0, c1, _, _⟩ := blk2_cells hC.out
      by_cases hlt : k < 256
      · have hkd : decide ((k : Int) < 256) = true := by simp; omega
        obtain ⟨A, hA⟩ : ∃ A, rk f X k = A := ⟨_, rfl⟩
        obtain ⟨B, hB⟩ : ∃ B, rk f X ((k : Int) - 1) = B := ⟨_, rfl⟩
        have hjump : Hid (A = B + (if s.testBit k = true then 1 else 0)) := by
          show _ = _
          rw [← hA, ← hB, e1'.out, e1'.out]; exact rank_jump hlt
        have hhas : Hid (hi f X k = s.testBit k) := by show _ = _; rw [e2'.out]; exact hasI_nat hlt
        have hA2 := rk_range f X k
        have hB2 := rk_range f X ((k : Int) - 1)
        rw [hA] at hA2
        rw [hB] at hB2
        have hw1 : IntKind.i64.wrap ((k : Int) - 1) = (k : Int) - 1 := IntWalk.i64_in _ (by omega)
        cases hbit : s.testBit k with
        | true =>
          have hw2 : IntKind.i64.wrap (A - B) = 1 := by
            have := hjump.out; rw [hbit] at this; simp at this
            rw [IntWalk.i64_in _ (by omega)]; omega
          have hht : hi f X k = true := by rw [hhas.out]; exact hbit
          clear hjump hhas hbit hA2 hB2
          go_wp2
          go_region_held3 (fun W' => Hid (Below w.heap.size w W') ∧ Hid (CBox W' W2.heap.size f X) ∧ W'.cell? ⟨W2.heap.size, 0, none⟩ = some (.int .i64 f) ∧ W'.cell? ⟨W2.heap.size, 1, none⟩ = some (.string X))
            (first | exact ⟨Lib.hid (Below.drew hM.out), hC, c0, c1⟩ | assumption)
            (first
              | (go_at_call 16
                 refine (Rank_rk _ _ _ _ (by assumption) (hTl.out.below (Hid.out (And.left (by assumption))) hTl.out.lt)).mono ?_
                 rintro e W5 ⟨rfl, hb5⟩
                 obtain ⟨s1, s2, _⟩ : _ ∧ _ ∧ _ := by assumption
                 have hnew := keep1 hb5 s1 s2))
          obtain ⟨hz1, hz2, _, _⟩ := hnew
          have k7 := Lib.hid (Has_hi f X k _ hlen (hTl.out.below hz1.out hTl.out.lt))
          rw [hht] at k7
          go_wp2_with fail
          refine (k7.out).mono ?_
          rintro e W7 ⟨rfl, hb7⟩
          have hz3 := Lib.hid (hz1.out.trans (hb7.mono hz1.out.size))
          have hz4 := Lib.hid (hz2.out.later hb7)
          clear hb7
          go_wp2
          go_roundw
          case rel => exact ⟨k + 1, by omega, by go_num, hz3, hz4⟩
          case measure => simp [intOf]; omega
        | false =>
          have hw2 : IntKind.i64.wrap (A - B) = 0 := by
            have := hjump.out; rw [hbit] at this; simp at this
            rw [IntWalk.i64_in _ (by omega)]; omega
          have hht : hi f X k = false := by rw [hhas.out]; exact hbit
          clear hjump hhas hbit hA2 hB2
          go_wp2
          go_region_held3 (fun W' => Hid (Below w.heap.size w W') ∧ Hid (CBox W' W2.heap.size f X) ∧ W'.cell? ⟨W2.heap.size, 0, none⟩ = some (.int .i64 f) ∧ W'.cell? ⟨W2.heap.size, 1, none⟩ = some (.string X))
            (first | exact ⟨Lib.hid (Below.drew hM.out), hC, c0, c1⟩ | assumption)
            (first
              | (go_at_call 16
                 refine (Rank_rk _ _ _ _ (by assumption) (hTl.out.below (Hid.out (And.left (by assumption))) hTl.out.lt)).mono ?_
                 rintro e W5 ⟨rfl, hb5⟩
                 obtain ⟨s1, s2, _⟩ : _ ∧ _ ∧ _ := by assumption
                 have hnew := keep1 hb5 s1 s2))
          obtain ⟨hz1, hz2, _, _⟩ := hnew
          have k7 := Lib.hid (Has_hi f X k _ hlen (hTl.out.below hz1.out hTl.out.lt))
          rw [hht] at k7
          go_wp2_with fail
          refine (k7.out).mono ?_
          rintro e W7 ⟨rfl, hb7⟩
          have hz3 := Lib.hid (hz1.out.trans (hb7.mono hz1.out.size))
          have hz4 := Lib.hid (hz2.out.later hb7)
          clear hb7
          go_wp2
          go_roundw
          case rel => exact ⟨k + 1, by omega, by go_num, hz3, hz4⟩
          case measure => simp [intOf]; omega
      · have hkd : decide ((k : Int) < 256) = false := by simp; omega
        go_wp2
        clear e1' e2'
        have g1 := g1'.out
        have g2 := g2'.out
        have g3 := ci_range f X
        go_region_held3 (fun W' => Hid (Below w.heap.size w W') ∧ Hid (CBox W' W2.heap.size f X) ∧ W'.cell? ⟨W2.heap.size, 0, none⟩ = some (.int .i64 f) ∧ W'.cell? ⟨W2.heap.size, 1, none⟩ = some (.string X))
            (first | exact ⟨Lib.hid (Below.drew hM.out), hC, c0, c1⟩ | assumption)
            (first
              | (go_at_call 16
                 refine (Rank_rk _ _ _ _ (by assumption) (hTl.out.below (Hid.out (And.left (by assumption))) hTl.out.lt)).mono ?_
                 rintro e W5 ⟨rfl, hb5⟩
                 obtain ⟨s1, s2, _⟩ : _ ∧ _ ∧ _ := by assumption
                 have hnew := keep1 hb5 s1 s2)
              | (go_at_call 15
                 refine (Count_ci _ _ _ (by assumption) (hTl.out.below (Hid.out (And.left (by assumption))) hTl.out.lt)).mono ?_
                 rintro e W5 ⟨rfl, hb5⟩
                 obtain ⟨s1, s2, _⟩ : _ ∧ _ ∧ _ := by assumption
                 have hnew := keep1 hb5 s1 s2))
        all_goals go_wp2
        all_goals exact bodyPost_ret (v := .bool true) (by simp [results, Tryd.results5, go_sem]) rfl ⟨rfl, Hid.out (And.left (by assumption))⟩
end Go.Proofs.YtiannfegjbbpfaaDoor
