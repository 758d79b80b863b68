/-
  Rb6, RbC: several texts in one (merge.py).
-/
import Derived.Test.YtnigpmbpipmgfaaDoorRbY
import Derived.Test.YtnigpmbpipmgfaaDoorBsX
import Derived.Test.YtnigpmbpipmgfaaDoorRb2

/-
  The reference's holds, Compare, Between. (Printed by genrb6.py.)
-/
namespace Go.Proofs.YtnigpmbpipmgfaaDoor
open Go.RowKit Tess

set_option maxHeartbeats 4000000 in
theorem holds_any (a op n : Int) (w : World) : Calls Tryd.prog 71 #[.int .i64 a, .int .i64 op, .int .i64 n] w fun e W' => e = .returned (.bool (holdsB a op n)) ∧ w = W' := by
  by_cases h1 : op = 1
  · subst h1
    have hfin : Hid (holdsB a 1 n = (a == n)) := Lib.hid rfl
    go_enter Tryd.func71, Tryd.ntmps71
    go_wp2
    exact bodyPost_ret (v := .bool (a == n)) (by simp [results, Tryd.results71, go_sem]) rfl ⟨by rw [hfin.out], rfl⟩
  by_cases h2 : op = 2
  · subst h2
    have hfin : Hid (holdsB a 2 n = (a != n)) := Lib.hid rfl
    go_enter Tryd.func71, Tryd.ntmps71
    go_wp2
    exact bodyPost_ret (v := .bool (a != n)) (by simp [results, Tryd.results71, go_sem]) rfl ⟨by rw [hfin.out], rfl⟩
  by_cases h3 : op = 3
  · subst h3
    have hfin : Hid (holdsB a 3 n = (decide (a < n))) := Lib.hid rfl
    go_enter Tryd.func71, Tryd.ntmps71
    go_wp2
    exact bodyPost_ret (v := .bool (decide (a < n))) (by simp [results, Tryd.results71, go_sem]) rfl ⟨by rw [hfin.out], rfl⟩
  by_cases h4 : op = 4
  · subst h4
    have hfin : Hid (holdsB a 4 n = (decide (a ≤ n))) := Lib.hid rfl
    go_enter Tryd.func71, Tryd.ntmps71
    go_wp2
    exact bodyPost_ret (v := .bool (decide (a ≤ n))) (by simp [results, Tryd.results71, go_sem]) rfl ⟨by rw [hfin.out], rfl⟩
  by_cases h5 : op = 5
  · subst h5
    have hfin : Hid (holdsB a 5 n = (decide (n < a))) := Lib.hid rfl
    go_enter Tryd.func71, Tryd.ntmps71
    go_wp2
    exact bodyPost_ret (v := .bool (decide (n < a))) (by simp [results, Tryd.results71, go_sem]) rfl ⟨by rw [hfin.out], rfl⟩
  have e1 : (op == 1) = false := beq_false_of_ne h1
  have e2 : (op == 2) = false := beq_false_of_ne h2
  have e3 : (op == 3) = false := beq_false_of_ne h3
  have e4 : (op == 4) = false := beq_false_of_ne h4
  have e5 : (op == 5) = false := beq_false_of_ne h5
  have hfin : Hid (holdsB a op n = decide (n ≤ a)) := Lib.hid (by unfold holdsB; rw [if_neg h1, if_neg h2, if_neg h3, if_neg h4, if_neg h5])
  go_enter Tryd.func71, Tryd.ntmps71
  go_wp2
  exact bodyPost_ret (v := .bool (decide (n ≤ a))) (by simp [results, Tryd.results71, go_sem]) rfl ⟨by rw [hfin.out], rfl⟩
/-- The rows below k that P takes. -/
def flt (P : Nat → Bool) (k : Nat) : List Nat := (List.range k).filter P
theorem flt_yes {P : Nat → Bool} {k : Nat} (h : P k = true) : flt P (k + 1) = flt P k ++ [k] := by
  unfold flt; rw [List.range_succ, List.filter_append]; simp [h]
theorem flt_no {P : Nat → Bool} {k : Nat} (h : P k = false) : flt P (k + 1) = flt P k := by
  unfold flt; rw [List.range_succ, List.filter_append]; simp [h]
theorem flt_len (P : Nat → Bool) (k : Nat) : (flt P k).length ≤ k := by
  have := List.length_filter_le P (List.range k)
  rw [List.length_range] at this; exact this
theorem flt_congr {P Q : Nat → Bool} {k : Nat} (h : ∀ i, i < k → P i = Q i) : flt P k = flt Q k := List.filter_congr fun i hi => h i (List.mem_range.1 hi)
/-- What Column answers of right slices, its parts named. -/
theorem rcol_named {b : Sl} {vE vB : Value} {w : World} (hE : HC w vE b.ex) (hB : HR w vB b.bits) (hs : SmallB b) (hri : isRightB b = true) :
    Calls Tryd.prog 57 #[.agg #[.int .i64 b.n, .int .i64 b.least, vE, vB]] w fun e W' => ∃ pl cl ph ch, e = .returned (.tuple #[.slice pl (colK b).length cl, .slice ph (colK b).length ch, .bool true]) ∧ (∀ j, j < (colK b).length → ∃ b' off, pl = some ⟨b', off, none⟩ ∧ b' < W'.heap.size ∧ W'.cell? ⟨b', off + j, none⟩ = some (.int .i64 (vI (colK b) j))) ∧ (∀ j, j < (colK b).length → ∃ b' off, ph = some ⟨b', off, none⟩ ∧ b' < W'.heap.size ∧ W'.cell? ⟨b', off + j, none⟩ = some (.bool ((hasK b)[j]?.getD false))) ∧ Below w.heap.size w W' := by
  have e1 : (hasK b).length = (colK b).length := by rw [len_colK, len_hasK]
  have k1 := rcol_any hE hB hs
  rw [hri] at k1
  refine k1.mono fun e W' h => ?_
  obtain ⟨vl, vh, rfl, hh, hb⟩ := h
  obtain ⟨hi, hbo⟩ := hh rfl
  obtain ⟨pl, cl, rfl, h1⟩ := Ints.slice hi
  obtain ⟨ph, ch, rfl, h2⟩ := hbo
  rw [e1] at h2
  exact ⟨pl, cl, ph, ch, by rw [e1], h1, h2, hb⟩
theorem vI_col {b : Sl} (hl : -9223372036854775808 ≤ b.least ∧ b.least ≤ 9223372036854775807) (hri : isRightB b = true) {r : Nat} (hr : r < (colK b).length) : (hasK b)[r]?.getD false = bitL b.ex r ∧ (bitL b.ex r = true → vI (colK b) r = numB b r) := by
  have hc := (right_iff hl).1 hri
  rw [len_colK] at hr
  have h1 := hc.n1
  refine ⟨get_hasK b hr, fun h => ?_⟩
  rw [vI_colK hc hl r (by omega), if_pos h]

set_option linter.unusedSimpArgs false in
set_option maxRecDepth 100000 in
set_option maxHeartbeats 8000000 in
theorem rcompare_any {b : Sl} {vE vB : Value} (op n : Int) {w : World} (hE : HC w vE b.ex) (hB : HR w vB b.bits) (hs : SmallB b) :
    Calls Tryd.prog 35 #[.agg #[.int .i64 b.n, .int .i64 b.least, vE, vB], .int .i64 op, .int .i64 n] w fun e W' => ∃ v, e = .returned (.tuple #[.agg #[v], .int .i64 (cmpB b op n).2]) ∧ HC W' v (cmpB b op n).1 ∧ Below w.heap.size w W' := by
  obtain ⟨i0, hi, hz0, hz1, hz2⟩ := info_parts info_int
  obtain ⟨pE, cE, rfl, -, -⟩ := Hid.out hE
  obtain ⟨pB, cB, rfl, -, -⟩ := Hid.out hB
  have x1 := (SBox.new w 31 b.n b.least (.slice pE b.ex.length cE) (.slice pB b.bits.length cB)).alloc (.cells #[.slice none 0 0] 28)
  have r1 := RBox.new (w.alloc (.cells #[.int .i64 b.n, .int .i64 b.least, .slice pE b.ex.length cE, .slice pB b.bits.length cB] 31)) (.slice none 0 0)
  simp only [World.size_alloc] at r1
  have hR : Below w.heap.size w ((w.alloc (.cells #[.int .i64 b.n, .int .i64 b.least, .slice pE b.ex.length cE, .slice pB b.bits.length cB] 31)).alloc (.cells #[.slice none 0 0] 28)) := ((Below.refl w.heap.size w).alloc (Nat.le_refl _) _).alloc (by simp) _
  have c0 := x1.c0; have c1 := x1.c1; have c2 := x1.c2; have c3 := x1.c3
  have hR' := Lib.hid hR
  have r1' := Lib.hid r1
  have hl := And.intro hs.lo hs.hi
  have k1 := rcol_any (hE.later hR) (hB.later hR) hs
  have kn := rcol_named (hE.later hR) (hB.later hR) hs
  clear x1 hR hE hB hs r1
  cases hri : isRightB b with
  | false =>
    have hfin := Lib.hid (show cmpB b op n = ([], 80) from cmpB_no (.inr hri))
    rw [hri] at k1
    have k1' := Lib.hid k1
    clear k1 kn hri hl
    go_enter Tryd.func35, Tryd.ntmps35
    go_wp2_with (go_at_call 57; refine (k1'.out).mono ?_; rintro e W2 ⟨vl, vh, rfl, -, hb⟩; have r2' := Lib.hid (r1'.out.later hb); have s2 := r2'.out.cell; have f2 := r2'.out.frozen; clear k1' c0 c1 c2 c3)
    have hrs := (r2'.out.set (.slice none 0 0)).cell
    refine bodyPost_ret (v := .tuple #[.agg #[.slice none 0 0], .int .i64 80]) ?_ rfl ⟨_, by rw [hfin.out], by rw [hfin.out]; exact HC.nil _ _ _, (hR'.out.trans (hb.mono hR'.out.size)).setCell (p := ⟨w.heap.size + 1, 0, none⟩) (by dsimp only; omega) _⟩
    simp [results, Tryd.results35, go_sem, hrs]
  | true =>
    rw [hri] at k1
    by_cases ho : op < 1
    · have d1 : decide (op < 1) = true := decide_eq_true ho
      have hfin := Lib.hid (show cmpB b op n = ([], 80) from cmpB_no (.inl (by omega)))
      have k1' := Lib.hid k1
      clear k1 kn hri hl ho
      go_enter Tryd.func35, Tryd.ntmps35
      go_wp2_with (go_at_call 57; refine (k1'.out).mono ?_; rintro e W2 ⟨vl, vh, rfl, -, hb⟩; have r2' := Lib.hid (r1'.out.later hb); have s2 := r2'.out.cell; have f2 := r2'.out.frozen; clear k1' c0 c1 c2 c3)
      have hrs := (r2'.out.set (.slice none 0 0)).cell
      refine bodyPost_ret (v := .tuple #[.agg #[.slice none 0 0], .int .i64 80]) ?_ rfl ⟨_, by rw [hfin.out], by rw [hfin.out]; exact HC.nil _ _ _, (hR'.out.trans (hb.mono hR'.out.size)).setCell (p := ⟨w.heap.size + 1, 0, none⟩) (by dsimp only; omega) _⟩
      simp [results, Tryd.results35, go_sem, hrs]
    have ho1 := ho
    clear ho
    by_cases ho : 6 < op
    · have d1 : decide (op < 1) = false := decide_eq_false (by omega)
      have d2 : decide (6 < op) = true := decide_eq_true ho
      have hfin := Lib.hid (show cmpB b op n = ([], 80) from cmpB_no (.inl (by omega)))
      have k1' := Lib.hid k1
      clear k1 kn hri hl ho
      go_enter Tryd.func35, Tryd.ntmps35
      go_wp2_with (go_at_call 57; refine (k1'.out).mono ?_; rintro e W2 ⟨vl, vh, rfl, -, hb⟩; have r2' := Lib.hid (r1'.out.later hb); have s2 := r2'.out.cell; have f2 := r2'.out.frozen; clear k1' c0 c1 c2 c3)
      have hrs := (r2'.out.set (.slice none 0 0)).cell
      refine bodyPost_ret (v := .tuple #[.agg #[.slice none 0 0], .int .i64 80]) ?_ rfl ⟨_, by rw [hfin.out], by rw [hfin.out]; exact HC.nil _ _ _, (hR'.out.trans (hb.mono hR'.out.size)).setCell (p := ⟨w.heap.size + 1, 0, none⟩) (by dsimp only; omega) _⟩
      simp [results, Tryd.results35, go_sem, hrs]
    have d1 : decide (op < 1) = false := decide_eq_false ho1
    have d2 : decide (6 < op) = false := decide_eq_false ho
    have hic := (right_iff hl).1 hri
    have hM1 : (colK b).length ≤ 1000 := by rw [len_colK]; have := hic.n1; omega
    have k1' := Lib.hid (kn hri)
    have hfin : Hid (mkN (flt (fun r => (hasK b)[r]?.getD false && holdsB (vI (colK b) r) op n) (colK b).length) = (cmpB b op n).1) := by
      show mkN (List.filter _ (List.range (colK b).length)) = _
      rw [cmpB_yes ⟨by omega, by omega⟩ hri, ← find_ref hic op n, ← len_colK]
      refine congrArg mkN (List.filter_congr fun r hr => ?_)
      obtain ⟨g1, g2⟩ := vI_col hl hri (List.mem_range.1 hr)
      show ((hasK b)[r]?.getD false && holdsB (vI (colK b) r) op n) = _
      rw [g1]
      cases hb : bitL b.ex r
      · rfl
      · rw [g2 hb]
    have herr : Hid ((mkL ((flt (fun r => (hasK b)[r]?.getD false && holdsB (vI (colK b) r) op n) (colK b).length).map Int.ofNat)).2 = 0) := by
      show _ = _
      rw [mkL_good (good_nat fun x hx => by have := List.mem_range.1 (List.mem_filter.1 hx).1; omega)]
    have hcode : Hid ((cmpB b op n).2 = 0) := Lib.hid (by rw [cmpB_yes ⟨by omega, by omega⟩ hri])
    clear k1 kn hri hl hic
    generalize colK b = l at *
    generalize hasK b = hs at *
    obtain ⟨P, hPe⟩ : ∃ P : Nat → Bool, P = fun r => hs[r]?.getD false && holdsB (vI l r) op n := ⟨_, rfl⟩
    rw [← hPe] at hfin herr
    have hP2 := Lib.hid (fun r => show P r = (hs[r]?.getD false && holdsB (vI l r) op n) by rw [hPe])
    clear hPe
    go_enter Tryd.func35, Tryd.ntmps35
    go_wp2_with (go_at_call 57; refine (k1'.out).mono ?_; rintro e W2 ⟨pl, cl, ph, ch, rfl, hcl, hch, hb⟩; have r2' := Lib.hid (r1'.out.later hb); have hB2 := Lib.hid (hR'.out.trans (hb.mono hR'.out.size)); clear k1' c0 c1 c2 c3)
    have hcl' := Lib.hid hcl
    have hch' := Lib.hid hch
    clear hcl hch hb r1' hR'
    go_loopw [11, 12] (fun v i wr => ∃ k : Nat, k ≤ l.length ∧ i = .int .i64 k ∧ Hid (wr.ownsRow W2.heap.size 3 1 v (flt P k).length ((flt P k).map fun n : Nat => .int .i64 (n : Int))) ∧ Hid (Below W2.heap.size W2 wr))
      (fun _ i _ => l.length - (intOf i).toNat)
    case atStart => exact ⟨0, Nat.zero_le _, rfl, World.ownsRow_nil _ _ _ _, Lib.hid (Below.refl _ _)⟩
    case round =>
      obtain ⟨k, hk, rfl, hrow, hB⟩ := hrel
      by_cases hlt : k < l.length
      · have hkd : decide ((k : Int) < (l.length : Int)) = true := decide_eq_true (by omega)
        have hkd2 : decide (k < l.length) = true := decide_eq_true hlt
        have hkl : (k : Int) < (l.length : Int) := by omega
        obtain ⟨b1, o1, rfl, hb1, e1⟩ := hcl'.out k hlt
        obtain ⟨b2, o2, rfl, hb2, e2⟩ := hch'.out k hlt
        have z1 := (hB.out.cell (p := ⟨b1, o1 + k, none⟩) hb1).trans e1
        have z2 := (hB.out.cell (p := ⟨b2, o2 + k, none⟩) hb2).trans e2
        have hPk := hP2.out k
        have hyes := Lib.hid (@flt_yes P k)
        have hno := Lib.hid (@flt_no P k)
        have hil := Lib.hid (flt_len P k)
        have hsz := Lib.hid hB.out.size
        obtain ⟨z, hz⟩ : ∃ z, vI l k = z := ⟨_, rfl⟩
        rw [hz] at z1 hPk
        have hrow' := hrow.out
        obtain ⟨px, cx, rfl⟩ := row_slice hrow.out
        clear e1 e2 hb1 hb2 hz
        generalize hs[k]?.getD false = t at *
        generalize hpkk : P k = pk at *
        clear hpkk
        cases t with
        | false =>
          obtain rfl : pk = false := hPk
          have hst := Lib.hid (hno.out rfl)
          clear hyes hno
          go_wp2
          go_roundw
          case rel => exact ⟨k + 1, by omega, by go_num, by rw [hst.out]; exact hrow, hB⟩
          case measure => simp [intOf]; omega
        | true =>
          have kh := Lib.hid (holds_any z op n wr)
          rw [Bool.true_and] at hPk
          subst hPk
          cases hh : holdsB z op n with
          | true =>
            rw [hh] at kh hyes hno
            have hst := Lib.hid (hyes.out rfl)
            clear hyes hno hh
            go_wp2_with (first | (go_at_call 71; refine (kh.out).mono ?_; rintro e w9 ⟨rfl, hw9⟩; subst hw9) | (at_builtin; refine wpList_append_own _ rfl _ _ 24 rfl W2.heap.size 3 i0 (.int .i64 0) 1 8 Tryd.underlying24 hi hz0 hz1 hz2 rfl (by decide) _ _ _ rfl (hrow'.alloc _) ⟨wr.heap.size, 0, none⟩ 1 1 [.int .i64 (k : Int)] rfl rfl (cell_one_new _ _ _) (ints_one _) (by have := hil.out; unfold maxLen; omega) (by have := hil.out; omega) (by simp; have := hsz.out; omega) ?_; intro v' w1 hown' hgrow _))
            have hne : ∀ g, Value.ownBlock _ = some g → W2.heap.size ≤ g := fun g hg => ((hrow'.lt) g hg).1
            have hBB := Lib.hid ((hB.out.alloc hB.out.size (.cells #[.int .i64 (k : Int)] 3)).grown hgrow (by simp; have := hB.out.size; omega) (fun g hg => hne g hg))
            go_roundw
            case rel => exact ⟨k + 1, by omega, by go_num, by rw [hst.out, List.length_append, List.map_append]; exact hown', hBB⟩
            case measure => simp [intOf]; omega
          | false =>
            rw [hh] at kh hyes hno
            have hst := Lib.hid (hno.out rfl)
            clear hyes hno hh
            go_wp2_with (go_at_call 71; refine (kh.out).mono ?_; rintro e w9 ⟨rfl, hw9⟩; subst hw9)
            go_roundw
            case rel => exact ⟨k + 1, by omega, by go_num, by rw [hst.out]; exact hrow, hB⟩
            case measure => simp [intOf]; omega
      · have hkd : decide ((k : Int) < (l.length : Int)) = false := decide_eq_false (by omega)
        have hkd2 : decide (k < l.length) = false := decide_eq_false hlt
        obtain rfl : k = l.length := by omega
        have hin := ints_of_row (zs := (flt P l.length).map Int.ofNat) hrow.out (by rw [List.map_map]; rfl)
        have hfl := flt_len P l.length
        have kM := rmake7_any hin (by rw [List.length_map]; omega)
        rw [herr.out] at kM
        have kM' : Hid (Calls Tryd.prog 54 _ wr fun e W' => ∃ v', e = .returned (.tuple #[.agg #[v'], .int .i64 0]) ∧ HC W' v' (mkN (flt P l.length)) ∧ Below wr.heap.size wr W') := Lib.hid kM
        have r3 := Lib.hid (r2'.out.later hB.out)
        have hB3 := Lib.hid (hB2.out.trans (hB.out.mono hB2.out.size))
        clear kM hin hrow hB r2' hB2 hlt hk hfl
        go_wp2_with (go_at_call 54; refine (kM'.out).mono ?_; rintro e W5 ⟨u, rfl, hu, hb5⟩; obtain ⟨pu, cu, rfl, -, -⟩ := Hid.out hu; have r5 := Lib.hid (r3.out.later hb5); have s5 := r5.out.cell; have f5 := r5.out.frozen; clear kM')
        have hrs := (r5.out.set (.slice pu (mkN (flt P l.length)).length cu)).cell
        refine bodyPost_ret (v := .tuple #[.agg #[.slice pu (mkN (flt P l.length)).length cu], .int .i64 0]) ?_ rfl ⟨_, by rw [hcode.out], by rw [← hfin.out]; exact hu.setR r5.out _, (hB3.out.trans (hb5.mono hB3.out.size)).setCell (p := ⟨w.heap.size + 1, 0, none⟩) (by dsimp only; omega) _⟩
        simp [results, Tryd.results35, go_sem, hrs]

set_option linter.unusedSimpArgs false in
set_option maxRecDepth 100000 in
set_option maxHeartbeats 8000000 in
theorem rbetween_any {b : Sl} {vE vB : Value} (x y : Int) {w : World} (hE : HC w vE b.ex) (hB : HR w vB b.bits) (hs : SmallB b) :
    Calls Tryd.prog 37 #[.agg #[.int .i64 b.n, .int .i64 b.least, vE, vB], .int .i64 x, .int .i64 y] w fun e W' => ∃ v, e = .returned (.tuple #[.agg #[v], .int .i64 (btwB b x y).2]) ∧ HC W' v (btwB b x y).1 ∧ Below w.heap.size w W' := by
  obtain ⟨i0, hi, hz0, hz1, hz2⟩ := info_parts info_int
  obtain ⟨pE, cE, rfl, -, -⟩ := Hid.out hE
  obtain ⟨pB, cB, rfl, -, -⟩ := Hid.out hB
  have x1 := (SBox.new w 31 b.n b.least (.slice pE b.ex.length cE) (.slice pB b.bits.length cB)).alloc (.cells #[.slice none 0 0] 28)
  have r1 := RBox.new (w.alloc (.cells #[.int .i64 b.n, .int .i64 b.least, .slice pE b.ex.length cE, .slice pB b.bits.length cB] 31)) (.slice none 0 0)
  simp only [World.size_alloc] at r1
  have hR : Below w.heap.size w ((w.alloc (.cells #[.int .i64 b.n, .int .i64 b.least, .slice pE b.ex.length cE, .slice pB b.bits.length cB] 31)).alloc (.cells #[.slice none 0 0] 28)) := ((Below.refl w.heap.size w).alloc (Nat.le_refl _) _).alloc (by simp) _
  have c0 := x1.c0; have c1 := x1.c1; have c2 := x1.c2; have c3 := x1.c3
  have hR' := Lib.hid hR
  have r1' := Lib.hid r1
  have hl := And.intro hs.lo hs.hi
  have k1 := rcol_any (hE.later hR) (hB.later hR) hs
  have kn := rcol_named (hE.later hR) (hB.later hR) hs
  clear x1 hR hE hB hs r1
  cases hri : isRightB b with
  | false =>
    have hfin := Lib.hid (show btwB b x y = ([], 80) from if_neg (by rw [hri]; decide))
    rw [hri] at k1
    have k1' := Lib.hid k1
    clear k1 kn hri hl
    go_enter Tryd.func37, Tryd.ntmps37
    go_wp2_with (go_at_call 57; refine (k1'.out).mono ?_; rintro e W2 ⟨vl, vh, rfl, -, hb⟩; have r2' := Lib.hid (r1'.out.later hb); have s2 := r2'.out.cell; have f2 := r2'.out.frozen; clear k1' c0 c1 c2 c3)
    have hrs := (r2'.out.set (.slice none 0 0)).cell
    refine bodyPost_ret (v := .tuple #[.agg #[.slice none 0 0], .int .i64 80]) ?_ rfl ⟨_, by rw [hfin.out], by rw [hfin.out]; exact HC.nil _ _ _, (hR'.out.trans (hb.mono hR'.out.size)).setCell (p := ⟨w.heap.size + 1, 0, none⟩) (by dsimp only; omega) _⟩
    simp [results, Tryd.results37, go_sem, hrs]
  | true =>
    rw [hri] at k1
    have hic := (right_iff hl).1 hri
    have hM1 : (colK b).length ≤ 1000 := by rw [len_colK]; have := hic.n1; omega
    have k1' := Lib.hid (kn hri)
    have hfin : Hid (mkN (flt (fun r => (hasK b)[r]?.getD false && (decide (x ≤ vI (colK b) r) && decide (vI (colK b) r ≤ y))) (colK b).length) = (btwB b x y).1) := by
      show mkN (List.filter _ (List.range (colK b).length)) = _
      rw [← btw_ref hic hri x y, ← len_colK]
      refine congrArg mkN (List.filter_congr fun r hr => ?_)
      obtain ⟨g1, g2⟩ := vI_col hl hri (List.mem_range.1 hr)
      show ((hasK b)[r]?.getD false && (decide (x ≤ vI (colK b) r) && decide (vI (colK b) r ≤ y))) = _
      rw [g1]
      cases hb : bitL b.ex r
      · rfl
      · rw [g2 hb]
    have herr : Hid ((mkL ((flt (fun r => (hasK b)[r]?.getD false && (decide (x ≤ vI (colK b) r) && decide (vI (colK b) r ≤ y))) (colK b).length).map Int.ofNat)).2 = 0) := by
      show _ = _
      rw [mkL_good (good_nat fun x hx => by have := List.mem_range.1 (List.mem_filter.1 hx).1; omega)]
    have hcode : Hid ((btwB b x y).2 = 0) := Lib.hid (by rw [show btwB b x y = (andL (wiL b.ex (partB b x).1) (wiL b.ex (partB b y).2.2), 0) from if_pos hri])
    clear k1 kn hri hl hic
    generalize colK b = l at *
    generalize hasK b = hs at *
    obtain ⟨P, hPe⟩ : ∃ P : Nat → Bool, P = fun r => hs[r]?.getD false && (decide (x ≤ vI l r) && decide (vI l r ≤ y)) := ⟨_, rfl⟩
    rw [← hPe] at hfin herr
    have hP2 := Lib.hid (fun r => show P r = (hs[r]?.getD false && (decide (x ≤ vI l r) && decide (vI l r ≤ y))) by rw [hPe])
    clear hPe
    go_enter Tryd.func37, Tryd.ntmps37
    go_wp2_with (go_at_call 57; refine (k1'.out).mono ?_; rintro e W2 ⟨pl, cl, ph, ch, rfl, hcl, hch, hb⟩; have r2' := Lib.hid (r1'.out.later hb); have hB2 := Lib.hid (hR'.out.trans (hb.mono hR'.out.size)); clear k1' c0 c1 c2 c3)
    have hcl' := Lib.hid hcl
    have hch' := Lib.hid hch
    clear hcl hch hb r1' hR'
    go_loopw [11, 12] (fun v i wr => ∃ k : Nat, k ≤ l.length ∧ i = .int .i64 k ∧ Hid (wr.ownsRow W2.heap.size 3 1 v (flt P k).length ((flt P k).map fun n : Nat => .int .i64 (n : Int))) ∧ Hid (Below W2.heap.size W2 wr))
      (fun _ i _ => l.length - (intOf i).toNat)
    case atStart => exact ⟨0, Nat.zero_le _, rfl, World.ownsRow_nil _ _ _ _, Lib.hid (Below.refl _ _)⟩
    case round =>
      obtain ⟨k, hk, rfl, hrow, hB⟩ := hrel
      by_cases hlt : k < l.length
      · have hkd : decide ((k : Int) < (l.length : Int)) = true := decide_eq_true (by omega)
        have hkd2 : decide (k < l.length) = true := decide_eq_true hlt
        have hkl : (k : Int) < (l.length : Int) := by omega
        obtain ⟨b1, o1, rfl, hb1, e1⟩ := hcl'.out k hlt
        obtain ⟨b2, o2, rfl, hb2, e2⟩ := hch'.out k hlt
        have z1 := (hB.out.cell (p := ⟨b1, o1 + k, none⟩) hb1).trans e1
        have z2 := (hB.out.cell (p := ⟨b2, o2 + k, none⟩) hb2).trans e2
        have hPk := hP2.out k
        have hyes := Lib.hid (@flt_yes P k)
        have hno := Lib.hid (@flt_no P k)
        have hil := Lib.hid (flt_len P k)
        have hsz := Lib.hid hB.out.size
        obtain ⟨z, hz⟩ : ∃ z, vI l k = z := ⟨_, rfl⟩
        rw [hz] at z1 hPk
        have hrow' := hrow.out
        obtain ⟨px, cx, rfl⟩ := row_slice hrow.out
        clear e1 e2 hb1 hb2 hz
        generalize hs[k]?.getD false = t at *
        generalize hpkk : P k = pk at *
        clear hpkk
        cases t with
        | false =>
          obtain rfl : pk = false := hPk
          have hst := Lib.hid (hno.out rfl)
          clear hyes hno
          go_wp2
          go_roundw
          case rel => exact ⟨k + 1, by omega, by go_num, by rw [hst.out]; exact hrow, hB⟩
          case measure => simp [intOf]; omega
        | true =>
          rw [Bool.true_and] at hPk
          by_cases h1 : x ≤ z
          · have d1 : decide (x ≤ z) = true := decide_eq_true h1
            by_cases h2 : z ≤ y
            · have d2 : decide (z ≤ y) = true := decide_eq_true h2
              rw [d1, d2] at hPk
              have hst := Lib.hid (hyes.out hPk)
              clear hyes hno hPk
              go_wp2_with (at_builtin; refine wpList_append_own _ rfl _ _ 24 rfl W2.heap.size 3 i0 (.int .i64 0) 1 8 Tryd.underlying24 hi hz0 hz1 hz2 rfl (by decide) _ _ _ rfl (hrow'.alloc _) ⟨wr.heap.size, 0, none⟩ 1 1 [.int .i64 (k : Int)] rfl rfl (cell_one_new _ _ _) (ints_one _) (by have := hil.out; unfold maxLen; omega) (by have := hil.out; omega) (by simp; have := hsz.out; omega) ?_; intro v' w1 hown' hgrow _)
              have hne : ∀ g, Value.ownBlock _ = some g → W2.heap.size ≤ g := fun g hg => ((hrow'.lt) g hg).1
              have hBB := Lib.hid ((hB.out.alloc hB.out.size (.cells #[.int .i64 (k : Int)] 3)).grown hgrow (by simp; have := hB.out.size; omega) (fun g hg => hne g hg))
              go_roundw
              case rel => exact ⟨k + 1, by omega, by go_num, by rw [hst.out, List.length_append, List.map_append]; exact hown', hBB⟩
              case measure => simp [intOf]; omega
            · have d2 : decide (z ≤ y) = false := decide_eq_false h2
              rw [d1, d2] at hPk
              have hst := Lib.hid (hno.out hPk)
              clear hyes hno hPk
              go_wp2
              go_roundw
              case rel => exact ⟨k + 1, by omega, by go_num, by rw [hst.out]; exact hrow, hB⟩
              case measure => simp [intOf]; omega
          · have d1 : decide (x ≤ z) = false := decide_eq_false h1
            rw [d1, Bool.false_and] at hPk
            have hst := Lib.hid (hno.out hPk)
            clear hyes hno hPk
            go_wp2
            go_roundw
            case rel => exact ⟨k + 1, by omega, by go_num, by rw [hst.out]; exact hrow, hB⟩
            case measure => simp [intOf]; omega
      · have hkd : decide ((k : Int) < (l.length : Int)) = false := decide_eq_false (by omega)
        have hkd2 : decide (k < l.length) = false := decide_eq_false hlt
        obtain rfl : k = l.length := by omega
        have hin := ints_of_row (zs := (flt P l.length).map Int.ofNat) hrow.out (by rw [List.map_map]; rfl)
        have hfl := flt_len P l.length
        have kM := rmake7_any hin (by rw [List.length_map]; omega)
        rw [herr.out] at kM
        have kM' : Hid (Calls Tryd.prog 54 _ wr fun e W' => ∃ v', e = .returned (.tuple #[.agg #[v'], .int .i64 0]) ∧ HC W' v' (mkN (flt P l.length)) ∧ Below wr.heap.size wr W') := Lib.hid kM
        have r3 := Lib.hid (r2'.out.later hB.out)
        have hB3 := Lib.hid (hB2.out.trans (hB.out.mono hB2.out.size))
        clear kM hin hrow hB r2' hB2 hlt hk hfl
        go_wp2_with (go_at_call 54; refine (kM'.out).mono ?_; rintro e W5 ⟨u, rfl, hu, hb5⟩; obtain ⟨pu, cu, rfl, -, -⟩ := Hid.out hu; have r5 := Lib.hid (r3.out.later hb5); have s5 := r5.out.cell; have f5 := r5.out.frozen; clear kM')
        have hrs := (r5.out.set (.slice pu (mkN (flt P l.length)).length cu)).cell
        refine bodyPost_ret (v := .tuple #[.agg #[.slice pu (mkN (flt P l.length)).length cu], .int .i64 0]) ?_ rfl ⟨_, by rw [hcode.out], by rw [← hfin.out]; exact hu.setR r5.out _, (hB3.out.trans (hb5.mono hB3.out.size)).setCell (p := ⟨w.heap.size + 1, 0, none⟩) (by dsimp only; omega) _⟩
        simp [results, Tryd.results37, go_sem, hrs]
end Go.Proofs.YtnigpmbpipmgfaaDoor

/-
  BsiCompares' walk. (Printed by genrbc.py.)
-/
namespace Go.Proofs.YtnigpmbpipmgfaaDoor
open Go.RowKit Tess

set_option linter.unusedSimpArgs false in
set_option maxRecDepth 100000 in
set_option maxHeartbeats 4000000 in
theorem compares_walk {op n m e1 e2 : Int} {xl zl : List Ch} {vE0 vB0 : Value} {b s : Sl} {w : World} 
    (hE0 : HC w vE0 b.ex) (hB0 : HR w vB0 b.bits)
    (kS : Hid (∀ W : World, Below w.heap.size w W → Calls Tryd.prog 10 #[] W fun e W' => e = .returned (.bool true) ∧ Below W.heap.size W W'))
    (kU : Hid (∀ (vE vB : Value) (W : World), Below w.heap.size w W → HC W vE b.ex → HR W vB b.bits → Calls Tryd.prog 19 #[.agg #[.int .i64 b.n, .int .i64 b.least, vE, vB]] W fun e W' => ∃ vE' vB', e = .returned (.agg #[.int .i64 s.n, .int .i64 s.least, vE', vB']) ∧ HC W' vE' s.ex ∧ (∃ base, W.heap.size ≤ base ∧ RowR W' base vB' s.bits) ∧ Below W.heap.size W W'))
    (kC : Hid (∀ (vE vB : Value) (W : World), Below w.heap.size w W → HC W vE s.ex → HR W vB s.bits → Calls Tryd.prog 32 #[.agg #[.int .i64 s.n, .int .i64 s.least, vE, vB], .int .i64 op, .int .i64 n] W fun e W' => ∃ v, e = .returned (.tuple #[.agg #[v], .int .i64 e1]) ∧ HC W' v xl ∧ Below W.heap.size W W'))
    (kD : Hid (∀ (vE vB : Value) (W : World), Below w.heap.size w W → HC W vE s.ex → HR W vB s.bits → Calls Tryd.prog 35 #[.agg #[.int .i64 s.n, .int .i64 s.least, vE, vB], .int .i64 op, .int .i64 n] W fun e W' => ∃ v, e = .returned (.tuple #[.agg #[v], .int .i64 e1]) ∧ HC W' v xl ∧ Below W.heap.size W W'))
    (kB : Hid (∀ (vE vB : Value) (W : World), Below w.heap.size w W → HC W vE s.ex → HR W vB s.bits → Calls Tryd.prog 36 #[.agg #[.int .i64 s.n, .int .i64 s.least, vE, vB], .int .i64 n, .int .i64 m] W fun e W' => ∃ v, e = .returned (.tuple #[.agg #[v], .int .i64 e2]) ∧ HC W' v zl ∧ Below W.heap.size W W'))
    (kR : Hid (∀ (vE vB : Value) (W : World), Below w.heap.size w W → HC W vE s.ex → HR W vB s.bits → Calls Tryd.prog 37 #[.agg #[.int .i64 s.n, .int .i64 s.least, vE, vB], .int .i64 n, .int .i64 m] W fun e W' => ∃ v, e = .returned (.tuple #[.agg #[v], .int .i64 e2]) ∧ HC W' v zl ∧ Below W.heap.size W W'))
    (kM : Hid (∀ (v1 v2 : Value) (W : World), HC W v1 xl → HC W v2 xl → Calls Tryd.prog 34 #[.agg #[v1], .agg #[v2]] W fun e W' => e = .returned (.bool true) ∧ Below W.heap.size W W'))
    (kN : Hid (∀ (v1 v2 : Value) (W : World), HC W v1 zl → HC W v2 zl → Calls Tryd.prog 34 #[.agg #[v1], .agg #[v2]] W fun e W' => e = .returned (.bool true) ∧ Below W.heap.size W W')) :
    Calls Tryd.prog 8 #[.agg #[.int .i64 b.n, .int .i64 b.least, vE0, vB0], .int .i64 op, .int .i64 n, .int .i64 m] w fun e W' => e = .returned (.bool true) ∧ Below w.heap.size w W' := by
  obtain ⟨pE0, cE0, rfl, -, -⟩ := Hid.out hE0
  obtain ⟨pB0, cB0, rfl, -, -⟩ := Hid.out hB0
  have q := Lib.hid (SBox.new w 31 b.n b.least (.slice pE0 b.ex.length cE0) (.slice pB0 b.bits.length cB0))
  have hA0 := (Below.refl w.heap.size w).alloc (Nat.le_refl _) (.cells #[.int .i64 b.n, .int .i64 b.least, .slice pE0 b.ex.length cE0, .slice pB0 b.bits.length cB0] 31)
  have hB := Lib.hid hA0
  have hF := hE0.later hA0
  have hG := hB0.later hA0
  have k0 := Lib.hid (kS.out _ hB.out)
  clear hE0 hB0 hA0
  go_enter Tryd.func8, Tryd.ntmps8
  go_wp2_with (first
    | (go_at_call 10; refine (k0.out).mono ?_; rintro e W1 ⟨rfl, hb⟩; clear k0; have hbX := hb; clear hb; replace hB := Lib.hid (hB.out.trans (hbX.mono hB.out.size)); replace q := Lib.hid (q.out.later hbX); replace hF := hF.later hbX; replace hG := hG.later hbX; clear hbX; have c0 := q.out.c0; have c1 := q.out.c1; have c2 := q.out.c2; have c3 := q.out.c3; have f0 := q.out.frozen 0; have f1 := q.out.frozen 1; have f2 := q.out.frozen 2; have f3 := q.out.frozen 3; have k1 := Lib.hid (kU.out _ _ _ hB.out hF hG))
    | (go_at_call 19; refine (k1.out).mono ?_; rintro e W2 ⟨vE, vR, rfl, hE, ⟨base, hbase, hR⟩, hb⟩; obtain ⟨pE, cE, rfl, -, -⟩ := Hid.out hE; obtain ⟨pR, cR, rfl⟩ := hR.slice; clear k1 c0 c1 c2 c3 f0 f1 f2 f3 hF hG; have q3 := q.out.later hb; have f0 := q3.frozen 0; have f1 := q3.frozen 1; have f2 := q3.frozen 2; have f3 := q3.frozen 3; have c0 := q3.c0; have c1 := q3.c1; have c2 := q3.c2; have c3 := q3.c3; have hbb : w.heap.size < base := Nat.lt_of_lt_of_le q.out.lt hbase; replace hB := Lib.hid (((((hB.out.trans (hb.mono hB.out.size)).setCell (p := ⟨w.heap.size, 0, none⟩) (Nat.le_refl _) (.int .i64 s.n)).setCell (p := ⟨w.heap.size, 1, none⟩) (Nat.le_refl _) (.int .i64 s.least)).setCell (p := ⟨w.heap.size, 2, none⟩) (Nat.le_refl _) (.slice pE s.ex.length cE)).setCell (p := ⟨w.heap.size, 3, none⟩) (Nat.le_refl _) (.slice pR s.bits.length cR)); have hE3 := hE.set4 q3 ⟨_, _, _, rfl⟩ ⟨_, _, _, rfl⟩ s.n s.least ⟨pE, s.ex.length, cE, rfl⟩ (.slice pR s.bits.length cR); have hR3 := (row_set4 hR q3 ⟨_, _, _, rfl⟩ ⟨_, _, _, rfl⟩ hbb s.n s.least ⟨pE, s.ex.length, cE, rfl⟩ (.slice pR s.bits.length cR)).hr; replace q := Lib.hid (q3.set4 s.n s.least (.slice pE s.ex.length cE) (.slice pR s.bits.length cR)); clear hE hR hb hbb hbase q3; have k2 := Lib.hid (kC.out _ _ _ hB.out hE3 hR3))
    | (go_at_call 32; refine (k2.out).mono ?_; rintro e W3 ⟨vx, rfl, hx, hb⟩; clear k2 c0 c1 c2 c3 f0 f1 f2 f3; obtain ⟨px, cx, rfl, -, -⟩ := Hid.out hx; have hA := (Below.refl _ W3).alloc (Nat.le_refl _) (.cells #[.slice px xl.length cx] 28); have hbX := hb.trans (hA.mono hb.size); replace hB := Lib.hid (hB.out.trans (hbX.mono hB.out.size)); replace q := Lib.hid (q.out.later hbX); replace hE3 := hE3.later hbX; replace hR3 := hR3.later hbX; have rx := Lib.hid (RBox.new W3 (.slice px xl.length cx)); replace hx := hx.later hA; clear hA hbX hb; have c0 := q.out.c0; have c1 := q.out.c1; have c2 := q.out.c2; have c3 := q.out.c3; have k3 := Lib.hid (kD.out _ _ _ hB.out hE3 hR3))
    | (go_at_call 35; refine (k3.out).mono ?_; rintro e W4 ⟨vy, rfl, hy, hb⟩; clear k3 c0 c1 c2 c3; obtain ⟨py, cy, rfl, -, -⟩ := Hid.out hy; have hA := (Below.refl _ W4).alloc (Nat.le_refl _) (.cells #[.slice py xl.length cy] 28); have hbX := hb.trans (hA.mono hb.size); replace hB := Lib.hid (hB.out.trans (hbX.mono hB.out.size)); replace q := Lib.hid (q.out.later hbX); replace hE3 := hE3.later hbX; replace hR3 := hR3.later hbX; replace rx := Lib.hid (rx.out.later hbX); replace hx := hx.later hbX; have ry := Lib.hid (RBox.new W4 (.slice py xl.length cy)); replace hy := hy.later hA; clear hA hbX hb; have c0 := q.out.c0; have c1 := q.out.c1; have c2 := q.out.c2; have c3 := q.out.c3; have k4 := Lib.hid (kB.out _ _ _ hB.out hE3 hR3))
    | (go_at_call 36; refine (k4.out).mono ?_; rintro e W5 ⟨vz, rfl, hz, hb⟩; clear k4 c0 c1 c2 c3; obtain ⟨pz, cz, rfl, -, -⟩ := Hid.out hz; have hA := (Below.refl _ W5).alloc (Nat.le_refl _) (.cells #[.slice pz zl.length cz] 28); have hbX := hb.trans (hA.mono hb.size); replace hB := Lib.hid (hB.out.trans (hbX.mono hB.out.size)); replace q := Lib.hid (q.out.later hbX); replace hE3 := hE3.later hbX; replace hR3 := hR3.later hbX; replace rx := Lib.hid (rx.out.later hbX); replace hx := hx.later hbX; replace ry := Lib.hid (ry.out.later hbX); replace hy := hy.later hbX; have rz := Lib.hid (RBox.new W5 (.slice pz zl.length cz)); replace hz := hz.later hA; clear hA hbX hb; have c0 := q.out.c0; have c1 := q.out.c1; have c2 := q.out.c2; have c3 := q.out.c3; have k5 := Lib.hid (kR.out _ _ _ hB.out hE3 hR3))
    | (go_at_call 37; refine (k5.out).mono ?_; rintro e W6 ⟨vu, rfl, hu, hb⟩; clear k5 c0 c1 c2 c3; obtain ⟨pu, cu, rfl, -, -⟩ := Hid.out hu; have hA := (Below.refl _ W6).alloc (Nat.le_refl _) (.cells #[.slice pu zl.length cu] 28); have hbX := hb.trans (hA.mono hb.size); replace hB := Lib.hid (hB.out.trans (hbX.mono hB.out.size)); replace q := Lib.hid (q.out.later hbX); replace hE3 := hE3.later hbX; replace hR3 := hR3.later hbX; replace rx := Lib.hid (rx.out.later hbX); replace hx := hx.later hbX; replace ry := Lib.hid (ry.out.later hbX); replace hy := hy.later hbX; replace rz := Lib.hid (rz.out.later hbX); replace hz := hz.later hbX; have ru := Lib.hid (RBox.new W6 (.slice pu zl.length cu)); replace hu := hu.later hA; clear hA hbX hb; have y1 := rx.out.cell; have y2 := ry.out.cell; have k6 := Lib.hid (kM.out _ _ _ hx hy))
    | (go_at_call 34; refine (k6.out).mono ?_; rintro e W7 ⟨rfl, hb⟩; clear k6 y1 y2; have hbX := hb; clear hb; replace hB := Lib.hid (hB.out.trans (hbX.mono hB.out.size)); replace q := Lib.hid (q.out.later hbX); replace hE3 := hE3.later hbX; replace hR3 := hR3.later hbX; replace rx := Lib.hid (rx.out.later hbX); replace hx := hx.later hbX; replace ry := Lib.hid (ry.out.later hbX); replace hy := hy.later hbX; replace rz := Lib.hid (rz.out.later hbX); replace hz := hz.later hbX; replace ru := Lib.hid (ru.out.later hbX); replace hu := hu.later hbX; clear hbX; have y1 := rz.out.cell; have y2 := ru.out.cell; have k7 := Lib.hid (kN.out _ _ _ hz hu))
    | (go_at_call 34; refine (k7.out).mono ?_; rintro e W8 ⟨rfl, hb⟩; clear k7 y1 y2; have hbX := hb; clear hb; replace hB := Lib.hid (hB.out.trans (hbX.mono hB.out.size)); replace q := Lib.hid (q.out.later hbX); replace hE3 := hE3.later hbX; replace hR3 := hR3.later hbX; replace rx := Lib.hid (rx.out.later hbX); replace hx := hx.later hbX; replace ry := Lib.hid (ry.out.later hbX); replace hy := hy.later hbX; replace rz := Lib.hid (rz.out.later hbX); replace hz := hz.later hbX; replace ru := Lib.hid (ru.out.later hbX); replace hu := hu.later hbX; clear hbX))
  exact bodyPost_ret (v := .bool true) (by simp [results, Tryd.results8, go_sem]) rfl ⟨rfl, hB.out⟩

theorem compares8_any (op : Int) {b : Sl} {n m : Int} {vE vB : Value} {w : World} (hE : HC w vE b.ex) (hB : HR w vB b.bits) (hn : -9223372036854775808 ≤ n ∧ n ≤ 9223372036854775807) (hm : -9223372036854775808 ≤ m ∧ m ≤ 9223372036854775807) (hlr : -9223372036854775808 ≤ b.least ∧ b.least ≤ 9223372036854775807) (hT : Tab w) :
    Calls Tryd.prog 8 #[.agg #[.int .i64 b.n, .int .i64 b.least, vE, vB], .int .i64 op, .int .i64 n, .int .i64 m] w fun e W' => e = .returned (.bool true) ∧ Below w.heap.size w W' := by
  have hsm := cutB_small hlr
  have small : ∀ {b : Sl} {op n : Int}, SmallB b → (cmpB b op n).1.length ≤ 4611686018427387904 := fun {b op n} h => by
    by_cases hc : (1 ≤ op ∧ op ≤ 6) ∧ isRightB b = true
    · rw [cmpB_yes hc.1 hc.2]
      exact (small_right (findB_spec ((right_iff ⟨h.lo, h.hi⟩).1 hc.2) op n).1).1
    · rw [show cmpB b op n = ([], 80) from if_neg fun k => hc ⟨⟨k.1, k.2.1⟩, k.2.2⟩]
      exact Nat.zero_le _
  have small2 : ∀ {b : Sl} {x y : Int}, SmallB b → (btwB b x y).1.length ≤ 4611686018427387904 := fun {b x y} h => by
    by_cases hc : isRightB b = true
    · exact (small_right (btw_spec ((right_iff ⟨h.lo, h.hi⟩).1 hc) hc x y).2.1).1
    · rw [show btwB b x y = ([], 80) from if_neg hc]
      exact Nat.zero_le _
  refine compares_walk (s := cutB b) (xl := (cmpB (cutB b) op n).1) (e1 := (cmpB (cutB b) op n).2) (zl := (btwB (cutB b) n m).1) (e2 := (btwB (cutB b) n m).2) hE hB
    (Lib.hid fun W h => shown8_any W (hT.below h hT.lt)) (Lib.hid fun vE vB W _ h1 h2 => cut_any h1 h2)
    (Lib.hid fun vE vB W h h1 h2 => (compare_any op n h1 h2 hsm hn (hT.below h hT.lt)))
    (Lib.hid fun vE vB W h h1 h2 => (rcompare_any op n h1 h2 hsm))
    (Lib.hid fun vE vB W h h1 h2 => (between_any n m h1 h2 hsm hn hm (hT.below h hT.lt)))
    (Lib.hid fun vE vB W h h1 h2 => (rbetween_any n m h1 h2 hsm))
    (Lib.hid fun v1 v2 W h1 h2 => ?_) (Lib.hid fun v1 v2 W h1 h2 => ?_)
  · have := same7_any h1 h2 (small hsm)
    rwa [decide_eq_true rfl] at this
  · have := same7_any h1 h2 (small2 hsm)
    rwa [decide_eq_true rfl] at this
end Go.Proofs.YtnigpmbpipmgfaaDoor
