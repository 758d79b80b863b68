/-
  ValL, RVals7: several texts in one (merge.py).
-/
import Derived.Test.YtnigpmbpipmgfaaDoorBmM
import Derived.Test.YtnigpmbpipmgfaaDoorRRight7

/-
  The numbers of a bitmap, none if it is not right. (Vals7's definition, for seats that have no Vals7.)
-/
namespace Go.Proofs.YtnigpmbpipmgfaaDoor
def valL (l : List Ch) : List Nat := if rightL l = true then allN l else []
end Go.Proofs.YtnigpmbpipmgfaaDoor

/-
  The reference's Values of a bitmap.
-/
namespace Go.Proofs.YtnigpmbpipmgfaaDoor
open Go.RowKit Tess

theorem bitR_right {l : List Ch} (h : rightL l = true) {n : Nat} (hn : n < 65536) : bitR l n = bitL l n := by
  unfold bitR bitL bitM
  rw [setR_right h (by omega)]
/-- A bitmap's numbers below j. -/
def upN (l : List Ch) (j : Nat) : List Nat := (List.range j).filter (bitL l)
theorem upN_yes {l : List Ch} {j : Nat} (h : bitL l j = true) : upN l (j + 1) = upN l j ++ [j] := by
  unfold upN; rw [List.range_succ, List.filter_append]; simp [h]
theorem upN_no {l : List Ch} {j : Nat} (h : bitL l j = false) : upN l (j + 1) = upN l j := by
  unfold upN; rw [List.range_succ, List.filter_append]; simp [h]
theorem upN_len (l : List Ch) (j : Nat) : (upN l j).length ≤ j := by
  have := List.length_filter_le (bitL l) (List.range j)
  rw [List.length_range] at this; exact this

set_option maxRecDepth 100000 in
set_option maxHeartbeats 8000000 in
theorem rvalues7_fr {l : List Ch} {v : Value} {w : World} (h : HC w v l) (hs : Small l) :
    Calls Tryd.prog 90 #[.agg #[v]] w fun e W' => ∃ v', e = .returned v' ∧ HI W' v' ((valL l).map Int.ofNat) ∧ (∀ p n c, v' = .slice p n c → n ≤ c) ∧ Fr w.heap.size v' ∧ Below w.heap.size w W' := by
  obtain ⟨j0, hj, hy0, hy1, hy2⟩ := info_parts info_int
  have hR := Lib.hid (RB.new h)
  have hB := Lib.hid ((Below.refl w.heap.size w).alloc (Nat.le_refl _) (.cells #[v] 28))
  have hx := hR.out.box.cell
  have k1 := Lib.hid (rright7_any hR.out.chs hs)
  have hs' := Lib.hid hs
  clear h hs
  go_enter Tryd.func90, Tryd.ntmps90
  go_wp2_with fail
  refine (k1.out).mono ?_
  rintro e W1 ⟨rfl, hb1⟩
  have hB1 := Lib.hid (hB.out.trans (hb1.mono hB.out.size))
  have hR1 := Lib.hid (hR.out.later hb1)
  have hx1 := hR1.out.box.cell
  clear k1 hb1 hx hR hB
  cases hrr : rightL l with
  | false =>
    have hfin : Hid (valL l = []) := by show _ = _; unfold valL; rw [hrr]; rfl
    clear hrr
    go_wp2
    exact bodyPost_ret (v := .slice none 0 0) (by simp [results, Tryd.results90, go_sem]) rfl ⟨_, rfl, by rw [hfin.out]; exact Lib.hid (.inl ⟨⟨_, rfl⟩, rfl⟩), by rintro p n c e; cases e; exact Nat.le_refl _, (fun g hg => by cases hg), hB1.out⟩
  | true =>
    have hfin : Hid (valL l = upN l 65536) := by show _ = _; unfold valL; rw [if_pos hrr, allN_bits hrr]; rfl
    have hrr' := Lib.hid hrr
    clear hrr
    have k2 := Lib.hid (rset_any hR1.out.chs hs'.out)
    go_wp2_with fail
    refine (k2.out).mono ?_
    rintro e W2 ⟨g, rfl, hBo, -, hb2⟩
    have hB2 := Lib.hid (hB1.out.trans (hb2.mono hB1.out.size))
    have hbo := Lib.hid hBo
    clear k2 hb2 hBo hx1 hR1 hB1
    go_wp2
    go_loopw [3, 5] (fun v i wr => ∃ j : Nat, j ≤ 65536 ∧ i = .int .i64 j ∧ Hid (wr.ownsRow W2.heap.size 3 1 v (upN l j).length ((upN l j).map fun n : Nat => .int .i64 (n : Int))) ∧ Hid (Below W2.heap.size W2 wr))
      (fun _ i _ => 65536 - (intOf i).toNat)
    case atStart => exact ⟨0, Nat.zero_le _, rfl, World.ownsRow_nil _ _ _ _, Lib.hid (Below.refl _ _)⟩
    case round =>
      obtain ⟨j, hjj, rfl, hrow, hB⟩ := hrel
      by_cases hlt : j < 65536
      · have hjd : decide ((j : Int) < 65536) = true := by simp; omega
        have hcl := (hbo.out.later hB.out).cell hlt
        rw [bitR_right hrr'.out hlt] at hcl
        have hj0 : (0 : Int) ≤ (j : Int) := by omega
        have hj1 : (j : Int) < 65536 := by omega
        have hul := upN_len l j
        have hyes := Lib.hid (@upN_yes l j)
        have hno := Lib.hid (@upN_no l j)
        have hrow' := hrow.out
        have hsz := Lib.hid hB.out.size
        generalize bitL l j = t at hcl hyes hno
        cases t with
        | true =>
          have hst := Lib.hid (hyes.out rfl)
          clear hyes hno
          go_wp2_with (at_builtin; refine wpList_append_own _ rfl _ _ 24 rfl W2.heap.size 3 j0 (.int .i64 0) 1 8 Tryd.underlying24 hj hy0 hy1 hy2 rfl (by decide) _ _ _ rfl (hrow'.alloc _) ⟨wr.heap.size, 0, none⟩ 1 1 [.int .i64 (j : Int)] rfl rfl (cell_one_new _ _ _) (ints_one _) (by unfold maxLen; omega) (by omega) (by simp; have := hsz.out; omega) ?_; intro v' w1 hown' hgrow _)
          have hne : ∀ g, Value.ownBlock _ = some g → W2.heap.size ≤ g := fun g hg => ((hrow'.lt) g hg).1
          have hBB := Lib.hid ((hB.out.alloc hB.out.size (.cells #[.int .i64 (j : Int)] 3)).grown hgrow (by simp; have := hB.out.size; omega) (fun g hg => hne g hg))
          go_roundw
          case rel => exact ⟨j + 1, by omega, by go_num, by rw [hst.out, List.length_append, List.map_append]; exact hown', hBB⟩
          case measure => simp [intOf]; omega
        | false =>
          have hst := Lib.hid (hno.out rfl)
          clear hyes hno
          go_wp2
          go_roundw
          case rel => exact ⟨j + 1, by omega, by go_num, by rw [hst.out]; exact hrow, hB⟩
          case measure => simp [intOf]; omega
      · have hjd : decide ((j : Int) < 65536) = false := by simp; omega
        obtain rfl : j = 65536 := by omega
        have hin : HI wr _ ((upN l 65536).map Int.ofNat) := Lib.hid (ints_of_row (zs := (upN l 65536).map Int.ofNat) hrow.out (by rw [List.map_map]; rfl))
        have hcap := Lib.hid (row_cap hrow.out)
        have hfr : Hid (Fr w.heap.size _) := Lib.hid (fun g hg => Nat.le_trans hB2.out.size ((hrow.out.lt g hg).1))
        obtain ⟨p5, c5, rfl⟩ := row_slice hrow.out
        clear hrow
        go_wp2
        exact bodyPost_ret (v := .slice p5 (upN l 65536).length c5) (by simp [results, Tryd.results90, go_sem]) rfl ⟨_, rfl, by rw [hfin.out]; exact hin, hcap.out, hfr.out, hB2.out.trans (hB.out.mono hB2.out.size)⟩
theorem rvalues7_any {l : List Ch} {v : Value} {w : World} (h : HC w v l) (hs : Small l) :
    Calls Tryd.prog 90 #[.agg #[v]] w fun e W' => ∃ v', e = .returned v' ∧ HI W' v' ((valL l).map Int.ofNat) ∧ (∀ p n c, v' = .slice p n c → n ≤ c) ∧ Below w.heap.size w W' :=
  (rvalues7_fr h hs).mono fun _ _ ⟨v', h1, h2, h3, _, h5⟩ => ⟨v', h1, h2, h3, h5⟩
end Go.Proofs.YtnigpmbpipmgfaaDoor
