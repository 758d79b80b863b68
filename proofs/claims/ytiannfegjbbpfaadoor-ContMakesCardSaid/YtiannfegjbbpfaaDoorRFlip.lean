/-
  The reference's Flip.
-/
import Derived.Test.YtiannfegjbbpfaaDoorRAs
namespace Go.Proofs.YtiannfegjbbpfaaDoor
open Go.RowKit Tess

theorem ofRes_set {f : Int} {D : ByteArray} (hok : (ofRes f D).2 = true) : readAll f (dn D) = (ofRes f D).1 := by
  cases hq : asOf (readAll f (dn D)) f with
  | none => rw [ofRes_none hq] at hok; cases hok
  | some e =>
    cases hs : sameC f (bs e) f D with
    | false => rw [ofRes_other hq hs] at hok; cases hok
    | true => rw [ofRes_same hq hs]
theorem newArr (W : World) (s : Nat) : (storeCells ⟨W.heap.size, 0, none⟩ (bc s).toList 0).run Tryd.prog (W.alloc (.cells (bc 0) 63)) = .ok () (W.alloc (.cells (bc s) 63)) :=
  run_storeCells_new W _ (bc 0) (bc s) (sizeArr s) (by rw [bc_size, bc_size]) (bc_one s)
theorem flRes_no {f : Int} {D : ByteArray} {a b : Int} (h : ¬ ((ofRes f D).2 = true ∧ 0 ≤ a ∧ a ≤ 256 ∧ 0 ≤ b ∧ b ≤ 256)) : flRes f D a b = (⟨0, []⟩, 60) := by
  unfold flRes
  rw [if_neg]
  rintro ⟨h1, h2⟩
  unfold badSpan at h2
  simp at h2
  exact h ⟨h1, by omega⟩
theorem flRes_yes {f : Int} {D : ByteArray} {a b : Nat} (hok : (ofRes f D).2 = true) (ha : a ≤ 256) (hb : b ≤ 256) : flRes f D a b = (best (turnTo (ofRes f D).1 a (b - a)), 0) := by
  unfold flRes
  rw [if_pos]
  · congr 2; simp
  · refine ⟨hok, ?_⟩
    unfold badSpan; simp; omega
theorem turn_bits (t n : Nat) : ∀ j, j < 256 → (turn t n).testBit j = if j = n then !t.testBit n else t.testBit j := by
  intro j _
  rw [testBit_turn]
  by_cases h : j = n
  · subst h; simp
  · have : ¬ n = j := fun e => h e.symm
    simp [h, this]

/-- … and a variable of 256 truths. -/
structure FAt (w W : World) (f : Int) (D : ByteArray) (bS s : Nat) : Prop where
  base : RAt w W f D
  set : Arr W bS s
  lo : w.heap.size + 2 ≤ bS
theorem FAt.put {w W : World} {f : Int} {D : ByteArray} {bS s s' i : Nat} {v : Bool} (h : FAt w W f D bS s) (hi : i < 256) (hs : ∀ j, j < 256 → s'.testBit j = if j = i then v else s.testBit j) :
    FAt w (W.setCell ⟨bS, i, none⟩ (.bool v)) f D bS s' := by
  have hlo := h.lo
  exact ⟨⟨(Below.heap_setCell W ⟨bS, i, none⟩ _ _ (by show w.heap.size ≠ bS; omega)).trans h.base.box, (Below.heap_setCell W ⟨bS, i, none⟩ _ _ (by show w.heap.size + 1 ≠ bS; omega)).trans h.base.res, h.base.below.setCell (p := ⟨bS, i, none⟩) (by show w.heap.size ≤ bS; omega) _⟩, h.set.set_ hi hs, hlo⟩
theorem FAt.later {w wr W : World} {f : Int} {D : ByteArray} {bS s : Nat} (h : FAt w wr f D bS s) (hb : Below wr.heap.size wr W) : FAt w W f D bS s := ⟨h.base.later hb, h.set.later hb, h.lo⟩

set_option maxRecDepth 100000 in
set_option maxHeartbeats 4000000 in
theorem rflip_any (f : Int) (D : ByteArray) (a b : Int) (w : World) (hD : D.size ≤ 1000000) :
    Calls Tryd.prog 21 #[.agg #[.int .i64 f, .string D], .int .i64 a, .int .i64 b] w fun e W' => e = .returned (.tuple #[cv (flRes f D a b).1.form (flRes f D a b).1.data, .int .i64 (flRes f D a b).2]) ∧ Below w.heap.size w W' := by
  have hz := zeroArr
  have hM0 := Lib.hid (RAt.start w f D)
  have k1 := Lib.hid (rright_any f D ((w.alloc (.cells #[.int .i64 f, .string D] 25)).alloc (.cells #[.int .i64 0, .string ⟨#[]⟩] 25)) hD)
  go_enter Tryd.func21, Tryd.ntmps21
  go_wp2_with fail
  refine (k1.out).mono ?_
  rintro e W1 ⟨rfl, hb1⟩
  have hM := Lib.hid (hM0.out.later hb1)
  clear hb1 hM0 k1
  obtain ⟨b0, b1, -, -⟩ := blk2_cells hM.out.box
  by_cases hall : (ofRes f D).2 = true ∧ 0 ≤ a ∧ a ≤ 256 ∧ 0 ≤ b ∧ b ≤ 256
  · obtain ⟨hok, h1, h2, h3, h4⟩ := hall
    obtain ⟨A, rfl⟩ : ∃ A : Nat, a = A := ⟨a.toNat, by omega⟩
    obtain ⟨B, rfl⟩ : ∃ B : Nat, b = B := ⟨b.toNat, by omega⟩
    have hA : A ≤ 256 := by omega
    have hB : B ≤ 256 := by omega
    have g1 : decide ((A : Int) < 0) = false := decide_eq_false (by omega)
    have g2 : decide (256 < (A : Int)) = false := decide_eq_false (by omega)
    have g3 : decide ((B : Int) < 0) = false := decide_eq_false (by omega)
    have g4 : decide (256 < (B : Int)) = false := decide_eq_false (by omega)
    have hre := Lib.hid (flRes_yes hok hA hB)
    have k2 := Lib.hid (Set_any f D W1 hD)
    rw [ofRes_set hok] at k2
    rw [hok]
    generalize (ofRes f D).1 = s at k2 hre
    clear hok h1 h2 h3 h4
    go_wp2_with fail
    refine (k2.out).mono ?_
    rintro e W2 ⟨rfl, hb2⟩
    have hM2 : Hid (FAt w (W2.alloc (.cells (bc s) 63)) f D W2.heap.size s) :=
      ⟨(hM.out.later hb2).later ((Below.refl _ W2).alloc (Nat.le_refl _) _), Arr.new W2 s, by have := lt_of_heap (hM.out.later hb2).res; omega⟩
    clear b0 b1 hb2 k2 g1 g2 g3 g4 hM
    have hsc := newArr
    go_wp2
    clear hsc hz
    have hAB : Hid (A ≤ 256 ∧ B ≤ 256) := ⟨hA, hB⟩
    go_loopw [9] (fun i wr => ∃ n : Nat, i = .int .i64 n ∧ A ≤ n ∧ n ≤ max A B ∧ Hid (FAt w wr f D W2.heap.size (turnTo s A (n - A))))
      (fun i _ => 300 - (intOf i).toNat)
    case atStart => exact ⟨A, rfl, by omega, by omega, by rw [show turnTo s A (A - A) = s from by simp [turnTo]]; exact hM2⟩
    case round =>
      obtain ⟨n, rfl, hn1, hn2, hMn⟩ := hrel
      clear hM2
      by_cases hlt : n < B
      · have hkd : decide (n < B) = true := by simpa using hlt
        have hn6 : n < 256 := by have := hAB.out; omega
        have hn7 : (n : Int) < 256 := by omega
        have hn8 : (0 : Int) ≤ (n : Int) := by omega
        have hst : Hid (turnTo s A (n + 1 - A) = turn (turnTo s A (n - A)) n) := by
          show _ = _
          rw [show n + 1 - A = (n - A) + 1 by omega, turnTo_succ]; congr 1; omega
        have hct := hMn.out.set.cell hn6
        have hft := hMn.out.set.frozen n
        generalize turnTo s A (n - A) = t at hMn hct hst
        have hn6' := Lib.hid hn6
        go_wp2
        go_roundw
        case rel => exact ⟨n + 1, by go_num, by omega, by omega, by rw [hst.out]; exact hMn.out.put hn6'.out (turn_bits t n)⟩
        case measure => simp [intOf]; omega
      · have hkd : decide (n < B) = false := by simpa using hlt
        have hfin : Hid (n - A = B - A) := by show _ = _; omega
        rw [hfin.out] at hMn
        generalize turnTo s A (B - A) = t at hMn hre
        have hk := Lib.hid (rbest_any t wr)
        go_wp2
        refine Arr.wpLoad hMn.out.set _ rfl rfl ?_
        go_wp2_with fail
        refine (hk.out).mono ?_
        rintro e W3 ⟨rfl, hb3⟩
        have hM3 := Lib.hid (hMn.out.later hb3)
        obtain ⟨r0, r1, f0, f1⟩ := blk2_cells hM3.out.base.res
        simp only [cv]
        go_wp2
        have hrs := blk2_cells (heap_set2 hM3.out.base.res (.int .i64 (best t).form) (.string (bs (best t).data)))
        refine bodyPost_ret (v := .tuple #[cv (best t).form (best t).data, .int .i64 0]) ?_ rfl ⟨by rw [hre.out], hM3.out.base.set2 _ _⟩
        simp [results, Tryd.results21, go_sem, cv, hrs.1, hrs.2.1]
  · have hre := Lib.hid (flRes_no hall)
    obtain ⟨r0, r1, f0, f1⟩ := blk2_cells hM.out.res
    cases hok : (ofRes f D).2 with
    | false =>
      clear hall
      go_wp2
      have hrs := blk2_cells (heap_set2 hM.out.res (.int .i64 0) (.string ⟨#[]⟩))
      refine bodyPost_ret (v := .tuple #[cv 0 [], .int .i64 60]) ?_ rfl ⟨by rw [hre.out], hM.out.set2 _ _⟩
      simp [results, Tryd.results21, go_sem, cv, hrs.1, hrs.2.1]
      try rfl
    | true =>
      rw [hok] at hall
      by_cases h1 : a < 0
      · have g1 : decide (a < 0) = true := decide_eq_true h1
        clear hall
        go_wp2
        have hrs := blk2_cells (heap_set2 hM.out.res (.int .i64 0) (.string ⟨#[]⟩))
        refine bodyPost_ret (v := .tuple #[cv 0 [], .int .i64 60]) ?_ rfl ⟨by rw [hre.out], hM.out.set2 _ _⟩
        simp [results, Tryd.results21, go_sem, cv, hrs.1, hrs.2.1]
        try rfl
      · have g1 : decide (a < 0) = false := decide_eq_false h1
        by_cases h2 : 256 < a
        · have g2 : decide (256 < a) = true := decide_eq_true h2
          clear hall
          go_wp2
          have hrs := blk2_cells (heap_set2 hM.out.res (.int .i64 0) (.string ⟨#[]⟩))
          refine bodyPost_ret (v := .tuple #[cv 0 [], .int .i64 60]) ?_ rfl ⟨by rw [hre.out], hM.out.set2 _ _⟩
          simp [results, Tryd.results21, go_sem, cv, hrs.1, hrs.2.1]
          try rfl
        · have g2 : decide (256 < a) = false := decide_eq_false h2
          by_cases h3 : b < 0
          · have g3 : decide (b < 0) = true := decide_eq_true h3
            clear hall
            go_wp2
            have hrs := blk2_cells (heap_set2 hM.out.res (.int .i64 0) (.string ⟨#[]⟩))
            refine bodyPost_ret (v := .tuple #[cv 0 [], .int .i64 60]) ?_ rfl ⟨by rw [hre.out], hM.out.set2 _ _⟩
            simp [results, Tryd.results21, go_sem, cv, hrs.1, hrs.2.1]
            try rfl
          · have g3 : decide (b < 0) = false := decide_eq_false h3
            have g4 : decide (256 < b) = true := decide_eq_true (by simp at hall; omega)
            clear hall
            go_wp2
            have hrs := blk2_cells (heap_set2 hM.out.res (.int .i64 0) (.string ⟨#[]⟩))
            refine bodyPost_ret (v := .tuple #[cv 0 [], .int .i64 60]) ?_ rfl ⟨by rw [hre.out], hM.out.set2 _ _⟩
            simp [results, Tryd.results21, go_sem, cv, hrs.1, hrs.2.1]
            try rfl
end Go.Proofs.YtiannfegjbbpfaaDoor
