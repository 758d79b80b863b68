/-
  cont's Flip.
-/
import Derived.Test.YtnigpmbpipmgfaaDoorMake
namespace Go.Proofs.YtnigpmbpipmgfaaDoor
open Go.RowKit Tess

/-- Does Flip refuse the range? -/
def badSpan (a b : Int) : Bool := decide (min a b < 0) || decide (256 < max a b)
/-- What Flip answers. -/
def flRes (form : Int) (D : ByteArray) (a b : Int) : C × Int :=
  if (ofRes form D).2 = true ∧ badSpan a b = false then (best (turnTo (ofRes form D).1 a.toNat (b - a).toNat), 0) else (⟨0, []⟩, 60)

/-- What lies in memory while Flip works. -/
structure FlipAt (w W : World) (bS s : Nat) : Prop where
  res : W.heap[w.heap.size + 1]? = some (.cells #[.int .i64 0, .string ⟨#[]⟩] 75 (0, 0))
  set : Words 113 W bS s
  below : Below w.heap.size w W
  lo : w.heap.size + 2 ≤ bS
theorem FlipAt.grown {w wr W : World} {bS s s' : Nat} (h : FlipAt w wr bS s) (hg : wr.grownBy W (some bS)) (hw : Words 113 W bS s') : FlipAt w W bS s' :=
  ⟨(hg.block _ (lt_of_heap h.res) (by have := h.lo; simp; omega)).trans h.res, hw, h.below.grown hg h.below.size (by rintro k ⟨rfl⟩; have := h.lo; omega), h.lo⟩
theorem FlipAt.later {w wr W : World} {bS s : Nat} (h : FlipAt w wr bS s) (hb : Below wr.heap.size wr W) : FlipAt w W bS s :=
  ⟨(hb.block _ (lt_of_heap h.res)).trans h.res, h.set.below hb h.set.lt, h.below.trans (hb.mono h.below.size), h.lo⟩

set_option maxRecDepth 100000 in
set_option maxHeartbeats 4000000 in
theorem flip_any (form : Int) (D : ByteArray) (a b : Int) (w : World) (hD : D.size ≤ 1000000) (hT : Tab w) :
    Calls Tryd.prog 45 #[.agg #[.int .i64 form, .string D], .int .i64 a, .int .i64 b] w fun e W' => e = .returned (.tuple #[cv (flRes form D a b).1.form (flRes form D a b).1.data, .int .i64 (flRes form D a b).2]) ∧ Below w.heap.size w W' := by
  have hR : Below w.heap.size w ((w.alloc (.cells #[.int .i64 form, .string D] 75)).alloc (.cells #[.int .i64 0, .string ⟨#[]⟩] 75)) := ((Below.refl _ w).alloc (Nat.le_refl _) _).alloc (by simp) _
  have ho := Lib.hid (of_any form D _ hD (hT.below hR hT.lt))
  have hM0 := heap_alloc_new (w.alloc (.cells #[.int .i64 form, .string D] 75)) (.cells #[.int .i64 0, .string ⟨#[]⟩] 75)
  rw [World.size_alloc] at hM0
  go_enter Tryd.func45, Tryd.ntmps45
  go_wp2_with fail
  refine (ho.out).mono ?_
  rintro e W1 ⟨rfl, hb1⟩
  have hs1 := hb1.size
  simp only [World.size_alloc] at hs1
  have hA : Hid (FlipAt w (W1.alloc (.cells (wcs (ofRes form D).1) 113)) W1.heap.size (ofRes form D).1) :=
    ⟨(Below.heap_alloc _ _ _ (by omega)).trans ((hb1.block _ (by simp)).trans hM0), Words.new W1 _ _, ((hR.trans (hb1.mono (by simp; omega))).alloc (by omega) _), by omega⟩
  clear hb1 hM0
  obtain ⟨r0, r1, f0, f1⟩ := blk2_cells hA.out.res
  simp only [wcs, lv] at r0 r1 f0 f1
  obtain ⟨lo, hlo⟩ : ∃ m : Int, (if b < a then b else a) = m := ⟨_, rfl⟩
  obtain ⟨hi, hhi⟩ : ∃ m : Int, (if a < b then b else a) = m := ⟨_, rfl⟩
  have hlo' := Lib.hid hlo
  have hhi' := Lib.hid hhi
  cases hok : (ofRes form D).2 with
  | false =>
    have hmk : Hid (flRes form D a b = (⟨0, []⟩, 60)) := by
      show _ = _
      unfold flRes badSpan
      rw [hok]; simp
    simp only [wv, wcs, lv]
    go_wp2
    have hrs := blk2_cells (heap_set2 hA.out.res (.int .i64 0) (.string ⟨#[]⟩))
    simp only [wcs, lv] at hrs
    refine bodyPost_ret (v := .tuple #[cv 0 [], .int .i64 60]) ?_ rfl ⟨by rw [hmk.out], (hA.out.below.setCell (p := ⟨w.heap.size + 1, 0, none⟩) (Nat.le_succ _) _).setCell (p := ⟨w.heap.size + 1, 1, none⟩) (Nat.le_succ _) _⟩
    simp [results, Tryd.results45, go_sem, cv, bs, hrs.1, hrs.2.1]
  | true =>
    cases h1 : decide (lo < 0) with
    | true =>
      have hmk : Hid (flRes form D a b = (⟨0, []⟩, 60)) := by
        show _ = _
        unfold flRes badSpan
        rw [if_neg]; simp at h1; simp; omega
      simp only [wv, wcs, lv]
      go_wp2
      have hrs := blk2_cells (heap_set2 hA.out.res (.int .i64 0) (.string ⟨#[]⟩))
      simp only [wcs, lv] at hrs
      refine bodyPost_ret (v := .tuple #[cv 0 [], .int .i64 60]) ?_ rfl ⟨by rw [hmk.out], (hA.out.below.setCell (p := ⟨w.heap.size + 1, 0, none⟩) (Nat.le_succ _) _).setCell (p := ⟨w.heap.size + 1, 1, none⟩) (Nat.le_succ _) _⟩
      simp [results, Tryd.results45, go_sem, cv, bs, hrs.1, hrs.2.1]
    | false =>
      cases h2 : decide (256 < hi) with
      | true =>
        have hmk : Hid (flRes form D a b = (⟨0, []⟩, 60)) := by
          show _ = _
          unfold flRes badSpan
          rw [if_neg]; simp at h1 h2; simp; omega
        simp only [wv, wcs, lv]
        go_wp2
        have hrs := blk2_cells (heap_set2 hA.out.res (.int .i64 0) (.string ⟨#[]⟩))
        simp only [wcs, lv] at hrs
        refine bodyPost_ret (v := .tuple #[cv 0 [], .int .i64 60]) ?_ rfl ⟨by rw [hmk.out], (hA.out.below.setCell (p := ⟨w.heap.size + 1, 0, none⟩) (Nat.le_succ _) _).setCell (p := ⟨w.heap.size + 1, 1, none⟩) (Nat.le_succ _) _⟩
        simp [results, Tryd.results45, go_sem, cv, bs, hrs.1, hrs.2.1]
      | false =>
        have hsp : 0 ≤ a ∧ a ≤ 256 ∧ 0 ≤ b ∧ b ≤ 256 := by simp at h1 h2; omega
        have hsp' := Lib.hid hsp
        clear hsp
        simp only [wv, wcs, lv]
        go_wp2
        clear r0 r1 f0 f1
        have hsp := hsp'.out
        have hlo2 := hlo'.out
        have hhi2 := hhi'.out
        obtain ⟨A, rfl⟩ : ∃ A : Nat, a = A := ⟨a.toNat, by omega⟩
        obtain ⟨B, rfl⟩ : ∃ B : Nat, b = B := ⟨b.toNat, by omega⟩
        have hAB : Hid (A ≤ 256 ∧ B ≤ 256) := by show _ ∧ _; omega
        have hmk : Hid (flRes form D A B = (best (turnTo (ofRes form D).1 A (B - A)), 0)) := by
          show _ = _
          unfold flRes badSpan
          rw [if_pos]
          · congr 2
            simp
          · refine ⟨hok, ?_⟩
            simp
            omega
        clear hsp hlo2 hhi2 hlo' hhi'
        go_loopw [10] (fun i wr => ∃ n : Nat, i = .int .i64 n ∧ A ≤ n ∧ n ≤ max A B ∧ Hid (FlipAt w wr W1.heap.size (turnTo (ofRes form D).1 A (n - A))))
          (fun i _ => 300 - (intOf i).toNat)
        case atStart => exact ⟨A, rfl, by omega, by omega, by rw [show turnTo (ofRes form D).1 A (A - A) = (ofRes form D).1 from by simp [turnTo]]; exact hA⟩
        case round =>
          obtain ⟨n, rfl, hn1, hn2, hM⟩ := hrel
          clear hA
          by_cases hlt : n < B
          · have hkd : decide ((n : Int) < (B : Int)) = true := by simp; omega
            have hn6 : n < 256 := by have := hAB.out; omega
            have hst : Hid (turnTo (ofRes form D).1 A (n + 1 - A) = turn (turnTo (ofRes form D).1 A (n - A)) n) := by
              show _ = _
              rw [show n + 1 - A = (n - A) + 1 by omega, turnTo_succ]; congr 1; omega
            have hct := hM.out.set.cell (i := n / 64) (by omega)
            have hft := hM.out.set.frozen (n / 64)
            generalize turnTo (ofRes form D).1 A (n - A) = t at hM hct hst
            have hll := limb_lt t (n / 64)
            go_wp2
            go_region
            all_goals go_wp2
            go_roundw
            case rel =>
              refine ⟨n + 1, by go_num, by omega, by omega, ?_⟩
              rw [hst.out, turn_val t n]
              exact hM.out.grown (grown_set _ _ _ _) (hM.out.set.set_ (s' := turn t n) (by omega) (fun j _ => turn_others t n j)).drew
            case measure => simp [intOf]; omega
          · have hkd : decide ((n : Int) < (B : Int)) = false := by simp; omega
            have hfin : Hid (n - A = B - A) := by show _ = _; omega
            rw [hfin.out] at hM
            generalize turnTo (ofRes form D).1 A (B - A) = t at hM hmk
            have hk := Lib.hid (best_any t wr (hT.below hM.out.below hT.lt))
            have c0 := hM.out.set.cell (i := 0) (by decide)
            have c1 := hM.out.set.cell (i := 1) (by decide)
            have c2 := hM.out.set.cell (i := 2) (by decide)
            have c3 := hM.out.set.cell (i := 3) (by decide)
            go_wp2_with fail
            refine (hk.out).mono ?_
            rintro e W3 ⟨rfl, hb3⟩
            have hM3 := Lib.hid (hM.out.later hb3)
            obtain ⟨r0, r1, f0, f1⟩ := blk2_cells hM3.out.res
            simp only [cv]
            clear c0 c1 c2 c3
            go_wp2
            have hrs := blk2_cells (heap_set2 hM3.out.res (.int .i64 (best t).form) (.string (bs (best t).data)))
            refine bodyPost_ret (v := .tuple #[cv (best t).form (best t).data, .int .i64 0]) ?_ rfl ⟨by rw [hmk.out], (hM3.out.below.setCell (p := ⟨w.heap.size + 1, 0, none⟩) (Nat.le_succ _) _).setCell (p := ⟨w.heap.size + 1, 1, none⟩) (Nat.le_succ _) _⟩
            simp [results, Tryd.results45, go_sem, cv, hrs.1, hrs.2.1]
end Go.Proofs.YtnigpmbpipmgfaaDoor
