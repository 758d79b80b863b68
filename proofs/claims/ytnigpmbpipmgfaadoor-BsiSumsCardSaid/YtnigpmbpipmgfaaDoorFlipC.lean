/-
  Flip, Count, CBase: several texts in one (merge.py).
-/
import Derived.Test.YtnigpmbpipmgfaaDoorReadM

/-
  cont's Flip.
-/
namespace Go.Proofs.YtnigpmbpipmgfaaDoor
open Go.RowKit Tess

/-- Does Flip refuse the range? -/
def badSpan (a b : Int) : Bool := decide (min a b < 0) || decide (256 < max a b)
/-- What Flip answers. -/
def flRes (form : Int) (D : ByteArray) (a b : Int) : C × Int :=
  if (ofRes form D).2 = true ∧ badSpan a b = false then (best (turnTo (ofRes form D).1 a.toNat (b - a).toNat), 0) else (⟨0, []⟩, 60)

/-- What lies in memory while Flip works. -/
structure FlipAt (w W : World) (bS s : Nat) : Prop where
  res : W.heap[w.heap.size + 1]? = some (.cells #[.int .i64 0, .string ⟨#[]⟩] 75 (0, 0))
  set : Words 113 W bS s
  below : Below w.heap.size w W
  lo : w.heap.size + 2 ≤ bS
theorem FlipAt.grown {w wr W : World} {bS s s' : Nat} (h : FlipAt w wr bS s) (hg : wr.grownBy W (some bS)) (hw : Words 113 W bS s') : FlipAt w W bS s' :=
  ⟨(hg.block _ (lt_of_heap h.res) (by have := h.lo; simp; omega)).trans h.res, hw, h.below.grown hg h.below.size (by rintro k ⟨rfl⟩; have := h.lo; omega), h.lo⟩
theorem FlipAt.later {w wr W : World} {bS s : Nat} (h : FlipAt w wr bS s) (hb : Below wr.heap.size wr W) : FlipAt w W bS s :=
  ⟨(hb.block _ (lt_of_heap h.res)).trans h.res, h.set.below hb h.set.lt, h.below.trans (hb.mono h.below.size), h.lo⟩

set_option maxRecDepth 100000 in
set_option maxHeartbeats 4000000 in
theorem flip_any (form : Int) (D : ByteArray) (a b : Int) (w : World) (hD : D.size ≤ 1000000) (hT : Tab w) :
    Calls Tryd.prog 45 #[.agg #[.int .i64 form, .string D], .int .i64 a, .int .i64 b] w fun e W' => e = .returned (.tuple #[cv (flRes form D a b).1.form (flRes form D a b).1.data, .int .i64 (flRes form D a b).2]) ∧ Below w.heap.size w W' := by
  have hR : Below w.heap.size w ((w.alloc (.cells #[.int .i64 form, .string D] 75)).alloc (.cells #[.int .i64 0, .string ⟨#[]⟩] 75)) := ((Below.refl _ w).alloc (Nat.le_refl _) _).alloc (by simp) _
  have ho := Lib.hid (of_any form D _ hD (hT.below hR hT.lt))
  have hM0 := heap_alloc_new (w.alloc (.cells #[.int .i64 form, .string D] 75)) (.cells #[.int .i64 0, .string ⟨#[]⟩] 75)
  rw [World.size_alloc] at hM0
  go_enter Tryd.func45, Tryd.ntmps45
  go_wp2_with fail
  refine (ho.out).mono ?_
  rintro e W1 ⟨rfl, hb1⟩
  have hs1 := hb1.size
  simp only [World.size_alloc] at hs1
  have hA : Hid (FlipAt w (W1.alloc (.cells (wcs (ofRes form D).1) 113)) W1.heap.size (ofRes form D).1) :=
    ⟨(Below.heap_alloc _ _ _ (by omega)).trans ((hb1.block _ (by simp)).trans hM0), Words.new W1 _ _, ((hR.trans (hb1.mono (by simp; omega))).alloc (by omega) _), by omega⟩
  clear hb1 hM0
  obtain ⟨r0, r1, f0, f1⟩ := blk2_cells hA.out.res
  simp only [wcs, lv] at r0 r1 f0 f1
  obtain ⟨lo, hlo⟩ : ∃ m : Int, (if b < a then b else a) = m := ⟨_, rfl⟩
  obtain ⟨hi, hhi⟩ : ∃ m : Int, (if a < b then b else a) = m := ⟨_, rfl⟩
  have hlo' := Lib.hid hlo
  have hhi' := Lib.hid hhi
  cases hok : (ofRes form D).2 with
  | false =>
    have hmk : Hid (flRes form D a b = (⟨0, []⟩, 60)) := by
      show _ = _
      unfold flRes badSpan
      rw [hok]; simp
    simp only [wv, wcs, lv]
    go_wp2
    have hrs := blk2_cells (heap_set2 hA.out.res (.int .i64 0) (.string ⟨#[]⟩))
    simp only [wcs, lv] at hrs
    refine bodyPost_ret (v := .tuple #[cv 0 [], .int .i64 60]) ?_ rfl ⟨by rw [hmk.out], (hA.out.below.setCell (p := ⟨w.heap.size + 1, 0, none⟩) (Nat.le_succ _) _).setCell (p := ⟨w.heap.size + 1, 1, none⟩) (Nat.le_succ _) _⟩
    simp [results, Tryd.results45, go_sem, cv, bs, hrs.1, hrs.2.1]
  | true =>
    cases h1 : decide (lo < 0) with
    | true =>
      have hmk : Hid (flRes form D a b = (⟨0, []⟩, 60)) := by
        show _ = _
        unfold flRes badSpan
        rw [if_neg]; simp at h1; simp; omega
      simp only [wv, wcs, lv]
      go_wp2
      have hrs := blk2_cells (heap_set2 hA.out.res (.int .i64 0) (.string ⟨#[]⟩))
      simp only [wcs, lv] at hrs
      refine bodyPost_ret (v := .tuple #[cv 0 [], .int .i64 60]) ?_ rfl ⟨by rw [hmk.out], (hA.out.below.setCell (p := ⟨w.heap.size + 1, 0, none⟩) (Nat.le_succ _) _).setCell (p := ⟨w.heap.size + 1, 1, none⟩) (Nat.le_succ _) _⟩
      simp [results, Tryd.results45, go_sem, cv, bs, hrs.1, hrs.2.1]
    | false =>
      cases h2 : decide (256 < hi) with
      | true =>
        have hmk : Hid (flRes form D a b = (⟨0, []⟩, 60)) := by
          show _ = _
          unfold flRes badSpan
          rw [if_neg]; simp at h1 h2; simp; omega
        simp only [wv, wcs, lv]
        go_wp2
        have hrs := blk2_cells (heap_set2 hA.out.res (.int .i64 0) (.string ⟨#[]⟩))
        simp only [wcs, lv] at hrs
        refine bodyPost_ret (v := .tuple #[cv 0 [], .int .i64 60]) ?_ rfl ⟨by rw [hmk.out], (hA.out.below.setCell (p := ⟨w.heap.size + 1, 0, none⟩) (Nat.le_succ _) _).setCell (p := ⟨w.heap.size + 1, 1, none⟩) (Nat.le_succ _) _⟩
        simp [results, Tryd.results45, go_sem, cv, bs, hrs.1, hrs.2.1]
      | false =>
        have hsp : 0 ≤ a ∧ a ≤ 256 ∧ 0 ≤ b ∧ b ≤ 256 := by simp at h1 h2; omega
        have hsp' := Lib.hid hsp
        clear hsp
        simp only [wv, wcs, lv]
        go_wp2
        clear r0 r1 f0 f1
        have hsp := hsp'.out
        have hlo2 := hlo'.out
        have hhi2 := hhi'.out
        obtain ⟨A, rfl⟩ : ∃ A : Nat, a = A := ⟨a.toNat, by omega⟩
        obtain ⟨B, rfl⟩ : ∃ B : Nat, b = B := ⟨b.toNat, by omega⟩
        have hAB : Hid (A ≤ 256 ∧ B ≤ 256) := by show _ ∧ _; omega
        have hmk : Hid (flRes form D A B = (best (turnTo (ofRes form D).1 A (B - A)), 0)) := by
          show _ = _
          unfold flRes badSpan
          rw [if_pos]
          · congr 2
            simp
          · refine ⟨hok, ?_⟩
            simp
            omega
        clear hsp hlo2 hhi2 hlo' hhi'
        go_loopw [10] (fun i wr => ∃ n : Nat, i = .int .i64 n ∧ A ≤ n ∧ n ≤ max A B ∧ Hid (FlipAt w wr W1.heap.size (turnTo (ofRes form D).1 A (n - A))))
          (fun i _ => 300 - (intOf i).toNat)
        case atStart => exact ⟨A, rfl, by omega, by omega, by rw [show turnTo (ofRes form D).1 A (A - A) = (ofRes form D).1 from by simp [turnTo]]; exact hA⟩
        case round =>
          obtain ⟨n, rfl, hn1, hn2, hM⟩ := hrel
          clear hA
          by_cases hlt : n < B
          · have hkd : decide ((n : Int) < (B : Int)) = true := by simp; omega
            have hn6 : n < 256 := by have := hAB.out; omega
            have hst : Hid (turnTo (ofRes form D).1 A (n + 1 - A) = turn (turnTo (ofRes form D).1 A (n - A)) n) := by
              show _ = _
              rw [show n + 1 - A = (n - A) + 1 by omega, turnTo_succ]; congr 1; omega
            have hct := hM.out.set.cell (i := n / 64) (by omega)
            have hft := hM.out.set.frozen (n / 64)
            generalize turnTo (ofRes form D).1 A (n - A) = t at hM hct hst
            have hll := limb_lt t (n / 64)
            go_wp2
            go_region
            all_goals go_wp2
            go_roundw
            case rel =>
              refine ⟨n + 1, by go_num, by omega, by omega, ?_⟩
              rw [hst.out, turn_val t n]
              exact hM.out.grown (grown_set _ _ _ _) (hM.out.set.set_ (s' := turn t n) (by omega) (fun j _ => turn_others t n j)).drew
            case measure => simp [intOf]; omega
          · have hkd : decide ((n : Int) < (B : Int)) = false := by simp; omega
            have hfin : Hid (n - A = B - A) := by show _ = _; omega
            rw [hfin.out] at hM
            generalize turnTo (ofRes form D).1 A (B - A) = t at hM hmk
            have hk := Lib.hid (best_any t wr (hT.below hM.out.below hT.lt))
            have c0 := hM.out.set.cell (i := 0) (by decide)
            have c1 := hM.out.set.cell (i := 1) (by decide)
            have c2 := hM.out.set.cell (i := 2) (by decide)
            have c3 := hM.out.set.cell (i := 3) (by decide)
            go_wp2_with fail
            refine (hk.out).mono ?_
            rintro e W3 ⟨rfl, hb3⟩
            have hM3 := Lib.hid (hM.out.later hb3)
            obtain ⟨r0, r1, f0, f1⟩ := blk2_cells hM3.out.res
            simp only [cv]
            clear c0 c1 c2 c3
            go_wp2
            have hrs := blk2_cells (heap_set2 hM3.out.res (.int .i64 (best t).form) (.string (bs (best t).data)))
            refine bodyPost_ret (v := .tuple #[cv (best t).form (best t).data, .int .i64 0]) ?_ rfl ⟨by rw [hmk.out], (hM3.out.below.setCell (p := ⟨w.heap.size + 1, 0, none⟩) (Nat.le_succ _) _).setCell (p := ⟨w.heap.size + 1, 1, none⟩) (Nat.le_succ _) _⟩
            simp [results, Tryd.results45, go_sem, cv, hrs.1, hrs.2.1]
end Go.Proofs.YtnigpmbpipmgfaaDoor

/-
  cont's count, Count, has, Has.
-/
namespace Go.Proofs.YtnigpmbpipmgfaaDoor
open Go.RowKit Tess

/-- How many of the first k words' bits. -/
def popTo (s : Nat) : Nat → Nat
  | 0 => 0
  | k + 1 => popTo s k + pop (limb s k)
theorem popTo_le (s k : Nat) : popTo s k ≤ 64 * k := by
  induction k with
  | zero => exact Nat.le_refl _
  | succ k ih => have := pop_le (limb s k); show popTo s k + pop (limb s k) ≤ _; omega
theorem popTo_four (s : Nat) : popTo s 4 = count s := by rw [count_limbs]; simp [popTo]

set_option maxRecDepth 100000 in
set_option maxHeartbeats 2000000 in
theorem count_core (b s : Nat) (w : World) (hw : Words 113 w b s) :
    Calls Tryd.prog 84 #[.pointer (some ⟨b, 0, none⟩)] w fun e W' => e = .returned (.int .i64 (count s)) ∧ Below w.heap.size w W' := by
  go_enter Tryd.func84, Tryd.ntmps84
  go_wp2
  go_loopw [3, 7] (fun c i wr => ∃ k : Nat, k ≤ 4 ∧ i = .int .i64 k ∧ c = .int .i64 (popTo s k) ∧ wr = w)
    (fun _ i _ => 4 - (intOf i).toNat)
  case atStart => exact ⟨0, by omega, rfl, rfl, rfl⟩
  case round =>
    obtain ⟨k, hk, rfl, rfl, rfl⟩ := hrel
    have hpk := popTo_le s k
    by_cases hlt : k < 4
    · have hkd : decide ((k : Int) < 4) = true := by simp; omega
      have hcx := hw.cell (i := k) hlt
      have hst : Hid (popTo s (k + 1) = popTo s k + pop (limb s k)) := by show _ = _; rfl
      have hpl := pop_le (limb s k)
      have ho := Lib.hid (ones (limb s k) (limb_lt s k) wr)
      generalize popTo s k = c at hst hpk
      generalize pop (limb s k) = p at hst hpl ho
      go_wp2_with fail
      refine (ho.out).mono ?_
      rintro e W2 ⟨rfl, rfl⟩
      go_wp2
      go_roundw
      case rel => exact ⟨k + 1, by omega, by go_num, by rw [hst.out]; go_num, trivial⟩
      case measure => simp [intOf]; omega
    · have hkd : decide ((k : Int) < 4) = false := by simp; omega
      have hk4 := Lib.hid (show k = 4 by omega)
      go_wp2
      refine bodyPost_ret (v := .int .i64 (count s)) ?_ rfl ⟨rfl, Below.refl _ _⟩
      rw [← popTo_four, ← hk4.out]
      simp [results, Tryd.results84, go_sem]

/-- Is the number in the set? -/
def hasI (s : Nat) (n : Int) : Bool := decide (0 ≤ n) && decide (n < 256) && s.testBit n.toNat
theorem has_bit (s n : Nat) : (bits .and .u64 (((limb s (n / 64) : Nat) : Int) / 2 ^ (n % 64)) 1 == 1) = s.testBit n := by
  have h := testBit_limb s (n / 64) (n % 64)
  rw [show 64 * (n / 64) + n % 64 = n by omega] at h
  simp only [show n % 64 < 64 by omega, decide_true, Bool.true_and] at h
  have e : (((limb s (n / 64) : Nat) : Int) / 2 ^ (n % 64)) = ((limb s (n / 64) / 2 ^ (n % 64) : Nat) : Int) := by
    rw [show ((2 : Int) ^ (n % 64)) = ((2 ^ (n % 64) : Nat) : Int) from by rw [Int.natCast_pow]; rfl]
    exact (Int.natCast_ediv _ _).symm
  have hl : limb s (n / 64) / 2 ^ (n % 64) < 18446744073709551616 := Nat.lt_of_le_of_lt (Nat.div_le_self _ _) (limb_lt _ _)
  rw [e, show (1 : Int) = ((1 : Nat) : Int) from rfl, u64_and_nat _ 1 hl (by decide), ← h, Nat.testBit_eq_decide_div_mod_eq, Nat.and_one_is_mod, Bool.eq_iff_iff]
  simp
  omega

set_option maxRecDepth 100000 in
set_option maxHeartbeats 2000000 in
theorem has_core (b s : Nat) (n : Int) (w : World) (hw : Words 113 w b s) :
    Calls Tryd.prog 107 #[.pointer (some ⟨b, 0, none⟩), .int .i64 n] w fun e W' => e = .returned (.bool (hasI s n)) ∧ Below w.heap.size w W' := by
  go_enter Tryd.func107, Tryd.ntmps107
  by_cases h0 : 0 ≤ n
  · have h0' : decide (0 ≤ n) = true := by simpa using h0
    by_cases h1 : n < 256
    · have h1' : decide (n < 256) = true := by simpa using h1
      obtain ⟨m, rfl⟩ : ∃ m : Nat, n = m := ⟨n.toNat, by omega⟩
      have hm : m < 256 := by omega
      have hcx := hw.cell (i := m / 64) (by omega)
      have hhb := has_bit s m
      have hfin : Hid (hasI s m = s.testBit m) := by show _ = _; unfold hasI; rw [h0', h1']; simp
      go_wp2
      exact bodyPost_ret (v := .bool _) (by simp [results, Tryd.results107, go_sem]; rfl) rfl ⟨by rw [hfin.out], Below.refl _ _⟩
    · have h1' : decide (n < 256) = false := by simpa using h1
      have hfin : Hid (hasI s n = false) := by show _ = _; unfold hasI; rw [h1']; simp
      go_wp2
      exact bodyPost_ret (v := .bool false) (by simp [results, Tryd.results107, go_sem]) rfl ⟨by rw [hfin.out], Below.refl _ _⟩
  · have h0' : decide (0 ≤ n) = false := by simpa using h0
    have hfin : Hid (hasI s n = false) := by show _ = _; unfold hasI; rw [h0']; simp
    go_wp2
    exact bodyPost_ret (v := .bool false) (by simp [results, Tryd.results107, go_sem]) rfl ⟨by rw [hfin.out], Below.refl _ _⟩

/-- The block of words that a caller of `of` lays. -/
theorem of_words {w W1 : World} {form : Int} {D : ByteArray} (s : Nat) (hb : Below (w.alloc (.cells #[.int .i64 form, .string D] 75)).heap.size (w.alloc (.cells #[.int .i64 form, .string D] 75)) W1) :
    Words 113 (W1.alloc (.cells #[.int .u64 (limb s 0 : Int), .int .u64 (limb s 1 : Int), .int .u64 (limb s 2 : Int), .int .u64 (limb s 3 : Int)] 113)) W1.heap.size s ∧
    Below w.heap.size w (W1.alloc (.cells #[.int .u64 (limb s 0 : Int), .int .u64 (limb s 1 : Int), .int .u64 (limb s 2 : Int), .int .u64 (limb s 3 : Int)] 113)) := by
  have hs := hb.size
  rw [World.size_alloc] at hs
  exact ⟨Words.new W1 _ s, ((((Below.refl _ w).alloc (Nat.le_refl _) _).trans (hb.mono (by simp))).alloc (by omega) _)⟩

set_option maxRecDepth 100000 in
set_option maxHeartbeats 2000000 in
theorem Count_any (form : Int) (D : ByteArray) (w : World) (hD : D.size ≤ 1000000) (hT : Tab w) :
    Calls Tryd.prog 53 #[.agg #[.int .i64 form, .string D]] w fun e W' => e = .returned (.int .i64 (count (ofRes form D).1)) ∧ Below w.heap.size w W' := by
  have hR : Below w.heap.size w (w.alloc (.cells #[.int .i64 form, .string D] 75)) := ((Below.refl _ w).alloc (Nat.le_refl _) _)
  have ho := Lib.hid (of_any form D _ hD (hT.below hR hT.lt))
  go_enter Tryd.func53, Tryd.ntmps53
  go_wp2_with fail
  refine (ho.out).mono ?_
  rintro e W1 ⟨rfl, hb1⟩
  obtain ⟨hw, hB⟩ := of_words (ofRes form D).1 hb1
  have hc := Lib.hid (count_core W1.heap.size (ofRes form D).1 _ hw)
  simp only [wv, wcs, lv]
  go_wp2_with fail
  refine (hc.out).mono ?_
  rintro e W2 ⟨rfl, hb2⟩
  go_wp2
  exact bodyPost_ret (v := .int .i64 (count (ofRes form D).1)) (by simp [results, Tryd.results53, go_sem]) rfl ⟨rfl, hB.trans (hb2.mono hB.size)⟩

set_option maxRecDepth 100000 in
set_option maxHeartbeats 2000000 in
theorem Has_any (form : Int) (D : ByteArray) (n : Int) (w : World) (hD : D.size ≤ 1000000) (hT : Tab w) :
    Calls Tryd.prog 88 #[.agg #[.int .i64 form, .string D], .int .i64 n] w fun e W' => e = .returned (.bool (hasI (ofRes form D).1 n)) ∧ Below w.heap.size w W' := by
  have hR : Below w.heap.size w (w.alloc (.cells #[.int .i64 form, .string D] 75)) := ((Below.refl _ w).alloc (Nat.le_refl _) _)
  have ho := Lib.hid (of_any form D _ hD (hT.below hR hT.lt))
  go_enter Tryd.func88, Tryd.ntmps88
  go_wp2_with fail
  refine (ho.out).mono ?_
  rintro e W1 ⟨rfl, hb1⟩
  obtain ⟨hw, hB⟩ := of_words (ofRes form D).1 hb1
  have hc := Lib.hid (has_core W1.heap.size (ofRes form D).1 n _ hw)
  simp only [wv, wcs, lv]
  go_wp2_with fail
  refine (hc.out).mono ?_
  rintro e W2 ⟨rfl, hb2⟩
  go_wp2
  exact bodyPost_ret (v := .bool (hasI (ofRes form D).1 n)) (by simp [results, Tryd.results88, go_sem]) rfl ⟨rfl, hB.trans (hb2.mono hB.size)⟩
end Go.Proofs.YtnigpmbpipmgfaaDoor

/-
  For the seats above cont (Roar, Bsi): boxes of containers; slices of ints; what Make, Flip answer. (What Shown2, LawFlips, WalkFlips, WalkParts hold of it, without tesseraelaw06.)
-/
namespace Go.Proofs.YtnigpmbpipmgfaaDoor
open Go.RowKit Tess

theorem info_int : (Tryd.prog.info? 3).map (fun i => (i.zero, i.size, i.bytes)) = some (some (.int .i64 0), 1, 8) := by kernel_rfl
/-- A container in a box of its own. -/
def CBox (W : World) (b : Nat) (f : Int) (D : ByteArray) : Prop := W.heap[b]? = some (.cells #[.int .i64 f, .string D] 75 (0, 0))
theorem CBox.new (W : World) (f : Int) (D : ByteArray) : CBox (W.alloc (.cells #[.int .i64 f, .string D] 75)) W.heap.size f D := heap_alloc_new W _
theorem CBox.lt {W : World} {b : Nat} {f : Int} {D : ByteArray} (h : CBox W b f D) : b < W.heap.size := lt_of_heap h
theorem CBox.below {W W' : World} {b B : Nat} {f : Int} {D : ByteArray} (h : CBox W b f D) (hb : Below B W W') (hB : b < B) : CBox W' b f D := (hb.block b hB).trans h
theorem CBox.later {W W' : World} {b : Nat} {f : Int} {D : ByteArray} (h : CBox W b f D) (hb : Below W.heap.size W W') : CBox W' b f D := h.below hb h.lt
theorem CBox.alloc {W : World} {b : Nat} {f : Int} {D : ByteArray} (h : CBox W b f D) (o : Obj) : CBox (W.alloc o) b f D := h.later ((Below.refl _ W).alloc (Nat.le_refl _) _)

theorem CBox.grown {W W' : World} {b : Nat} {row : Option Nat} {f : Int} {D : ByteArray} (h : CBox W b f D) (hg : W.grownBy W' row) (hne : some b ≠ row) : CBox W' b f D := (hg.block b h.lt hne).trans h

theorem ints_of_row {W : World} {base n : Nat} {v : Value} {zs : List Int} {xs : List Value} (h : W.ownsRow base 3 1 v n xs) (hx : xs = zs.map (Value.int .i64)) : Ints W.heap.size W v zs := by
  subst hx
  obtain ⟨hl, ⟨rfl, rfl⟩ | ⟨g, cap, cur, rfl, _, hg, hn, hc, hs, ht⟩⟩ := h
  · left
    exact ⟨⟨_, rfl⟩, List.length_eq_zero_iff.1 (by simpa using hl)⟩
  · right
    have hzl : zs.length = n := by simpa using hl
    subst hzl
    refine ⟨g, 0, cap, rfl, lt_of_heap hg, fun j hj => ?_⟩
    have e : cur[j]? = some (.int .i64 (zs[j]?.getD 0)) := by
      have h1 : (cur.toList.take (zs.length * 1))[j]? = (zs.map (Value.int .i64))[j]? := by rw [ht]
      rw [List.getElem?_take_of_lt (by omega)] at h1
      simpa [hj] using h1
    simp [World.cell?, hg, e]
theorem row_cap {W : World} {base n : Nat} {e : TypeId} {k : Nat} {v : Value} {xs : List Value} (h : W.ownsRow base e k v n xs) : ∀ p m c, v = .slice p m c → m ≤ c := by
  intro p m c hv
  obtain ⟨_, ⟨rfl, _⟩ | ⟨g, cap, cur, rfl, _, _, hn, _⟩⟩ := h
  · cases hv; exact Nat.le_refl _
  · cases hv; exact hn

theorem ofRes_best {s : Nat} (hs : s < big) : ofRes (best s).form (bs (best s).data) = (s, true) := by
  unfold ofRes
  rw [dn_bs (asOf_lt (best_as s)), ofC_best hs]
theorem ofRes_zero : ofRes 0 (bs []) = (0, false) := by decide +kernel
theorem mkSet_lt {zs : List Int} (h : zs.any badI = false) : mkSet zs < big := by
  refine putAll_lt (by decide +kernel) ?_
  intro x hx
  obtain ⟨z, hz, rfl⟩ := List.mem_map.1 hx
  have := badI_false h z hz
  omega
theorem mkRes_cases (zs : List Int) : (mkRes zs = (⟨0, []⟩, 60)) ∨ (∃ s, s < big ∧ mkRes zs = (best s, 0) ∧ zs.any badI = false ∧ s = mkSet zs) := by
  unfold mkRes
  cases h : zs.any badI with
  | true => left; rfl
  | false => right; exact ⟨_, mkSet_lt h, rfl, rfl, rfl⟩
theorem mkRes_len (zs : List Int) : (bs (mkRes zs).1.data).size ≤ 1000000 := by
  rw [bs_size]
  rcases mkRes_cases zs with h | ⟨s, _, h, _⟩ <;> rw [h]
  · decide
  · have := best_length_le s; show (best s).data.length ≤ _; omega
theorem flRes_len (f : Int) (D : ByteArray) (a b : Int) : (bs (flRes f D a b).1.data).size ≤ 1000000 := by
  rw [bs_size]
  unfold flRes
  split
  · have := best_length_le (turnTo (ofRes f D).1 a.toNat (b - a).toNat); show (best _).data.length ≤ _; omega
  · decide

/-- What Flip refuses. -/
theorem flips_bad {zs : List Int} {a b : Int} (h : (mkRes zs).2 ≠ 0 ∨ a < 0 ∨ b < 0 ∨ 256 < a ∨ 256 < b) : (flRes (mkRes zs).1.form (bs (mkRes zs).1.data) a b).2 = 60 := by
  unfold flRes
  rw [if_neg]
  rintro ⟨h1, h2⟩
  rcases mkRes_cases zs with hm | ⟨s, hs, hm, _⟩
  · rw [hm] at h1
    change (ofRes 0 (bs [])).2 = true at h1
    rw [ofRes_zero] at h1; cases h1
  · rw [hm] at h
    unfold badSpan at h2
    simp at h2
    simp at h
    omega
/-- What Flip does, and that twice it is nothing. -/
theorem flips_good {zs : List Int} {a b : Int} (h0 : (mkRes zs).2 = 0) (h : 0 ≤ a ∧ 0 ≤ b ∧ a ≤ 256 ∧ b ≤ 256) :
    (flRes (mkRes zs).1.form (bs (mkRes zs).1.data) a b).2 = 0 ∧
    flRes (flRes (mkRes zs).1.form (bs (mkRes zs).1.data) a b).1.form (bs (flRes (mkRes zs).1.form (bs (mkRes zs).1.data) a b).1.data) a b = mkRes zs := by
  rcases mkRes_cases zs with hm | ⟨s, hs, hm, _⟩
  · rw [hm] at h0; cases h0
  · rw [hm]
    have hsp : badSpan a b = false := by
      unfold badSpan; simp; omega
    have hkk : a.toNat + (b - a).toNat ≤ 256 := by omega
    have e1 : flRes (best s).form (bs (best s).data) a b = (best (turnTo s a.toNat (b - a).toNat), 0) := by
      unfold flRes; rw [ofRes_best hs]; rw [if_pos ⟨rfl, hsp⟩]
    have hs2 : turnTo s a.toNat (b - a).toNat < big := turnTo_lt hs hkk
    have e2 : flRes (best (turnTo s a.toNat (b - a).toNat)).form (bs (best (turnTo s a.toNat (b - a).toNat)).data) a b = (best s, 0) := by
      unfold flRes; rw [ofRes_best hs2]; rw [if_pos ⟨rfl, hsp⟩]; show (best (turnTo (turnTo s _ _) _ _), _) = _; rw [turnTo_twice hs hkk]
    show (flRes (best s).form (bs (best s).data) a b).2 = 0 ∧ _
    constructor
    · rw [e1]
    · show flRes (flRes (best s).form (bs (best s).data) a b).1.form (bs (flRes (best s).form (bs (best s).data) a b).1.data) a b = _
      rw [e1]; exact e2
theorem below_box {n₀ : Nat} {w A W : World} (hB : Below n₀ w A) (hA : n₀ ≤ A.heap.size) (hb : Below A.heap.size A W) (o : Obj) : Below n₀ w (W.alloc o) :=
  (hB.trans (hb.mono hA)).alloc (Nat.le_trans hA hb.size) o

/-- Boxes that hold containers. -/
def Boxes (W : World) (l : List (Nat × Int × ByteArray)) : Prop := ∀ x ∈ l, CBox W x.1 x.2.1 x.2.2
theorem Boxes.later {W W' : World} {l : List (Nat × Int × ByteArray)} (h : Boxes W l) (hb : Below W.heap.size W W') : Boxes W' l := fun x hx => (h x hx).later hb
theorem Boxes.more {W W' : World} {l : List (Nat × Int × ByteArray)} (h : Boxes W l) (hb : Below W.heap.size W W') (f : Int) (D : ByteArray) :
    Boxes (W'.alloc (.cells #[.int .i64 f, .string D] 75)) ((W'.heap.size, f, D) :: l) := by
  intro x hx
  rcases List.mem_cons.1 hx with rfl | hx
  · exact CBox.new W' f D
  · exact ((h x hx).later hb).alloc _
theorem Boxes.none (W : World) : Boxes W [] := fun x hx => by cases hx
end Go.Proofs.YtnigpmbpipmgfaaDoor
