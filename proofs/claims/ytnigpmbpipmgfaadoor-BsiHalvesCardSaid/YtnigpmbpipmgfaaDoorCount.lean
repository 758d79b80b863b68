/-
  cont's count, Count, has, Has.
-/
import Derived.Test.YtnigpmbpipmgfaaDoorFlip
namespace Go.Proofs.YtnigpmbpipmgfaaDoor
open Go.RowKit Tess

/-- How many of the first k words' bits. -/
def popTo (s : Nat) : Nat → Nat
  | 0 => 0
  | k + 1 => popTo s k + pop (limb s k)
theorem popTo_le (s k : Nat) : popTo s k ≤ 64 * k := by
  induction k with
  | zero => exact Nat.le_refl _
  | succ k ih => have := pop_le (limb s k); show popTo s k + pop (limb s k) ≤ _; omega
theorem popTo_four (s : Nat) : popTo s 4 = count s := by rw [count_limbs]; simp [popTo]

set_option maxRecDepth 100000 in
set_option maxHeartbeats 2000000 in
theorem count_core (b s : Nat) (w : World) (hw : Words 113 w b s) :
    Calls Tryd.prog 84 #[.pointer (some ⟨b, 0, none⟩)] w fun e W' => e = .returned (.int .i64 (count s)) ∧ Below w.heap.size w W' := by
  go_enter Tryd.func84, Tryd.ntmps84
  go_wp2
  go_loopw [3, 7] (fun c i wr => ∃ k : Nat, k ≤ 4 ∧ i = .int .i64 k ∧ c = .int .i64 (popTo s k) ∧ wr = w)
    (fun _ i _ => 4 - (intOf i).toNat)
  case atStart => exact ⟨0, by omega, rfl, rfl, rfl⟩
  case round =>
    obtain ⟨k, hk, rfl, rfl, rfl⟩ := hrel
    have hpk := popTo_le s k
    by_cases hlt : k < 4
    · have hkd : decide ((k : Int) < 4) = true := by simp; omega
      have hcx := hw.cell (i := k) hlt
      have hst : Hid (popTo s (k + 1) = popTo s k + pop (limb s k)) := by show _ = _; rfl
      have hpl := pop_le (limb s k)
      have ho := Lib.hid (ones (limb s k) (limb_lt s k) wr)
      generalize popTo s k = c at hst hpk
      generalize pop (limb s k) = p at hst hpl ho
      go_wp2_with fail
      refine (ho.out).mono ?_
      rintro e W2 ⟨rfl, rfl⟩
      go_wp2
      go_roundw
      case rel => exact ⟨k + 1, by omega, by go_num, by rw [hst.out]; go_num, trivial⟩
      case measure => simp [intOf]; omega
    · have hkd : decide ((k : Int) < 4) = false := by simp; omega
      have hk4 := Lib.hid (show k = 4 by omega)
      go_wp2
      refine bodyPost_ret (v := .int .i64 (count s)) ?_ rfl ⟨rfl, Below.refl _ _⟩
      rw [← popTo_four, ← hk4.out]
      simp [results, Tryd.results84, go_sem]

/-- Is the number in the set? -/
def hasI (s : Nat) (n : Int) : Bool := decide (0 ≤ n) && decide (n < 256) && s.testBit n.toNat
theorem has_bit (s n : Nat) : (bits .and .u64 (((limb s (n / 64) : Nat) : Int) / 2 ^ (n % 64)) 1 == 1) = s.testBit n := by
  have h := testBit_limb s (n / 64) (n % 64)
  rw [show 64 * (n / 64) + n % 64 = n by omega] at h
  simp only [show n % 64 < 64 by omega, decide_true, Bool.true_and] at h
  have e : (((limb s (n / 64) : Nat) : Int) / 2 ^ (n % 64)) = ((limb s (n / 64) / 2 ^ (n % 64) : Nat) : Int) := by
    rw [show ((2 : Int) ^ (n % 64)) = ((2 ^ (n % 64) : Nat) : Int) from by rw [Int.natCast_pow]; rfl]
    exact (Int.natCast_ediv _ _).symm
  have hl : limb s (n / 64) / 2 ^ (n % 64) < 18446744073709551616 := Nat.lt_of_le_of_lt (Nat.div_le_self _ _) (limb_lt _ _)
  rw [e, show (1 : Int) = ((1 : Nat) : Int) from rfl, u64_and_nat _ 1 hl (by decide), ← h, Nat.testBit_eq_decide_div_mod_eq, Nat.and_one_is_mod, Bool.eq_iff_iff]
  simp
  omega

set_option maxRecDepth 100000 in
set_option maxHeartbeats 2000000 in
theorem has_core (b s : Nat) (n : Int) (w : World) (hw : Words 113 w b s) :
    Calls Tryd.prog 107 #[.pointer (some ⟨b, 0, none⟩), .int .i64 n] w fun e W' => e = .returned (.bool (hasI s n)) ∧ Below w.heap.size w W' := by
  go_enter Tryd.func107, Tryd.ntmps107
  by_cases h0 : 0 ≤ n
  · have h0' : decide (0 ≤ n) = true := by simpa using h0
    by_cases h1 : n < 256
    · have h1' : decide (n < 256) = true := by simpa using h1
      obtain ⟨m, rfl⟩ : ∃ m : Nat, n = m := ⟨n.toNat, by omega⟩
      have hm : m < 256 := by omega
      have hcx := hw.cell (i := m / 64) (by omega)
      have hhb := has_bit s m
      have hfin : Hid (hasI s m = s.testBit m) := by show _ = _; unfold hasI; rw [h0', h1']; simp
      go_wp2
      exact bodyPost_ret (v := .bool _) (by simp [results, Tryd.results107, go_sem]; rfl) rfl ⟨by rw [hfin.out], Below.refl _ _⟩
    · have h1' : decide (n < 256) = false := by simpa using h1
      have hfin : Hid (hasI s n = false) := by show _ = _; unfold hasI; rw [h1']; simp
      go_wp2
      exact bodyPost_ret (v := .bool false) (by simp [results, Tryd.results107, go_sem]) rfl ⟨by rw [hfin.out], Below.refl _ _⟩
  · have h0' : decide (0 ≤ n) = false := by simpa using h0
    have hfin : Hid (hasI s n = false) := by show _ = _; unfold hasI; rw [h0']; simp
    go_wp2
    exact bodyPost_ret (v := .bool false) (by simp [results, Tryd.results107, go_sem]) rfl ⟨by rw [hfin.out], Below.refl _ _⟩

/-- The block of words that a caller of `of` lays. -/
theorem of_words {w W1 : World} {form : Int} {D : ByteArray} (s : Nat) (hb : Below (w.alloc (.cells #[.int .i64 form, .string D] 75)).heap.size (w.alloc (.cells #[.int .i64 form, .string D] 75)) W1) :
    Words 113 (W1.alloc (.cells #[.int .u64 (limb s 0 : Int), .int .u64 (limb s 1 : Int), .int .u64 (limb s 2 : Int), .int .u64 (limb s 3 : Int)] 113)) W1.heap.size s ∧
    Below w.heap.size w (W1.alloc (.cells #[.int .u64 (limb s 0 : Int), .int .u64 (limb s 1 : Int), .int .u64 (limb s 2 : Int), .int .u64 (limb s 3 : Int)] 113)) := by
  have hs := hb.size
  rw [World.size_alloc] at hs
  exact ⟨Words.new W1 _ s, ((((Below.refl _ w).alloc (Nat.le_refl _) _).trans (hb.mono (by simp))).alloc (by omega) _)⟩

set_option maxRecDepth 100000 in
set_option maxHeartbeats 2000000 in
theorem Count_any (form : Int) (D : ByteArray) (w : World) (hD : D.size ≤ 1000000) (hT : Tab w) :
    Calls Tryd.prog 53 #[.agg #[.int .i64 form, .string D]] w fun e W' => e = .returned (.int .i64 (count (ofRes form D).1)) ∧ Below w.heap.size w W' := by
  have hR : Below w.heap.size w (w.alloc (.cells #[.int .i64 form, .string D] 75)) := ((Below.refl _ w).alloc (Nat.le_refl _) _)
  have ho := Lib.hid (of_any form D _ hD (hT.below hR hT.lt))
  go_enter Tryd.func53, Tryd.ntmps53
  go_wp2_with fail
  refine (ho.out).mono ?_
  rintro e W1 ⟨rfl, hb1⟩
  obtain ⟨hw, hB⟩ := of_words (ofRes form D).1 hb1
  have hc := Lib.hid (count_core W1.heap.size (ofRes form D).1 _ hw)
  simp only [wv, wcs, lv]
  go_wp2_with fail
  refine (hc.out).mono ?_
  rintro e W2 ⟨rfl, hb2⟩
  go_wp2
  exact bodyPost_ret (v := .int .i64 (count (ofRes form D).1)) (by simp [results, Tryd.results53, go_sem]) rfl ⟨rfl, hB.trans (hb2.mono hB.size)⟩

set_option maxRecDepth 100000 in
set_option maxHeartbeats 2000000 in
theorem Has_any (form : Int) (D : ByteArray) (n : Int) (w : World) (hD : D.size ≤ 1000000) (hT : Tab w) :
    Calls Tryd.prog 88 #[.agg #[.int .i64 form, .string D], .int .i64 n] w fun e W' => e = .returned (.bool (hasI (ofRes form D).1 n)) ∧ Below w.heap.size w W' := by
  have hR : Below w.heap.size w (w.alloc (.cells #[.int .i64 form, .string D] 75)) := ((Below.refl _ w).alloc (Nat.le_refl _) _)
  have ho := Lib.hid (of_any form D _ hD (hT.below hR hT.lt))
  go_enter Tryd.func88, Tryd.ntmps88
  go_wp2_with fail
  refine (ho.out).mono ?_
  rintro e W1 ⟨rfl, hb1⟩
  obtain ⟨hw, hB⟩ := of_words (ofRes form D).1 hb1
  have hc := Lib.hid (has_core W1.heap.size (ofRes form D).1 n _ hw)
  simp only [wv, wcs, lv]
  go_wp2_with fail
  refine (hc.out).mono ?_
  rintro e W2 ⟨rfl, hb2⟩
  go_wp2
  exact bodyPost_ret (v := .bool (hasI (ofRes form D).1 n)) (by simp [results, Tryd.results88, go_sem]) rfl ⟨rfl, hB.trans (hb2.mono hB.size)⟩
end Go.Proofs.YtnigpmbpipmgfaaDoor
