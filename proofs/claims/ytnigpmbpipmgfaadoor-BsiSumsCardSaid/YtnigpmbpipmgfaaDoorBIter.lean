/-
  Bits, Iter: several texts in one (merge.py).
-/
import Derived.WalkKit
import Derived.Laws.Bits64b
import Derived.Lib.TrailingZeros
import Derived.Test.YtnigpmbpipmgfaaDoorMem
import Derived.Test.YtnigpmbpipmgfaaDoorProg
import Derived.RangeFuncNested
import Derived.RangeFuncBound
import Derived.RangeFuncCalls
import Derived.RangeFuncLeaves
import Derived.Shelf.Abstract
import Derived.Shelf.RegionOpen
import Derived.OwnWalkIn
import Derived.TacticsInMore
import Derived.LoopNIn
import Derived.LoopIn
import Derived.WalkMore
import Derived.Lib.Hide

/-
  math/bits.TrailingZeros64 and OnesCount64: what they hand back at every word; the world is as it was.
-/
namespace Go.Proofs.YtnigpmbpipmgfaaDoor
open Go.RowKit Tess

/-- The library's table lies in its variable. -/
def Tab (w : World) : Prop := ∀ j, j < Lib.deBruijn64tab.length → w.cell? ⟨0, j, none⟩ = some (.int .u8 (Lib.deBruijn64tab.getD j 0))
theorem Tab.below {w w' : World} {B : Nat} (h : Tab w) (hb : Below B w w') (hB : 0 < B) : Tab w' := fun j hj => (hb.cell (p := ⟨_, j, none⟩) hB).trans (h j hj)
theorem Tab.lt {w : World} (h : Tab w) : 0 < w.heap.size := World.block_lt_of_cell? w _ (h 0 (by decide))

set_option maxHeartbeats 1000000 in
theorem tz64_core (x k idx : Nat) (w : World) (hx0 : ((x : Int) == 0) = false)
    (key : IntKind.u64.wrap (bits BinOp.and IntKind.u64 (x : Int) (IntKind.u64.wrap (-(x : Int))) * 285870213051353865) / 288230376151711744 = (idx : Int))
    (hi : idx < 64) (hk : k < 64) (hcell : w.cell? ⟨0, idx, none⟩ = some (.int .u8 k)) :
    Calls Tryd.prog 119 #[.int .u64 x] w fun e w' => e = .returned (.int .i64 k) ∧ w = w' := by
  go_enter Tryd.func119, Tryd.ntmps119
  go_wp2_with (simp only [key])
  go_ret
  exact ⟨rfl, rfl⟩

theorem tz64_key (x a : Nat) (hx : x < 18446744073709551616) (hx0 : x ≠ 0) (hlow : x &&& (18446744073709551616 - x) = a) :
    IntKind.u64.wrap (bits BinOp.and IntKind.u64 (x : Int) (IntKind.u64.wrap (-(x : Int))) * 285870213051353865) / 288230376151711744 = ((a * 285870213051353865 % 18446744073709551616 / 288230376151711744 : Nat) : Int) := by
  have e1 : IntKind.u64.wrap (-(x : Int)) = ((18446744073709551616 - x : Nat) : Int) := by rw [IntKind.wrap_u64]; omega
  rw [e1, u64_and_nat x _ hx (by omega), hlow, IntKind.wrap_u64]
  omega

/-- **math/bits.TrailingZeros64, at every word that is not 0.** -/
theorem tz64 (x : Nat) (hx : x < 18446744073709551616) (hx0 : x ≠ 0) (w : World) (hT : Tab w) :
    Calls Tryd.prog 119 #[.int .u64 x] w fun e w' => e = .returned (.int .i64 (Lib.ctz 64 x)) ∧ w = w' := by
  obtain ⟨hlow, hk⟩ := Lib.lowest_bit 64 x hx0 hx
  obtain ⟨hi, htab⟩ := Lib.deBruijn64_at _ hk
  have hcell := hT _ hi
  rw [htab] at hcell
  exact tz64_core x _ _ w (by simp; omega) (tz64_key x _ hx hx0 hlow) hi hk hcell

theorem ctz_step {x : Nat} (hx : x < 18446744073709551616) (hx0 : x ≠ 0) : Lib.ctz 64 x < 64 ∧ lows x = Lib.ctz 64 x :: lows (x &&& (x - 1)) := by
  obtain ⟨m, hm, hk⟩ := Lib.ctzFrom_spec 64 x (by omega) hx
  have e : Lib.ctz 64 x = Lib.ctzFrom 64 x := by simp [Lib.ctz, hx0]
  rw [e]
  exact ⟨hk, lows_step hk hm⟩

set_option maxHeartbeats 1000000 in
theorem ones_core (x a b c d e f r : Nat) (w : World)
    (k1 : IntKind.u64.wrap (bits .and .u64 ((x : Int) / 2) 6148914691236517205 + bits .and .u64 (x : Int) 6148914691236517205) = (a : Int))
    (k2 : IntKind.u64.wrap (bits .and .u64 ((a : Int) / 4) 3689348814741910323 + bits .and .u64 (a : Int) 3689348814741910323) = (b : Int))
    (k3 : bits .and .u64 (IntKind.u64.wrap ((b : Int) / 16 + (b : Int))) 1085102592571150095 = (c : Int))
    (k4 : IntKind.u64.wrap ((c : Int) + (c : Int) / 256) = (d : Int)) (k5 : IntKind.u64.wrap ((d : Int) + (d : Int) / 65536) = (e : Int)) (k6 : IntKind.u64.wrap ((e : Int) + (e : Int) / 4294967296) = (f : Int))
    (k7 : bits .and .i64 (wrap64 (f : Int)) 127 = (r : Int)) :
    Calls Tryd.prog 104 #[.int .u64 x] w fun e w' => e = .returned (.int .i64 r) ∧ w = w' := by
  go_enter Tryd.func104, Tryd.ntmps104
  go_wp2_with (first | simp only [k1] | simp only [k2] | simp only [k3] | simp only [k4] | simp only [k5] | simp only [k6] | simp only [k7])
  go_ret
  exact ⟨rfl, rfl⟩

theorem and127 (f : Nat) : bits .and .i64 (wrap64 (f : Int)) 127 = ((f % 128 : Nat) : Int) := by
  rw [i64_and127]; unfold wrap64; omega
theorem wrapU {n : Nat} (h : n < 18446744073709551616) : IntKind.u64.wrap (n : Int) = (n : Int) := by rw [IntKind.wrap_u64]; omega

theorem sumU (n m : Nat) : IntKind.u64.wrap ((n : Int) + (n : Int) / (m : Int)) = (((n + n / m) % 18446744073709551616 : Nat) : Int) := by
  rw [IntKind.wrap_u64, Int.natCast_emod, Int.natCast_add, Int.natCast_ediv]; rfl

/-- **math/bits.OnesCount64, at every word.** -/
theorem ones (x : Nat) (hx : x < 18446744073709551616) (w : World) :
    Calls Tryd.prog 104 #[.int .u64 x] w fun e w' => e = .returned (.int .i64 (pop x)) ∧ w = w' := by
  obtain ⟨_, hend⟩ := ones_go hx
  have h1 := ones1_lt hx
  have h2 := ones2_lt hx
  refine ones_core x (ones1 x) (ones2 (ones1 x)) (ones3 (ones2 (ones1 x))) _ _ _ (pop x) w ?_ ?_ ?_ (sumU _ 256) (sumU _ 65536) (sumU _ 4294967296) ?_
  · have e : ((x : Int) / 2) = ((x / 2 : Nat) : Int) := by omega
    rw [e, show (6148914691236517205 : Int) = ((6148914691236517205 : Nat) : Int) from rfl, u64_and_nat _ _ (by omega) (by decide), u64_and_nat _ _ hx (by decide), ← Int.natCast_add]
    exact wrapU h1
  · generalize ones1 x = a at *
    have e : ((a : Int) / 4) = ((a / 4 : Nat) : Int) := by omega
    rw [e, show (3689348814741910323 : Int) = ((3689348814741910323 : Nat) : Int) from rfl, u64_and_nat _ _ (by omega) (by decide), u64_and_nat _ _ h1 (by decide), ← Int.natCast_add]
    exact wrapU h2
  · have h3 := ones3_room hx
    generalize ones2 (ones1 x) = b at *
    have e : ((b : Int) / 16 + (b : Int)) = ((b / 16 + b : Nat) : Int) := by omega
    rw [e, wrapU h3, show (1085102592571150095 : Int) = ((1085102592571150095 : Nat) : Int) from rfl, u64_and_nat _ _ h3 (by decide)]
    rfl
  · rw [and127]
    exact congrArg Int.ofNat hend
end Go.Proofs.YtnigpmbpipmgfaaDoor

/-
  cont's iterator over a set: for whatever loop body that keeps what lay below n₀: all numbers, rising; or the first of them, a round having said no more.
-/
namespace Go.Proofs.YtnigpmbpipmgfaaDoor
open Go.RowKit Go.Shelf Tess

attribute [local go_sem] Oper.semAt_some

theorem numsTo_prefix (s : Nat) {j k : Nat} (h : j ≤ k) : numsTo s j <+: numsTo s k := by
  unfold numsTo
  obtain ⟨m, rfl⟩ : ∃ m, k = j + m := ⟨k - j, by omega⟩
  rw [Nat.mul_add, range_split, List.filter_append]
  exact List.prefix_append _ _
theorem numsTo_len (s k : Nat) : (numsTo s k).length ≤ 64 * k := by
  have := List.length_filter_le (fun n => s.testBit n) (List.range (64 * k))
  simpa [numsTo] using this

/-- A number of a container. -/
abbrev N8 := Fin 256
/-- The numbers of a list of such. -/
def vals (l : List N8) : List Nat := l.map (·.val)
theorem vals_snoc (l : List N8) (x : N8) : vals (l ++ [x]) = vals l ++ [x.val] := by simp [vals]

theorem scopeIn {P : Program} {c : Code} {n : Nat} {Q : Exit → Act → World → Prop} {a : Act} {w : World} (h : c.wpIn Fence.wide n P (Exit.noGoto Q) a w) : (Code.scope c).wpIn Fence.wide n P Q a w :=
  wpIn_wide.2 (wp_scope_straight ((wpIn_wide (n := n)).1 h))

set_option maxRecDepth 100000 in
set_option maxHeartbeats 2000000 in
theorem numbers1_in (n : Nat) (hn : 1 ≤ n) (l Bw b n₀ s : Nat) (hb : b < n₀) (hg : 0 < n₀) (J Jx : List N8 → World → Prop) (hJd : ∀ pre W, J pre W → J pre W.drew)
    (hY : ∀ pre x W, J pre W → pre.length < 256 → YieldAt Fence.wide (n - 1) Tryd.prog l #[.int .i64 (x.val : Int)] W fun e W' =>
      (e = .returned (.bool true) ∧ J (pre ++ [x]) W' ∧ Below n₀ W W') ∨ (e = .returned (.bool false) ∧ Jx (pre ++ [x]) W'))
    (W : World) (hBw : W.cell? ⟨Bw, 0, none⟩ = some (.pointer (some ⟨b, 0, none⟩))) (hw : Words 113 W b s) (hT : Tab W) (h0 : J [] W) :
    CallsIn Fence.wide n Tryd.prog 118 #[.func (.yield l) #[] #[], .pointer (some ⟨Bw, 0, none⟩)] W fun e W' => (∃ v, e = .returned v) ∧
      ((∃ ys, vals ys = nums s ∧ J ys W') ∨ (∃ pre, vals pre <+: nums s ∧ Jx pre W')) := by
  refine callsIn_of_wp Tryd.func118 rfl trivial ?_ rfl
  simp only [Tryd.ntmps118, List.size_toArray, List.length_cons, List.length_nil, Nat.reduceAdd, Nat.reduceSub, Array.replicate_succ, Array.replicate_zero, List.push_toArray, List.append_toArray, List.nil_append, List.cons_append]
  refine scopeIn ?_
  gi_wp2
  refine wpIn_label ?_
  gi_wp2
  gi_loopw [6] (fun i wr => ∃ (k : Nat) (pre : List N8), k ≤ 4 ∧ i = .int .i64 k ∧ vals pre = numsTo s k ∧ J pre wr ∧ Below n₀ W wr)
    (fun i _ => 4 - (intOf i).toNat)
  case atStart => exact ⟨0, [], by omega, rfl, rfl, h0, Below.refl _ _⟩
  case round =>
    obtain ⟨k, pre, hk, rfl, hv, hJs, hnx⟩ := hrel
    have hwr := hw.below hnx hb
    have hTr := hT.below hnx hg
    by_cases hlt : k < 4
    · have hck := hwr.cell hlt
      have hll := limb_lt s k
      have hkd : decide ((k : Int) < 4) = true := by simp; omega
      gi_wp2
      gi_region
      all_goals gi_wp2
      obtain ⟨wo, hwo⟩ : ∃ wo : World, wo = wr.drew := ⟨_, rfl⟩
      have hJo : J pre wo := by rw [hwo]; exact hJd _ _ hJs
      have hno : Below n₀ W wo := by rw [hwo]; exact hnx.drew
      rw [← hwo]
      clear hwo hwr hTr hJs hnx hck
      gi_loopw [4] (fun x wi => ∃ (y : Nat) (pi : List N8), x = .int .u64 y ∧ y < 18446744073709551616 ∧ vals pi ++ (lows y).map (64 * k + ·) = numsTo s (k + 1) ∧ J pi wi ∧ Below n₀ W wi)
        (fun x _ => (lows (intOf x).toNat).length)
      case atStart => exact ⟨limb s k, pre, rfl, hll, by rw [numsTo_succ, hv], hJo, hno⟩
      case round =>
        obtain ⟨y, pi, rfl, hy64, hvi, hJi, hni⟩ := hrel
        have hTi := hT.below hni hg
        by_cases hy0 : y = 0
        · have hz : ((y : Int) != 0) = false := by rw [hy0]; rfl
          have hvk : vals pi = numsTo s (k + 1) := by rw [← hvi, hy0, lows_zero]; simp
          have hyy0 := Lib.hid hy0
          clear hy0
          gi_wp2
          go_roundw
          case rel => exact ⟨k + 1, pi, by omega, by go_num, hvk, hJi, hni⟩
          case measure => simp [intOf]; omega
        · obtain ⟨hc, hlow⟩ := ctz_step hy64 hy0
          have htz0 := tz64 y hy64 hy0 wr hTi
          generalize Lib.ctz 64 y = c at hc hlow htz0
          have htz : Hid (Calls Tryd.prog 119 #[.int .u64 y] wr fun e w' => e = .returned (.int .i64 c) ∧ wr = w') := htz0
          clear htz0
          have hb256 : 64 * k + c < 256 := by omega
          have hlen : pi.length < 256 := by
            have h1 := congrArg List.length hvi
            rw [hlow] at h1
            have h2 := numsTo_len s (k + 1)
            simp [vals] at h1
            omega
          obtain ⟨fn, tmps, assign, body, hyy, hR⟩ := hY pi ⟨64 * k + c, hb256⟩ wr hJi hlen
          have ev : (((⟨64 * k + c, hb256⟩ : N8).val : Nat) : Int) = (k : Int) * 64 + c := by simp; omega
          rw [ev] at hyy
          have hne : ((y : Int) != 0) = true := by rw [bne_iff_ne]; omega
          have hlow' := Lib.hid hlow
          have hvi' := Lib.hid hvi
          clear hlow hvi ev
          gi_wp2_with (refine ⟨trivial, ?_⟩; gi_at_call 119; refine CallsIn.mono (callsIn_wide.2 htz.out) ?_; rintro e w' ⟨rfl, rfl⟩)
          refine hR.mono ?_
          rintro e W3 (⟨rfl, hJ3, hk3⟩ | ⟨rfl, hJx3⟩)
          · have hand : bits .and .u64 (y : Int) ((y : Int) - 1) = ((y &&& (y - 1) : Nat) : Int) := by
              have e1 : ((y : Int) - 1) = ((y - 1 : Nat) : Int) := by omega
              rw [e1, u64_and_nat _ _ hy64 (by omega)]
            have hy1 : 1 ≤ y := by omega
            gi_wp2
            go_roundw
            case rel =>
              refine ⟨y &&& (y - 1), pi ++ [⟨64 * k + c, hb256⟩], rfl, Nat.lt_of_le_of_lt Nat.and_le_left hy64, ?_, hJ3, hni.trans hk3⟩
              rw [vals_snoc, ← hvi'.out, hlow'.out]; simp
            case measure => simp [intOf, hlow'.out]
          · gi_wp2
            rw [Exit.noGoto_normal]
            go_end0
            refine ⟨⟨_, rfl⟩, .inr ⟨pi ++ [⟨64 * k + c, hb256⟩], ?_, hJx3⟩⟩
            rw [vals_snoc]
            have h1 := hvi'.out
            rw [hlow'.out] at h1
            have h2 : vals pi ++ [64 * k + c] <+: numsTo s (k + 1) := ⟨(lows (y &&& (y - 1))).map (64 * k + ·), by rw [← h1]; simp⟩
            rw [← numsTo_four]
            exact h2.trans (numsTo_prefix s (show k + 1 ≤ 4 by omega))
    · have hge : 4 ≤ k := by omega
      have h4 : k = 4 := by omega
      have hfin : vals pre = nums s := by rw [hv, h4, numsTo_four]
      clear h4
      gi_wp2
      rw [Exit.noGoto_normal]
      go_end0
      exact ⟨⟨_, rfl⟩, .inl ⟨pre, hfin, hJs⟩⟩

set_option maxHeartbeats 1000000 in
/-- w.numbers(): the receiver is boxed; the function value captures the box. -/
theorem numbers_in (n : Nat) (a : Option Addr) (w : World) :
    CallsIn Fence.wide n Tryd.prog 116 #[.pointer a] w fun e w' => e = .returned (.func (.func 118) #[] #[.pointer (some ⟨w.heap.size, 0, none⟩)]) ∧ w' = w.alloc (.cells #[.pointer a] 138) := by
  refine callsIn_of_wp Tryd.func116 rfl trivial ?_ rfl
  simp only [Tryd.ntmps116, List.size_toArray, List.length_cons, List.length_nil, Nat.reduceAdd, Nat.reduceSub, Array.replicate_succ, Array.replicate_zero, List.push_toArray, List.append_toArray, List.nil_append, List.cons_append]
  gi_wp2
  go_ret
  exact ⟨rfl, rfl⟩

/-- All numbers, rising; or the first of them. -/
theorem numbers_stops (n : Nat) (hn : 1 ≤ n) (Bw b n₀ s : Nat) (w : World) (hb : b < n₀) (hg : 0 < n₀) (hBw : Bw < w.heap.size) (hn₀ : n₀ ≤ w.heap.size)
    (hc : w.cell? ⟨Bw, 0, none⟩ = some (.pointer (some ⟨b, 0, none⟩))) (hw : Words 113 w b s) (hT : Tab w) :
    SeqStopsK Fence.wide n Tryd.prog 118 #[.pointer (some ⟨Bw, 0, none⟩)] (fun x : N8 => #[Value.int .i64 (x.val : Int)]) (Below n₀) (fun ys => vals ys = nums s) (fun pre => vals pre <+: nums s) 256 w := fun l J Jx W hW hJ _ hY h0 =>
  numbers1_in n hn l Bw b n₀ s hb hg J Jx (fun pre W' h => hJ pre W' W'.drew none h ⟨rfl, rfl, rfl, Nat.le_refl _, fun _ _ _ => rfl⟩ (fun _ e => by cases e)) hY W ((hW.cell (p := ⟨Bw, 0, none⟩) hBw).trans hc)
    (hw.below hW (by omega)) (hT.below hW (by omega)) h0
end Go.Proofs.YtnigpmbpipmgfaaDoor
