/-
  math/bits.TrailingZeros64 and OnesCount64: what they hand back at every word; the world is as it was.
-/
import Derived.WalkKit
import Derived.Laws.Bits64b
import Derived.Lib.TrailingZeros
import Derived.Test.YtnigpmbpipmgfaaDoorMem
import Derived.Test.YtnigpmbpipmgfaaDoorProg
namespace Go.Proofs.YtnigpmbpipmgfaaDoor
open Go.RowKit Tess

/-- The library's table lies in its variable. -/
def Tab (w : World) : Prop := ∀ j, j < Lib.deBruijn64tab.length → w.cell? ⟨0, j, none⟩ = some (.int .u8 (Lib.deBruijn64tab.getD j 0))
theorem Tab.below {w w' : World} {B : Nat} (h : Tab w) (hb : Below B w w') (hB : 0 < B) : Tab w' := fun j hj => (hb.cell (p := ⟨_, j, none⟩) hB).trans (h j hj)
theorem Tab.lt {w : World} (h : Tab w) : 0 < w.heap.size := World.block_lt_of_cell? w _ (h 0 (by decide))

set_option maxHeartbeats 1000000 in
theorem tz64_core (x k idx : Nat) (w : World) (hx0 : ((x : Int) == 0) = false)
    (key : IntKind.u64.wrap (bits BinOp.and IntKind.u64 (x : Int) (IntKind.u64.wrap (-(x : Int))) * 285870213051353865) / 288230376151711744 = (idx : Int))
    (hi : idx < 64) (hk : k < 64) (hcell : w.cell? ⟨0, idx, none⟩ = some (.int .u8 k)) :
    Calls Tryd.prog 119 #[.int .u64 x] w fun e w' => e = .returned (.int .i64 k) ∧ w = w' := by
  go_enter Tryd.func119, Tryd.ntmps119
  go_wp2_with (simp only [key])
  go_ret
  exact ⟨rfl, rfl⟩

theorem tz64_key (x a : Nat) (hx : x < 18446744073709551616) (hx0 : x ≠ 0) (hlow : x &&& (18446744073709551616 - x) = a) :
    IntKind.u64.wrap (bits BinOp.and IntKind.u64 (x : Int) (IntKind.u64.wrap (-(x : Int))) * 285870213051353865) / 288230376151711744 = ((a * 285870213051353865 % 18446744073709551616 / 288230376151711744 : Nat) : Int) := by
  have e1 : IntKind.u64.wrap (-(x : Int)) = ((18446744073709551616 - x : Nat) : Int) := by rw [IntKind.wrap_u64]; omega
  rw [e1, u64_and_nat x _ hx (by omega), hlow, IntKind.wrap_u64]
  omega

/-- **math/bits.TrailingZeros64, at every word that is not 0.** -/
theorem tz64 (x : Nat) (hx : x < 18446744073709551616) (hx0 : x ≠ 0) (w : World) (hT : Tab w) :
    Calls Tryd.prog 119 #[.int .u64 x] w fun e w' => e = .returned (.int .i64 (Lib.ctz 64 x)) ∧ w = w' := by
  obtain ⟨hlow, hk⟩ := Lib.lowest_bit 64 x hx0 hx
  obtain ⟨hi, htab⟩ := Lib.deBruijn64_at _ hk
  have hcell := hT _ hi
  rw [htab] at hcell
  exact tz64_core x _ _ w (by simp; omega) (tz64_key x _ hx hx0 hlow) hi hk hcell

theorem ctz_step {x : Nat} (hx : x < 18446744073709551616) (hx0 : x ≠ 0) : Lib.ctz 64 x < 64 ∧ lows x = Lib.ctz 64 x :: lows (x &&& (x - 1)) := by
  obtain ⟨m, hm, hk⟩ := Lib.ctzFrom_spec 64 x (by omega) hx
  have e : Lib.ctz 64 x = Lib.ctzFrom 64 x := by simp [Lib.ctz, hx0]
  rw [e]
  exact ⟨hk, lows_step hk hm⟩

set_option maxHeartbeats 1000000 in
theorem ones_core (x a b c d e f r : Nat) (w : World)
    (k1 : IntKind.u64.wrap (bits .and .u64 ((x : Int) / 2) 6148914691236517205 + bits .and .u64 (x : Int) 6148914691236517205) = (a : Int))
    (k2 : IntKind.u64.wrap (bits .and .u64 ((a : Int) / 4) 3689348814741910323 + bits .and .u64 (a : Int) 3689348814741910323) = (b : Int))
    (k3 : bits .and .u64 (IntKind.u64.wrap ((b : Int) / 16 + (b : Int))) 1085102592571150095 = (c : Int))
    (k4 : IntKind.u64.wrap ((c : Int) + (c : Int) / 256) = (d : Int)) (k5 : IntKind.u64.wrap ((d : Int) + (d : Int) / 65536) = (e : Int)) (k6 : IntKind.u64.wrap ((e : Int) + (e : Int) / 4294967296) = (f : Int))
    (k7 : bits .and .i64 (wrap64 (f : Int)) 127 = (r : Int)) :
    Calls Tryd.prog 104 #[.int .u64 x] w fun e w' => e = .returned (.int .i64 r) ∧ w = w' := by
  go_enter Tryd.func104, Tryd.ntmps104
  go_wp2_with (first | simp only [k1] | simp only [k2] | simp only [k3] | simp only [k4] | simp only [k5] | simp only [k6] | simp only [k7])
  go_ret
  exact ⟨rfl, rfl⟩

theorem and127 (f : Nat) : bits .and .i64 (wrap64 (f : Int)) 127 = ((f % 128 : Nat) : Int) := by
  rw [i64_and127]; unfold wrap64; omega
theorem wrapU {n : Nat} (h : n < 18446744073709551616) : IntKind.u64.wrap (n : Int) = (n : Int) := by rw [IntKind.wrap_u64]; omega

theorem sumU (n m : Nat) : IntKind.u64.wrap ((n : Int) + (n : Int) / (m : Int)) = (((n + n / m) % 18446744073709551616 : Nat) : Int) := by
  rw [IntKind.wrap_u64, Int.natCast_emod, Int.natCast_add, Int.natCast_ediv]; rfl

/-- **math/bits.OnesCount64, at every word.** -/
theorem ones (x : Nat) (hx : x < 18446744073709551616) (w : World) :
    Calls Tryd.prog 104 #[.int .u64 x] w fun e w' => e = .returned (.int .i64 (pop x)) ∧ w = w' := by
  obtain ⟨_, hend⟩ := ones_go hx
  have h1 := ones1_lt hx
  have h2 := ones2_lt hx
  refine ones_core x (ones1 x) (ones2 (ones1 x)) (ones3 (ones2 (ones1 x))) _ _ _ (pop x) w ?_ ?_ ?_ (sumU _ 256) (sumU _ 65536) (sumU _ 4294967296) ?_
  · have e : ((x : Int) / 2) = ((x / 2 : Nat) : Int) := by omega
    rw [e, show (6148914691236517205 : Int) = ((6148914691236517205 : Nat) : Int) from rfl, u64_and_nat _ _ (by omega) (by decide), u64_and_nat _ _ hx (by decide), ← Int.natCast_add]
    exact wrapU h1
  · generalize ones1 x = a at *
    have e : ((a : Int) / 4) = ((a / 4 : Nat) : Int) := by omega
    rw [e, show (3689348814741910323 : Int) = ((3689348814741910323 : Nat) : Int) from rfl, u64_and_nat _ _ (by omega) (by decide), u64_and_nat _ _ h1 (by decide), ← Int.natCast_add]
    exact wrapU h2
  · have h3 := ones3_room hx
    generalize ones2 (ones1 x) = b at *
    have e : ((b : Int) / 16 + (b : Int)) = ((b / 16 + b : Nat) : Int) := by omega
    rw [e, wrapU h3, show (1085102592571150095 : Int) = ((1085102592571150095 : Nat) : Int) from rfl, u64_and_nat _ _ h3 (by decide)]
    rfl
  · rw [and127]
    exact congrArg Int.ofNat hend
end Go.Proofs.YtnigpmbpipmgfaaDoor
