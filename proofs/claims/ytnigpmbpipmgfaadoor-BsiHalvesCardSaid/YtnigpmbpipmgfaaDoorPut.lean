/-
  cont's put: numbers are put into a set of words.
-/
import Derived.WalkKit
import Derived.RegionTactic
import Derived.ChangeAlike
import Derived.BigRegion
import Derived.Maps.AppendAt
import Derived.Lib.Hide
import Derived.Test.YtnigpmbpipmgfaaDoorBits
namespace Go.Proofs.YtnigpmbpipmgfaaDoor
open Go.RowKit Tess

theorem pow_wrap (n : Nat) : IntKind.u64.wrap ((2 : Int) ^ (n % 64)) = ((2 ^ (n % 64) : Nat) : Int) := by
  have h : (2 : Nat) ^ (n % 64) < 18446744073709551616 := two_pow_lt (Nat.mod_lt _ (by decide))
  rw [show ((2 : Int) ^ (n % 64)) = ((2 ^ (n % 64) : Nat) : Int) from by rw [Int.natCast_pow]; rfl]
  exact wrapU h
theorem put_val (t n : Nat) : bits .or .u64 (limb t (n / 64) : Int) (IntKind.u64.wrap ((2 : Int) ^ (n % 64))) = (limb (put t n) (n / 64) : Int) := by
  rw [pow_wrap, word_or (limb_lt _ _) (Nat.mod_lt _ (by decide)), limb_put, if_pos rfl]
theorem turn_val (t n : Nat) : bits .xor .u64 (limb t (n / 64) : Int) (IntKind.u64.wrap ((2 : Int) ^ (n % 64))) = (limb (turn t n) (n / 64) : Int) := by
  rw [pow_wrap, word_xor (limb_lt _ _) (Nat.mod_lt _ (by decide)), limb_turn, if_pos rfl]
theorem put_others (t n j : Nat) : limb (put t n) j = if j = n / 64 then limb (put t n) (n / 64) else limb t j := by
  by_cases e : j = n / 64
  · rw [if_pos e, e]
  · rw [if_neg e, limb_put, if_neg (Ne.symm e)]
theorem turn_others (t n j : Nat) : limb (turn t n) j = if j = n / 64 then limb (turn t n) (n / 64) else limb t j := by
  by_cases e : j = n / 64
  · rw [if_pos e, e]
  · rw [if_neg e, limb_turn, if_neg (Ne.symm e)]
theorem grown_set (W : World) (b i : Nat) (v : Value) : W.grownBy (W.setCell ⟨b, i, none⟩ v).drew (some b) :=
  ⟨rfl, rfl, rfl, by simp [World.drew, World.setCell], fun k _ hk => Below.heap_setCell W ⟨b, i, none⟩ v k (fun e => hk (by rw [e]))⟩

set_option maxRecDepth 100000 in
set_option maxHeartbeats 2000000 in
theorem put_core (b s B off cap : Nat) (zs : List Nat) (w : World) (hw : Words 113 w b s) (hne : b ≠ B) (hc : ∀ j, j < zs.length → w.cell? ⟨B, off + j, none⟩ = some (.int .i64 ((zs[j]?.getD 0 : Nat) : Int)))
    (hz : ∀ j, j < zs.length → zs[j]?.getD 0 < 256) (hl : zs.length ≤ 4611686018427387904) :
    Calls Tryd.prog 75 #[.pointer (some ⟨b, 0, none⟩), .slice (some ⟨B, off, none⟩) zs.length cap] w fun e w' => e = .returned (.tuple #[]) ∧ Words 113 w' b (putAll s zs) ∧ w.grownBy w' (some b) := by
  go_enter Tryd.func75, Tryd.ntmps75
  go_wp2
  go_loopw [8] (fun i wr => ∃ k : Nat, k ≤ zs.length ∧ i = .int .i64 k ∧ Words 113 wr b (putAll s (zs.take k)) ∧ w.grownBy wr (some b))
    (fun i _ => zs.length - (intOf i).toNat)
  case atStart => exact ⟨0, Nat.zero_le _, rfl, hw, World.grownBy.refl _ _⟩
  case round =>
    obtain ⟨k, hk, rfl, hwr, hg⟩ := hrel
    by_cases hlt : k < zs.length
    · have hcx := hg.cell (hc k hlt) (by simp; exact fun e => hne e.symm)
      have hzk := hz k hlt
      have hstep : putAll s (zs.take (k + 1)) = put (putAll s (zs.take k)) (zs[k]?.getD 0) := by
        rw [List.take_succ_eq_append_getElem hlt, putAll_snoc]; simp [hlt]
      have hkd : decide (k < zs.length) = true := by simpa using hlt
      generalize zs[k]?.getD 0 = n at hcx hzk hstep
      generalize putAll s (zs.take k) = t at hwr hstep
      have hct := hwr.cell (i := n / 64) (by omega)
      have hft := hwr.frozen (n / 64)
      have hll := limb_lt t (n / 64)
      have hst := Lib.hid hstep
      clear hstep
      go_wp2
      go_region
      all_goals go_wp2
      go_roundw
      case rel =>
        refine ⟨k + 1, by omega, by go_num, ?_, hg.trans ?_⟩
        · rw [hst.out, put_val t n]
          exact (hwr.set_ (s' := put t n) (by omega) (fun j _ => put_others t n j)).drew
        · rw [put_val t n]
          exact grown_set _ _ _ _
      case measure => simp [intOf]; omega
    · have hge : zs.length ≤ k := by omega
      go_wp2
      go_end0
      have : zs.take k = zs := List.take_of_length_le hge
      rw [this] at hwr
      exact ⟨rfl, hwr, hg⟩
end Go.Proofs.YtnigpmbpipmgfaaDoor
