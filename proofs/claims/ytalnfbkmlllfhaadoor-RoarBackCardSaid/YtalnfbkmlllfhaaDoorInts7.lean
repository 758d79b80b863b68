/-
  The reference's Ints: two slices of the same numbers are the same. (The general part of Ints, for the seats above cont.)
-/
import Derived.Test.YtalnfbkmlllfhaaDoorPlainR
namespace Go.Proofs.YtalnfbkmlllfhaaDoor
open Go.RowKit Tess

/-- A slice of ints, in one spelling. -/
theorem Ints.slice {n₀ : Nat} {W : World} {v : Value} {zs : List Int} (h : Ints n₀ W v zs) :
    ∃ p cap, v = .slice p zs.length cap ∧ ∀ j, j < zs.length → ∃ b off, p = some ⟨b, off, none⟩ ∧ b < n₀ ∧ W.cell? ⟨b, off + j, none⟩ = some (.int .i64 (zs[j]?.getD 0)) := by
  rcases h with ⟨⟨p, rfl⟩, rfl⟩ | ⟨b, off, cap, rfl, hb, hc⟩
  · exact ⟨p, 0, rfl, fun j hj => by simp at hj⟩
  · exact ⟨_, _, rfl, fun j hj => ⟨b, off, rfl, hb, hc j hj⟩⟩

set_option maxRecDepth 100000 in
set_option maxHeartbeats 2000000 in
theorem ints_same {zs : List Int} {v1 v2 : Value} {w : World} (h1 : Ints w.heap.size w v1 zs) (h2 : Ints w.heap.size w v2 zs) (hl : zs.length ≤ 1000000) :
    Calls Tryd.prog 28 #[v1, v2] w fun e W' => e = .returned (.bool true) ∧ Below w.heap.size w W' := by
  obtain ⟨p1, c1, rfl, hc1⟩ := h1.slice
  obtain ⟨p2, c2, rfl, hc2⟩ := h2.slice
  have hc1' := Lib.hid hc1
  have hc2' := Lib.hid hc2
  clear h1 h2 hc1 hc2
  go_enter Tryd.func28, Tryd.ntmps28
  go_wp2
  go_loopw [5] (fun i wr => ∃ k : Nat, k ≤ zs.length ∧ i = .int .i64 k ∧ Hid (Below w.heap.size w wr))
    (fun i _ => zs.length - (intOf i).toNat)
  case atStart => exact ⟨0, Nat.zero_le _, rfl, Lib.hid (Below.refl _ _)⟩
  case round =>
    obtain ⟨k, hk, rfl, hB⟩ := hrel
    by_cases hlt : k < zs.length
    · obtain ⟨b1, o1, rfl, hb1, hx1⟩ := hc1'.out k hlt
      obtain ⟨b2, o2, rfl, hb2, hx2⟩ := hc2'.out k hlt
      have hy1 := (hB.out.cell (p := ⟨b1, o1 + k, none⟩) hb1).trans hx1
      have hy2 := (hB.out.cell (p := ⟨b2, o2 + k, none⟩) hb2).trans hx2
      have hkd : decide (k < zs.length) = true := by simpa using hlt
      have hk0 : (0 : Int) ≤ (k : Int) := by omega
      have hk1 : (k : Int) < (zs.length : Int) := by omega
      clear hx1 hx2
      generalize zs[k]?.getD 0 = z at hy1 hy2
      go_wp2
      go_region
      all_goals
        go_wp2
        go_roundw
        case rel => exact ⟨k + 1, by omega, by go_num, Lib.hid hB.out.drew⟩
        case measure => simp [intOf]; omega
    · have hkd : decide (k < zs.length) = false := by simpa using hlt
      go_wp2
      exact bodyPost_ret (v := .bool true) (by simp [results, Tryd.results28, go_sem]) rfl ⟨rfl, hB.out⟩

/-- The slice v holds the ints zs. -/
def HI (W : World) (v : Value) (zs : List Int) : Prop := Hid (Ints W.heap.size W v zs)
theorem HI.later {W W' : World} {v : Value} {zs : List Int} (h : HI W v zs) (hb : Below W.heap.size W W') : HI W' v zs := Lib.hid ((Hid.out h).below hb (Nat.le_refl _) |>.more hb.size)
theorem ints_hv {zs : List Int} {v1 v2 : Value} {w : World} (h1 : HI w v1 zs) (h2 : HI w v2 zs) (hl : zs.length ≤ 1000000) :
    Calls Tryd.prog 28 #[v1, v2] w fun e W' => e = .returned (.bool true) ∧ Below w.heap.size w W' := ints_same (Hid.out h1) (Hid.out h2) hl
end Go.Proofs.YtalnfbkmlllfhaaDoor
