/-
  ContFlips: the plain law and the walk.
-/
import Derived.Test.YtiannfegjbbpfaaDoorShown2
namespace Go.Proofs.YtiannfegjbbpfaaDoor
open Go.RowKit Tess

theorem ofRes_best {s : Nat} (hs : s < big) : ofRes (best s).form (bs (best s).data) = (s, true) := by
  unfold ofRes
  rw [dn_bs (asOf_lt (best_as s)), ofC_best hs]
theorem ofRes_zero : ofRes 0 (bs []) = (0, false) := by decide +kernel
theorem mkSet_lt {zs : List Int} (h : zs.any badI = false) : mkSet zs < big := by
  refine putAll_lt (by decide +kernel) ?_
  intro x hx
  obtain ⟨z, hz, rfl⟩ := List.mem_map.1 hx
  have := badI_false h z hz
  omega
theorem mkRes_cases (zs : List Int) : (mkRes zs = (⟨0, []⟩, 60)) ∨ (∃ s, s < big ∧ mkRes zs = (best s, 0) ∧ zs.any badI = false ∧ s = mkSet zs) := by
  unfold mkRes
  cases h : zs.any badI with
  | true => left; rfl
  | false => right; exact ⟨_, mkSet_lt h, rfl, rfl, rfl⟩
theorem mkRes_len (zs : List Int) : (bs (mkRes zs).1.data).size ≤ 1000000 := by
  rw [bs_size]
  rcases mkRes_cases zs with h | ⟨s, _, h, _⟩ <;> rw [h]
  · decide
  · have := best_length_le s; show (best s).data.length ≤ _; omega
theorem flRes_len (f : Int) (D : ByteArray) (a b : Int) : (bs (flRes f D a b).1.data).size ≤ 1000000 := by
  rw [bs_size]
  unfold flRes
  split
  · have := best_length_le (turnTo (ofRes f D).1 a.toNat (b - a).toNat); show (best _).data.length ≤ _; omega
  · decide

/-- What Flip refuses. -/
theorem flips_bad {zs : List Int} {a b : Int} (h : (mkRes zs).2 ≠ 0 ∨ a < 0 ∨ b < 0 ∨ 256 < a ∨ 256 < b) : (flRes (mkRes zs).1.form (bs (mkRes zs).1.data) a b).2 = 60 := by
  unfold flRes
  rw [if_neg]
  rintro ⟨h1, h2⟩
  rcases mkRes_cases zs with hm | ⟨s, hs, hm, _⟩
  · rw [hm] at h1
    change (ofRes 0 (bs [])).2 = true at h1
    rw [ofRes_zero] at h1; cases h1
  · rw [hm] at h
    unfold badSpan at h2
    simp at h2
    simp at h
    omega
/-- What Flip does, and that twice it is nothing. -/
theorem flips_good {zs : List Int} {a b : Int} (h0 : (mkRes zs).2 = 0) (h : 0 ≤ a ∧ 0 ≤ b ∧ a ≤ 256 ∧ b ≤ 256) :
    (flRes (mkRes zs).1.form (bs (mkRes zs).1.data) a b).2 = 0 ∧
    flRes (flRes (mkRes zs).1.form (bs (mkRes zs).1.data) a b).1.form (bs (flRes (mkRes zs).1.form (bs (mkRes zs).1.data) a b).1.data) a b = mkRes zs := by
  rcases mkRes_cases zs with hm | ⟨s, hs, hm, _⟩
  · rw [hm] at h0; cases h0
  · rw [hm]
    have hsp : badSpan a b = false := by
      unfold badSpan; simp; omega
    have hkk : a.toNat + (b - a).toNat ≤ 256 := by omega
    have e1 : flRes (best s).form (bs (best s).data) a b = (best (turnTo s a.toNat (b - a).toNat), 0) := by
      unfold flRes; rw [ofRes_best hs]; rw [if_pos ⟨rfl, hsp⟩]
    have hs2 : turnTo s a.toNat (b - a).toNat < big := turnTo_lt hs hkk
    have e2 : flRes (best (turnTo s a.toNat (b - a).toNat)).form (bs (best (turnTo s a.toNat (b - a).toNat)).data) a b = (best s, 0) := by
      unfold flRes; rw [ofRes_best hs2]; rw [if_pos ⟨rfl, hsp⟩]; show (best (turnTo (turnTo s _ _) _ _), _) = _; rw [turnTo_twice hs hkk]
    show (flRes (best s).form (bs (best s).data) a b).2 = 0 ∧ _
    constructor
    · rw [e1]
    · show flRes (flRes (best s).form (bs (best s).data) a b).1.form (bs (flRes (best s).form (bs (best s).data) a b).1.data) a b = _
      rw [e1]; exact e2
end Go.Proofs.YtiannfegjbbpfaaDoor
