/-
  The laws' heads: few, shown.
-/
import Derived.Test.YtiannfegjbbpfaaDoorCount
namespace Go.Proofs.YtiannfegjbbpfaaDoor
open Go.RowKit Tess

set_option maxRecDepth 100000 in
set_option maxHeartbeats 2000000 in
/-- **few(l)**: its first three hundred. -/
theorem few_any {zs : List Int} {sv : Value} {n₀ : Nat} {w : World} (h : Ints n₀ w sv zs) (hcap : ∀ p n c, sv = .slice p n c → n ≤ c) :
    Calls Tryd.prog 13 #[sv] w fun e W' => (∃ v, e = .returned v ∧ Ints n₀ w v (zs.take 300)) ∧ W' = w := by
  rcases h with ⟨⟨p, rfl⟩, rfl⟩ | ⟨b, off, cap, rfl, hb, hc⟩
  · cases p <;> go_enter Tryd.func13, Tryd.ntmps13
    all_goals go_wp2
    · exact bodyPost_ret (v := .slice none 0 0) (by simp [results, Tryd.results13, go_sem]) rfl ⟨⟨_, rfl, .inl ⟨⟨_, rfl⟩, rfl⟩⟩, rfl⟩
    · rename_i x
      exact bodyPost_ret (v := .slice (some x) 0 0) (by simp [results, Tryd.results13, go_sem]) rfl ⟨⟨_, rfl, .inl ⟨⟨_, rfl⟩, rfl⟩⟩, rfl⟩
  · have hcp := hcap _ _ _ rfl
    clear hcap
    have hc' := Lib.hid hc
    clear hc
    by_cases h3 : 300 < zs.length
    · have h1 : (300 : Int) < (zs.length : Int) := by omega
      have h2 : decide ((cap : Int) < 300) = false := by simp; omega
      have h5 := Lib.hid (show 300 ≤ zs.length by omega)
      have h6 : ¬ (cap : Int) < 300 := by omega
      clear h3
      go_enter Tryd.func13, Tryd.ntmps13
      go_wp2
      refine bodyPost_ret (v := .slice (some ⟨b, off, none⟩) 300 cap) (by simp [results, Tryd.results13, go_sem]) rfl ⟨⟨_, rfl, .inr ⟨b, off, cap, ?_, hb, fun j hj => ?_⟩⟩, rfl⟩
      · rw [List.length_take, Nat.min_eq_left h5.out]
      · rw [List.length_take] at hj
        rw [hc'.out j (by omega), List.getElem?_take_of_lt (by omega)]
    · have h1 : ¬ (300 : Int) < (zs.length : Int) := by omega
      have h5 := Lib.hid (show zs.length ≤ 300 by omega)
      clear h3
      go_enter Tryd.func13, Tryd.ntmps13
      go_wp2
      refine bodyPost_ret (v := .slice (some ⟨b, off, none⟩) zs.length cap) (by simp [results, Tryd.results13, go_sem]) rfl ⟨⟨_, rfl, ?_⟩, rfl⟩
      rw [List.take_of_length_le h5.out]
      exact .inr ⟨b, off, cap, rfl, hb, hc'.out⟩
end Go.Proofs.YtiannfegjbbpfaaDoor
