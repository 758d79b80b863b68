/-
  The reference's Right, As; the laws' cut.
-/
import Derived.Test.YtiannfegjbbpfaaDoorRBest
import Derived.Test.YtiannfegjbbpfaaDoorAsC
namespace Go.Proofs.YtiannfegjbbpfaaDoor
open Go.RowKit Tess

theorem ofRes_form {f : Int} {D : ByteArray} (h : ¬ (1 ≤ f ∧ f ≤ 3)) : (ofRes f D).2 = false := by
  rw [ofRes_none]
  unfold asOf
  rw [if_neg (by omega), if_neg (by omega), if_neg (by omega)]
theorem asOf_short {s : Nat} {f : Int} {d : List Nat} (h : asOf s f = some d) : d.length ≤ 256 := by
  unfold asOf at h
  split at h
  · obtain rfl := Option.some.inj h; exact count_le s
  · split at h
    · obtain rfl := Option.some.inj h; rw [raw_length]; decide
    · split at h
      · obtain rfl := Option.some.inj h; exact runs_length_le s
      · cases h
theorem ofRes_long {f : Int} {D : ByteArray} (h : 256 < D.size) : (ofRes f D).2 = false := by
  cases hd : asOf (readAll f (dn D)) f with
  | none => rw [ofRes_none hd]
  | some d =>
    rw [ofRes_other hd]
    cases hs : sameC f (bs d) f D with
    | false => rfl
    | true =>
      have := (sameC_iff.1 hs).2
      have h2 := asOf_short hd
      rw [← this, bs_size] at h
      omega
theorem sameC_comm (f1 : Int) (D1 : ByteArray) (f2 : Int) (D2 : ByteArray) : sameC f1 D1 f2 D2 = sameC f2 D2 f1 D1 := by
  rw [Bool.eq_iff_iff, sameC_iff, sameC_iff]
  exact ⟨fun h => ⟨h.1.symm, h.2.symm⟩, fun h => ⟨h.1.symm, h.2.symm⟩⟩
theorem ofRes_cmp {f : Int} {D : ByteArray} {d : List Nat} (h : asOf (readAll f (dn D)) f = some d) : (ofRes f D).2 = sameC f D f (bs d) := by
  rw [sameC_comm]
  cases hs : sameC f (bs d) f D with
  | false => rw [ofRes_other h hs]
  | true => rw [ofRes_same h hs]
theorem asOf_ex {s : Nat} {f : Int} (h : 1 ≤ f ∧ f ≤ 3) : ∃ d, asOf s f = some d := by
  unfold asOf
  by_cases e1 : f = 1
  · exact ⟨_, by rw [if_pos e1]⟩
  · by_cases e2 : f = 2
    · exact ⟨_, by rw [if_neg e1, if_pos e2]⟩
    · exact ⟨_, by rw [if_neg e1, if_neg e2, if_pos (by omega)]⟩

set_option maxRecDepth 100000 in
set_option maxHeartbeats 4000000 in
/-- The reference's **Right(c)**. -/
theorem rright_any (f : Int) (D : ByteArray) (w : World) (hD : D.size ≤ 1000000) :
    Calls Tryd.prog 31 #[.agg #[.int .i64 f, .string D]] w fun e W' => e = .returned (.bool (ofRes f D).2) ∧ Below w.heap.size w W' := by
  have hB : Hid (Below w.heap.size w (w.alloc (.cells #[.int .i64 f, .string D] 25))) := ((Below.refl _ w).alloc (Nat.le_refl _) _)
  have hx := Lib.hid (CBox.new w f D)
  obtain ⟨d0, d1, -, -⟩ := blk2_cells hx.out
  by_cases h1 : 1 ≤ f
  · have g1 : decide (1 ≤ f) = true := by simpa using h1
    by_cases h2 : f ≤ 3
    · have g2 : decide (f ≤ 3) = true := by simpa using h2
      by_cases h3 : D.size ≤ 256
      · have g3 : decide ((D.size : Int) ≤ 256) = true := by simp; omega
        obtain ⟨d, hd⟩ := asOf_ex (s := readAll f (dn D)) ⟨h1, h2⟩
        have hres := Lib.hid (ofRes_cmp hd)
        have heq := cont_eq f f D (bs d)
        have hgd := cont_guard
        obtain ⟨s, hs⟩ : ∃ s, readAll f (dn D) = s := ⟨_, rfl⟩
        have hset : Hid (∀ W, Calls Tryd.prog 44 #[.agg #[.int .i64 f, .string D]] W fun e W' => e = .returned (.agg (bc s)) ∧ Below W.heap.size W W') := fun W => by rw [← hs]; exact Set_any f D W hD
        rw [hs] at hd
        have hfm : Hid (∀ W, Calls Tryd.prog 47 #[.agg (bc s), .int .i64 f] W fun e W' => e = .returned (cv f d) ∧ Below W.heap.size W W') := fun W => form_any hd W
        clear hd hs h1 h2 h3
        generalize sameC f D f (bs d) = q at heq hres
        go_enter Tryd.func31, Tryd.ntmps31
        go_wp2
        go_region_held3 (fun W' => Hid (Below w.heap.size w W') ∧ Hid (CBox W' w.heap.size f D) ∧ W'.cell? ⟨w.heap.size, 0, none⟩ = some (.int .i64 f) ∧ W'.cell? ⟨w.heap.size, 1, none⟩ = some (.string D))
          (first | exact ⟨Lib.hid (Below.drew hB.out), hx, d0, d1⟩ | assumption)
          (first
            | (go_at_call 44
               refine (hset.out _).mono ?_
               rintro e Wn ⟨rfl, hbn⟩
               obtain ⟨s1, s2, _⟩ : _ ∧ _ ∧ _ := by assumption
               have hnew := keep1 hbn s1 s2)
            | (go_at_call 47
               refine (hfm.out _).mono ?_
               rintro e Wn ⟨rfl, hbn⟩
               simp only [cv]
               obtain ⟨s1, s2, _⟩ : _ ∧ _ ∧ _ := by assumption
               have hnew := keep1 hbn s1 s2))
        all_goals go_wp2
        all_goals exact bodyPost_ret (v := .bool q) (by simp [results, Tryd.results31, go_sem]) rfl ⟨by rw [hres.out], Hid.out (And.left (by assumption))⟩
      · have g3 : decide ((D.size : Int) ≤ 256) = false := by simp; omega
        have hres := Lib.hid (ofRes_long (f := f) (show 256 < D.size by omega))
        clear h1 h2 h3
        go_enter Tryd.func31, Tryd.ntmps31
        go_wp2
        go_region
        all_goals go_wp2
        all_goals exact bodyPost_ret (v := .bool false) (by simp [results, Tryd.results31, go_sem]) rfl ⟨by rw [hres.out], Below.drew hB.out⟩
    · have g2 : decide (f ≤ 3) = false := by simpa using h2
      have hres := Lib.hid (ofRes_form (f := f) (D := D) (fun h => h2 h.2))
      clear h1 h2
      go_enter Tryd.func31, Tryd.ntmps31
      go_wp2
      go_region
      all_goals go_wp2
      all_goals exact bodyPost_ret (v := .bool false) (by simp [results, Tryd.results31, go_sem]) rfl ⟨by rw [hres.out], Below.drew hB.out⟩
  · have g1 : decide (1 ≤ f) = false := by simpa using h1
    have hres := Lib.hid (ofRes_form (f := f) (D := D) (fun h => h1 h.1))
    clear h1
    go_enter Tryd.func31, Tryd.ntmps31
    go_wp2
    go_region
    all_goals go_wp2
    all_goals exact bodyPost_ret (v := .bool false) (by simp [results, Tryd.results31, go_sem]) rfl ⟨by rw [hres.out], Below.drew hB.out⟩

/-- A string's first 260 bytes. -/
def cutD (D : ByteArray) : ByteArray := if D.size ≤ 260 then D else D.extract 0 260
theorem cutD_size (D : ByteArray) : (cutD D).size ≤ 260 := by
  unfold cutD
  split
  · assumption
  · rw [ByteArray.size_extract]; omega
end Go.Proofs.YtiannfegjbbpfaaDoor
