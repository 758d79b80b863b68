/-
  The reference's Ints: two slices of the same numbers are the same. Values by a name that no tactic looks into.
-/
import Derived.Test.YtiannfegjbbpfaaDoorHeld
import Derived.Test.YtiannfegjbbpfaaDoorRight
import Derived.Test.YtiannfegjbbpfaaDoorAsC
namespace Go.Proofs.YtiannfegjbbpfaaDoor
open Go.RowKit Tess

/-- A slice of ints, in one spelling. -/
theorem Ints.slice {n₀ : Nat} {W : World} {v : Value} {zs : List Int} (h : Ints n₀ W v zs) :
    ∃ p cap, v = .slice p zs.length cap ∧ ∀ j, j < zs.length → ∃ b off, p = some ⟨b, off, none⟩ ∧ b < n₀ ∧ W.cell? ⟨b, off + j, none⟩ = some (.int .i64 (zs[j]?.getD 0)) := by
  rcases h with ⟨⟨p, rfl⟩, rfl⟩ | ⟨b, off, cap, rfl, hb, hc⟩
  · exact ⟨p, 0, rfl, fun j hj => by simp at hj⟩
  · exact ⟨_, _, rfl, fun j hj => ⟨b, off, rfl, hb, hc j hj⟩⟩

set_option maxRecDepth 100000 in
set_option maxHeartbeats 2000000 in
theorem ints_same {zs : List Int} {v1 v2 : Value} {w : World} (h1 : Ints w.heap.size w v1 zs) (h2 : Ints w.heap.size w v2 zs) (hl : zs.length ≤ 1000000) :
    Calls Tryd.prog 26 #[v1, v2] w fun e W' => e = .returned (.bool true) ∧ Below w.heap.size w W' := by
  obtain ⟨p1, c1, rfl, hc1⟩ := h1.slice
  obtain ⟨p2, c2, rfl, hc2⟩ := h2.slice
  have hc1' := Lib.hid hc1
  have hc2' := Lib.hid hc2
  clear h1 h2 hc1 hc2
  go_enter Tryd.func26, Tryd.ntmps26
  go_wp2
  go_loopw [5] (fun i wr => ∃ k : Nat, k ≤ zs.length ∧ i = .int .i64 k ∧ Hid (Below w.heap.size w wr))
    (fun i _ => zs.length - (intOf i).toNat)
  case atStart => exact ⟨0, Nat.zero_le _, rfl, Lib.hid (Below.refl _ _)⟩
  case round =>
    obtain ⟨k, hk, rfl, hB⟩ := hrel
    by_cases hlt : k < zs.length
    · obtain ⟨b1, o1, rfl, hb1, hx1⟩ := hc1'.out k hlt
      obtain ⟨b2, o2, rfl, hb2, hx2⟩ := hc2'.out k hlt
      have hy1 := (hB.out.cell (p := ⟨b1, o1 + k, none⟩) hb1).trans hx1
      have hy2 := (hB.out.cell (p := ⟨b2, o2 + k, none⟩) hb2).trans hx2
      have hkd : decide (k < zs.length) = true := by simpa using hlt
      have hk0 : (0 : Int) ≤ (k : Int) := by omega
      have hk1 : (k : Int) < (zs.length : Int) := by omega
      clear hx1 hx2
      generalize zs[k]?.getD 0 = z at hy1 hy2
      go_wp2
      go_region
      all_goals
        go_wp2
        go_roundw
        case rel => exact ⟨k + 1, by omega, by go_num, Lib.hid hB.out.drew⟩
        case measure => simp [intOf]; omega
    · have hkd : decide (k < zs.length) = false := by simpa using hlt
      go_wp2
      exact bodyPost_ret (v := .bool true) (by simp [results, Tryd.results26, go_sem]) rfl ⟨rfl, hB.out⟩

/-- A container's numbers. -/
def numsI (f : Int) (D : ByteArray) : List Int := (nums (ofRes f D).1).map Int.ofNat
theorem numsI_len (f : Int) (D : ByteArray) : (numsI f D).length ≤ 1000000 := by
  unfold numsI
  rw [List.length_map]
  exact Nat.le_trans (count_le (ofRes f D).1) (by decide)
/-- The slice v holds the ints zs. -/
def HI (W : World) (v : Value) (zs : List Int) : Prop := Hid (Ints W.heap.size W v zs)
theorem HI.later {W W' : World} {v : Value} {zs : List Int} (h : HI W v zs) (hb : Below W.heap.size W W') : HI W' v zs := Lib.hid ((Hid.out h).below hb (Nat.le_refl _) |>.more hb.size)
theorem Values_hv (f : Int) (D : ByteArray) (w : World) (hD : D.size ≤ 1000000) (hT : Tab w) :
    Calls Tryd.prog 25 #[.agg #[.int .i64 f, .string D]] w fun e W' => ∃ v, e = .returned v ∧ HI W' v (numsI f D) ∧ Below w.heap.size w W' := by
  refine (Values_any f D w hD hT).mono ?_
  rintro e W' ⟨v, rfl, hown, hb⟩
  exact ⟨v, rfl, Lib.hid (ints_of_vals hown), hb⟩
theorem ints_hv {zs : List Int} {v1 v2 : Value} {w : World} (h1 : HI w v1 zs) (h2 : HI w v2 zs) (hl : zs.length ≤ 1000000) :
    Calls Tryd.prog 26 #[v1, v2] w fun e W' => e = .returned (.bool true) ∧ Below w.heap.size w W' := ints_same (Hid.out h1) (Hid.out h2) hl
theorem make_hv {zs : List Int} {v : Value} {w : World} (h : HI w v zs) (hl : zs.length ≤ 1000000) (hT : Tab w) :
    Calls Tryd.prog 12 #[v] w fun e W' => e = .returned (.tuple #[cv (mkRes zs).1.form (mkRes zs).1.data, .int .i64 (mkRes zs).2]) ∧ Below w.heap.size w W' := make_any (Hid.out h) (by omega) hT

/-- WHAT ContBack ASKS OF A CONTAINER THAT WAS MADE. -/
structure Back (c : C) (n : Int) (isb : Bool) (L : List Int) : Prop where
  len : (bs c.data).size ≤ 1000000
  has : hi c.form (bs c.data) n = isb
  vals : numsI c.form (bs c.data) = L
  back : mkRes L = (c, 0)
  right : rightRes c.form (bs c.data) = true
/-- … AND OF ITS OTHER FORM. -/
structure Turned (c : C) (d : List Nat) (n form : Int) (isb : Bool) (L : List Int) : Prop where
  len : (bs d).size ≤ 1000000
  is : asRes c.form (bs c.data) form = (⟨form, d⟩, 0)
  has : hi form (bs d) n = isb
  vals : numsI form (bs d) = L
  right : rightRes form (bs d) = true
  count : ci form (bs d) = ci c.form (bs c.data)
  size : (bs c.data).size ≤ (bs d).size
theorem back_of {zs : List Int} (h : (mkRes zs).2 = 0) (n : Int) : ∃ L, Back (mkRes zs).1 n (zs.any (· == n)) L ∧ ∀ form, 1 ≤ form → form ≤ 3 → ∃ d, Turned (mkRes zs).1 d n form (zs.any (· == n)) L := by
  obtain ⟨s, hs, es, _, hb, hse⟩ := ofRes_mk h
  rw [es]
  have hr := ofRes_best hs
  have e1 : numsI (best s).form (bs (best s).data) = (nums s).map Int.ofNat := by unfold numsI; rw [hr]
  have e2 : hi (best s).form (bs (best s).data) n = zs.any (· == n) := by unfold hi; rw [hr, hse]; exact hasI_mk hb n
  refine ⟨(nums s).map Int.ofNat, ⟨by rw [bs_size]; exact Nat.le_trans (best_length_le s) (by decide), e2, e1, mkRes_nums hs, right_best hs⟩, ?_⟩
  intro form h1 h3
  obtain ⟨d, hd, ha, hsz⟩ := asRes_best hs h1 h3
  obtain ⟨hq, hrt⟩ := right_as hs hd
  refine ⟨d, ?_, ha, ?_, ?_, hrt, ?_, by rw [bs_size, bs_size]; exact hsz⟩
  · have := asRes_len (best s).form (bs (best s).data) form
    rw [ha] at this
    exact this
  · show hi form (bs d) n = _
    unfold hi at e2 ⊢
    rw [hq, ← e2, hr]
  · show numsI form (bs d) = _
    unfold numsI; rw [hq]
  · show ci form (bs d) = ci _ _
    unfold ci; rw [hq, hr]
theorem back_bad {zs : List Int} (h : (mkRes zs).2 ≠ 0) : rightRes (mkRes zs).1.form (bs (mkRes zs).1.data) = false ∧ (bs (mkRes zs).1.data).size ≤ 1000000 := by
  rcases mkRes_cases zs with hm | ⟨s, hs, hm, _⟩
  · rw [hm]; exact ⟨right_zero, by decide⟩
  · rw [hm] at h; exact absurd rfl h
end Go.Proofs.YtiannfegjbbpfaaDoor
