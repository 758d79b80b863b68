/-
  The reference's Right.
-/
import Derived.Test.YtnigpmbpipmgfaaDoorRSet7
import Derived.Test.YtnigpmbpipmgfaaDoorBoxes7
namespace Go.Proofs.YtnigpmbpipmgfaaDoor
open Go.RowKit Tess

theorem ofB_bitR (l : List Ch) : ofB (bitR l) = canon (setR l) := by
  unfold ofB
  refine canon_congr fun k hk => set_bits (setB_lt _ k) (setR_lt l k) fun i hi => ?_
  rw [setB_bit hi]
  unfold bitR
  rw [show (256 * k + i) / 256 = k by omega, show (256 * k + i) % 256 = i by omega]
theorem right_same (l : List Ch) : rightL l = (decide (l.length ≤ 256) && decide (l = ofB (bitR l))) := by
  rw [ofB_bitR]
  have := rightL_iff l
  cases h : rightL l
  · rw [h] at this
    symm
    rw [Bool.and_eq_false_iff]
    by_cases h1 : l.length ≤ 256
    · right; exact decide_eq_false fun h2 => by have := this.2 ⟨h1, h2⟩; cases this
    · left; exact decide_eq_false h1
  · have h2 := this.1 h
    rw [decide_eq_true h2.1, decide_eq_true h2.2]; rfl
theorem rr_keep {w W W' : World} {b : Nat} {v : Value} {l : List Ch} (hb : Below W.heap.size W W') (h1 : Hid (Below w.heap.size w W)) (h2 : Hid (RB W b v l)) :
    Hid (Below w.heap.size w W') ∧ Hid (RB W' b v l) ∧ W'.cell? ⟨b, 0, none⟩ = some v :=
  ⟨Lib.hid (h1.out.trans (hb.mono h1.out.size)), Lib.hid (h2.out.later hb), (h2.out.later hb).box.cell⟩

set_option maxRecDepth 100000 in
set_option maxHeartbeats 8000000 in
theorem rright7_any {l : List Ch} {v : Value} {w : World} (h : HC w v l) (hs : Small l) :
    Calls Tryd.prog 89 #[.agg #[v]] w fun e W' => e = .returned (.bool (rightL l)) ∧ Below w.heap.size w W' := by
  have hR := Lib.hid (RB.new h)
  have hB := Lib.hid ((Below.refl w.heap.size w).alloc (Nat.le_refl _) (.cells #[v] 28))
  have hx := hR.out.box.cell
  obtain ⟨p, cap, rfl, hcap, -⟩ := Hid.out h
  have hs' := Lib.hid hs
  have hfin := Lib.hid (right_same l)
  clear h hs
  by_cases hl : l.length ≤ 256
  · have hd : decide ((l.length : Int) ≤ 256) = true := by simp; omega
    have hfin2 : Hid (rightL l = decide (l = ofB (bitR l))) := by show _ = _; rw [hfin.out, decide_eq_true hl]; rfl
    clear hl hfin
    go_enter Tryd.func89, Tryd.ntmps89
    go_wp2
    go_region_held3 (fun W' => Hid (Below w.heap.size w W') ∧ Hid (RB W' w.heap.size (.slice p l.length cap) l) ∧ W'.cell? ⟨w.heap.size, 0, none⟩ = some (.slice p l.length cap))
      (first | exact ⟨Lib.hid (Below.drew hB.out), Lib.hid (hR.out.later (Below.drew (Below.refl _ _))), hx⟩ | assumption)
      (first
        | (go_at_call 108
           refine (rset_any (RB.chs (b := w.heap.size) (Hid.out (And.left (And.right (by assumption))))) hs'.out).mono ?_
           rintro e Wn ⟨g, rfl, hBo, -, hbn⟩
           obtain ⟨s1, s2, _⟩ : _ ∧ _ ∧ _ := by assumption
           have hnew := rr_keep hbn s1 s2)
        | (go_at_call 85
           refine (rof_any (by assumption)).mono ?_
           rintro e Wn ⟨vo, rfl, hvo, hbn⟩
           obtain ⟨s1, s2, _⟩ : _ ∧ _ ∧ _ := by assumption
           have hnew := rr_keep hbn s1 s2)
        | (go_at_call 34
           refine (same7_any (RB.chs (b := w.heap.size) (Hid.out (And.left (And.right (by assumption))))) (by assumption) hs'.out.1).mono ?_
           rintro e Wn ⟨rfl, hbn⟩
           obtain ⟨s1, s2, _⟩ : _ ∧ _ ∧ _ := by assumption
           have hnew := rr_keep hbn s1 s2))
    all_goals go_wp2
    all_goals exact bodyPost_ret (v := .bool (decide (l = ofB (bitR l)))) (by simp [results, Tryd.results89, go_sem]) rfl ⟨by rw [hfin2.out], Hid.out (And.left (by assumption))⟩
  · have hd : decide ((l.length : Int) ≤ 256) = false := by simp; omega
    have hfin2 : Hid (rightL l = false) := by show _ = _; rw [hfin.out, decide_eq_false hl]; rfl
    clear hl hfin
    go_enter Tryd.func89, Tryd.ntmps89
    go_wp2
    go_region
    all_goals go_wp2
    all_goals exact bodyPost_ret (v := .bool false) (by simp [results, Tryd.results89, go_sem]) rfl ⟨by rw [hfin2.out], Below.drew hB.out⟩
end Go.Proofs.YtnigpmbpipmgfaaDoor
