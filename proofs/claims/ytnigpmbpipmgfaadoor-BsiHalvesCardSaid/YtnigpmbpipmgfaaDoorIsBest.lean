/-
  roar's isBest.
-/
import Derived.Test.YtnigpmbpipmgfaaDoorOp
import Derived.Test.YtnigpmbpipmgfaaDoorHeld
import Derived.Test.YtnigpmbpipmgfaaDoorBm
namespace Go.Proofs.YtnigpmbpipmgfaaDoor
open Go.RowKit Tess

theorem opOf_self (s : Nat) : opOf 2 s s = s := by
  show s ||| s = s
  exact Nat.or_self s
theorem isBestB_no {f : Int} {D : ByteArray} (h : (ofRes f D).2 = false) : isBestB f D = false := by unfold isBestB; rw [h]; rfl
theorem isBestB_yes {f : Int} {D : ByteArray} (h : (ofRes f D).2 = true) : isBestB f D = (sameC (best (ofRes f D).1).form (bs (best (ofRes f D).1).data) f D && decide (0 < ci f D)) := by
  unfold isBestB ci; rw [h]; simp

set_option maxRecDepth 100000 in
set_option maxHeartbeats 4000000 in
theorem isBest_any (f : Int) (D : ByteArray) (w : World) (hD : D.size ≤ 1000000) (hT : Tab w) :
    Calls Tryd.prog 82 #[.agg #[.int .i64 f, .string D]] w fun e W' => e = .returned (.bool (isBestB f D)) ∧ Below w.heap.size w W' := by
  have hR : Below w.heap.size w (w.alloc (.cells #[.int .i64 f, .string D] 75)) := (Below.refl _ w).alloc (Nat.le_refl _) _
  have hx0 := CBox.new w f D
  have ho := Op_any 2 f D f D _ hD hD (hT.below hR hT.lt)
  obtain ⟨d0, d1, -, -⟩ := blk2_cells hx0
  cases hok : (ofRes f D).2 with
  | false =>
    rw [opRes_no (.inl hok)] at ho
    have hfin := Lib.hid (isBestB_no hok)
    have ho' := Lib.hid ho
    clear ho hok
    go_enter Tryd.func82, Tryd.ntmps82
    go_wp2_with fail
    refine (ho'.out).mono ?_
    rintro e W1 ⟨rfl, hb1⟩
    have hB1 := hR.trans (hb1.mono hR.size)
    clear d0 d1 hb1
    simp only [cv]
    go_wp2
    exact bodyPost_ret (v := .bool false) (by simp [results, Tryd.results82, go_sem]) rfl ⟨by rw [hfin.out], hB1.alloc hB1.size _⟩
  | true =>
    rw [opRes_yes hok hok (by decide), opOf_self] at ho
    have hfin := isBestB_yes hok
    have ho' := Lib.hid ho
    clear ho hok
    obtain ⟨c, hc⟩ : ∃ c, best (ofRes f D).1 = c := ⟨_, rfl⟩
    rw [hc] at ho' hfin
    clear hc
    cases hsm : sameC c.form (bs c.data) f D with
    | false =>
      have heq := cont_eq c.form f (bs c.data) D
      rw [hsm] at heq hfin
      have hfin' := Lib.hid hfin
      have hgd := cont_guard
      clear hfin hsm
      go_enter Tryd.func82, Tryd.ntmps82
      go_wp2_with fail
      refine (ho'.out).mono ?_
      rintro e W1 ⟨rfl, hb1⟩
      have hB1 := hR.trans (hb1.mono hR.size)
      have hx1 := (hx0.later hb1).alloc (.cells #[.int .i64 c.form, .string (bs c.data)] 75)
      clear d0 d1 hb1
      obtain ⟨d0, d1, -, -⟩ := blk2_cells hx1
      simp only [cv]
      go_wp2
      exact bodyPost_ret (v := .bool false) (by simp [results, Tryd.results82, go_sem]) rfl ⟨by rw [hfin'.out]; rfl, hB1.alloc hB1.size _⟩
    | true =>
      have heq := cont_eq c.form f (bs c.data) D
      rw [hsm] at heq hfin
      have hfin' := Lib.hid hfin
      have hgd := cont_guard
      clear hfin hsm
      have hcr := ci_range f D
      go_enter Tryd.func82, Tryd.ntmps82
      go_wp2_with fail
      refine (ho'.out).mono ?_
      rintro e W1 ⟨rfl, hb1⟩
      have hB1 := hR.trans (hb1.mono hR.size)
      have hB2 := Lib.hid (hB1.alloc hB1.size (.cells #[.int .i64 c.form, .string (bs c.data)] 75))
      have hx1 := (hx0.later hb1).alloc (.cells #[.int .i64 c.form, .string (bs c.data)] 75)
      clear d0 d1 hb1
      obtain ⟨d0, d1, -, -⟩ := blk2_cells hx1
      have hct := Lib.hid (Count_ci f D (W1.alloc (.cells #[.int .i64 c.form, .string (bs c.data)] 75)) hD (hT.below hB2.out hT.lt))
      generalize ci f D = n at hcr hct hfin'
      simp only [cv]
      go_wp2_with fail
      refine (hct.out).mono ?_
      rintro e W2 ⟨rfl, hb2⟩
      go_wp2
      exact bodyPost_ret (v := .bool (decide (0 < n))) (by simp [results, Tryd.results82, go_sem]) rfl ⟨by rw [hfin'.out]; simp, hB2.out.trans (hb2.mono hB2.out.size)⟩
end Go.Proofs.YtnigpmbpipmgfaaDoor
