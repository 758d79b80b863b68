/-
  roar's Right.
-/
import Derived.Test.YtnigpmbpipmgfaaDoorChMem
namespace Go.Proofs.YtnigpmbpipmgfaaDoor
open Go.RowKit Tess

theorem rightF_drop {l : List Ch} {k : Nat} (h : k < l.length) (last : Int) : rightF last (l.drop k) = (decide (last < l[k].key) && decide (l[k].key < 256) && isBestB l[k].form l[k].data && rightF l[k].key (l.drop (k + 1))) := by
  rw [List.drop_eq_getElem_cons h]; rfl

set_option maxRecDepth 100000 in
set_option maxHeartbeats 4000000 in
theorem right_any {l : List Ch} {v : Value} {w : World} (h : HC w v l) (hl : l.length ≤ 4611686018427387904) (hsz : ∀ x ∈ l, x.data.size ≤ 1000000) (hT : Tab w) :
    Calls Tryd.prog 48 #[.agg #[v]] w fun e W' => e = .returned (.bool (rightL l)) ∧ Below w.heap.size w W' := by
  have hR : Below w.heap.size w (w.alloc (.cells #[v] 28)) := (Below.refl _ w).alloc (Nat.le_refl _) _
  obtain ⟨p, cap, rfl, hcap, hc⟩ := h.out
  have hc' := Lib.hid hc
  have hsz' := Lib.hid hsz
  clear h hc hsz
  go_enter Tryd.func48, Tryd.ntmps48
  go_wp2
  go_loopw [3, 9] (fun la i wr => ∃ (k : Nat) (last : Int), k ≤ l.length ∧ i = .int .i64 k ∧ la = .int .i64 last ∧ Hid (rightF last (l.drop k) = rightL l) ∧ Hid (Below w.heap.size w wr))
    (fun _ i _ => l.length - (intOf i).toNat)
  case atStart => exact ⟨0, -1, Nat.zero_le _, rfl, rfl, rfl, Lib.hid hR⟩
  case round =>
    obtain ⟨k, last, hk, rfl, rfl, hrf, hB⟩ := hrel
    by_cases hlt : k < l.length
    · obtain ⟨b, off, rfl, hb, h1, h2, h3⟩ := hc'.out k hlt
      have y1 := (hB.out.cell (p := ⟨b, off + k * 3, none⟩) hb).trans h1
      have y2 := (hB.out.cell (p := ⟨b, off + k * 3 + 1, none⟩) hb).trans h2
      have y3 := (hB.out.cell (p := ⟨b, off + k * 3 + 2, none⟩) hb).trans h3
      have hkd : decide (k < l.length) = true := by simpa using hlt
      have hxs := hsz'.out l[k] (List.getElem_mem hlt)
      have hst := rightF_drop hlt last
      rw [hrf.out] at hst
      clear h1 h2 h3
      generalize l[k] = x at y1 y2 y3 hxs hst
      obtain ⟨ky, f, D⟩ := x
      simp only at y1 y2 y3 hxs hst
      by_cases c1 : last < ky
      · have c1' : decide (last < ky) = true := decide_eq_true c1
        by_cases c2 : ky < 256
        · have c2' : decide (ky < 256) = true := decide_eq_true c2
          have hB2 := Lib.hid (hB.out.alloc hB.out.size (.cells #[.int .i64 ky, .int .i64 f, .string D] 91))
          have hib := Lib.hid (isBest_any f D (wr.alloc (.cells #[.int .i64 ky, .int .i64 f, .string D] 91)) hxs (hT.below hB2.out hT.lt))
          have hK := KBox.new wr ⟨ky, f, D⟩
          rw [c1', c2'] at hst
          simp only [Bool.true_and] at hst
          have hst' := Lib.hid hst
          have hsz'' := hsz'
          clear hst hsz'
          go_wp2_with fail
          refine (hib.out).mono ?_
          rintro e W2 ⟨rfl, hb2⟩
          have hB3 := Lib.hid (hB2.out.trans (hb2.mono hB2.out.size))
          obtain ⟨z1, z2, z3⟩ := (hK.later hb2).cells
          simp only at z1 z2 z3
          clear hb2 hib y1 y2 y3
          cases hbb : isBestB f D with
          | false =>
            rw [hbb] at hst'
            go_wp2
            exact bodyPost_ret (v := .bool false) (by simp [results, Tryd.results48, go_sem]) rfl ⟨by rw [hst'.out]; rfl, hB3.out⟩
          | true =>
            rw [hbb] at hst'
            go_wp2
            go_roundw
            case rel => exact ⟨k + 1, ky, by omega, by go_num, rfl, Lib.hid (by rw [hst'.out]; rfl), hB3⟩
            case measure => simp [intOf]; omega
        · have c2' : decide (ky < 256) = false := decide_eq_false c2
          have c2'' : decide (256 ≤ ky) = true := decide_eq_true (by omega)
          rw [c1', c2'] at hst
          have hst' : Hid (rightL l = false) := by show _ = _; rw [hst]; rfl
          clear hst
          go_wp2
          exact bodyPost_ret (v := .bool false) (by simp [results, Tryd.results48, go_sem]) rfl ⟨by rw [hst'.out], hB.out.alloc hB.out.size _⟩
      · have c1' : decide (last < ky) = false := decide_eq_false c1
        have c1'' : decide (ky ≤ last) = true := decide_eq_true (by omega)
        rw [c1'] at hst
        have hst' : Hid (rightL l = false) := by show _ = _; rw [hst]; rfl
        clear hst
        go_wp2
        exact bodyPost_ret (v := .bool false) (by simp [results, Tryd.results48, go_sem]) rfl ⟨by rw [hst'.out], hB.out.alloc hB.out.size _⟩
    · have hkd : decide (k < l.length) = false := by simpa using hlt
      have hfin : Hid (rightL l = true) := by
        show _ = _
        rw [← hrf.out, List.drop_eq_nil_of_le (by omega)]; rfl
      go_wp2
      exact bodyPost_ret (v := .bool true) (by simp [results, Tryd.results48, go_sem]) rfl ⟨by rw [hfin.out], hB.out⟩
end Go.Proofs.YtnigpmbpipmgfaaDoor
