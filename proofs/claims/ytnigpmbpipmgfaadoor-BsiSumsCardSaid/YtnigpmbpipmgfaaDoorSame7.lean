/-
  The reference's Same.
-/
import Derived.Test.YtnigpmbpipmgfaaDoorOp7
namespace Go.Proofs.YtnigpmbpipmgfaaDoor
open Go.RowKit Tess

set_option maxRecDepth 100000 in
set_option maxHeartbeats 4000000 in
theorem same7_any {l m : List Ch} {v1 v2 : Value} {w : World} (h1 : HC w v1 l) (h2 : HC w v2 m) (hs : l.length ≤ 4611686018427387904) :
    Calls Tryd.prog 34 #[.agg #[v1], .agg #[v2]] w fun e W' => e = .returned (.bool (decide (l = m))) ∧ Below w.heap.size w W' := by
  have hgd := chunk_guard
  have x1 := (RBox.new w v1).alloc (.cells #[v2] 28)
  have x2 := RBox.new (w.alloc (.cells #[v1] 28)) v2
  simp only [World.size_alloc] at x2
  have hR := Lib.hid (((Below.refl w.heap.size w).alloc (Nat.le_refl _) (.cells #[v1] 28)).alloc (by simp) (.cells #[v2] 28))
  have g1 := (h1.alloc (.cells #[v1] 28)).alloc (.cells #[v2] 28)
  have g2 := (h2.alloc (.cells #[v1] 28)).alloc (.cells #[v2] 28)
  clear h1 h2
  obtain ⟨p1, cap1, rfl, hcap1, hc1⟩ := Hid.out g1
  obtain ⟨p2, cap2, rfl, hcap2, hc2⟩ := Hid.out g2
  have hc1' := Lib.hid hc1
  have hc2' := Lib.hid hc2
  have y1 := x1.cell
  have y2 := x2.cell
  clear g1 g2 hc1 hc2
  by_cases hlen : l.length = m.length
  · have hne : decide ((l.length : Int) ≠ (m.length : Int)) = false := by simp; omega
    have hne2 : ((l.length : Int) != (m.length : Int)) = false := by simp; omega
    have hlen' := Lib.hid hlen
    clear hlen
    go_enter Tryd.func34, Tryd.ntmps34
    go_wp2
    go_loopw [5] (fun i wr => ∃ k : Nat, k ≤ l.length ∧ i = .int .i64 k ∧ Hid (l.take k = m.take k) ∧ Hid (Below ((w.alloc (.cells #[.slice p1 l.length cap1] 28)).alloc (.cells #[.slice p2 m.length cap2] 28)).heap.size ((w.alloc (.cells #[.slice p1 l.length cap1] 28)).alloc (.cells #[.slice p2 m.length cap2] 28)) wr))
      (fun i _ => l.length - (intOf i).toNat)
    case atStart => exact ⟨0, Nat.zero_le _, rfl, by show _ = _; rw [List.take_zero, List.take_zero], Lib.hid (Below.refl _ _)⟩
    case round =>
      obtain ⟨k, hk, rfl, hst, hB⟩ := hrel
      have z1 := (x1.later hB.out).cell
      have z2 := (x2.later hB.out).cell
      by_cases hlt : k < l.length
      · have hlt2 : k < m.length := by have := hlen'.out; omega
        obtain ⟨b1, o1, rfl, hb1, a1, a2, a3⟩ := hc1'.out k hlt
        obtain ⟨b2, o2, rfl, hb2, e1, e2, e3⟩ := hc2'.out k hlt2
        have u1 := (hB.out.cell (p := ⟨b1, o1 + k * 3, none⟩) hb1).trans a1
        have u2 := (hB.out.cell (p := ⟨b1, o1 + k * 3 + 1, none⟩) hb1).trans a2
        have u3 := (hB.out.cell (p := ⟨b1, o1 + k * 3 + 2, none⟩) hb1).trans a3
        have t1 := (hB.out.cell (p := ⟨b2, o2 + k * 3, none⟩) hb2).trans e1
        have t2 := (hB.out.cell (p := ⟨b2, o2 + k * 3 + 1, none⟩) hb2).trans e2
        have t3 := (hB.out.cell (p := ⟨b2, o2 + k * 3 + 2, none⟩) hb2).trans e3
        have hkd : decide (k < l.length) = true := by simpa using hlt
        have hkd2 : decide (k < m.length) = true := by simpa using hlt2
        have hq := Lib.hid (sameCh_iff (x := l[k]) (y := m[k]))
        have hst2 : Hid (l[k] = m[k] → l.take (k + 1) = m.take (k + 1)) := Lib.hid fun e => by
          rw [List.take_succ_eq_append_getElem hlt, List.take_succ_eq_append_getElem hlt2, hst.out, e]
        have hst3 : Hid (l[k] ≠ m[k] → l ≠ m) := Lib.hid fun e h => e (by subst h; rfl)
        clear a1 a2 a3 e1 e2 e3
        generalize l[k] = x at u1 u2 u3 hq hst2 hst3
        generalize m[k] = y at t1 t2 t3 hq hst2 hst3
        obtain ⟨kx, fx, dx⟩ := x
        obtain ⟨ky, fy, dy⟩ := y
        simp only at u1 u2 u3 t1 t2 t3
        have hcn := chunk_neq kx fx ky fy dx dy
        cases hsm : sameCh ⟨kx, fx, dx⟩ ⟨ky, fy, dy⟩ with
        | true =>
          rw [hsm] at hcn
          have hst4 := Lib.hid (hst2.out (hq.out.1 hsm))
          clear hq hst2 hst3
          go_wp2
          go_region
          all_goals
            go_wp2
            go_roundw
            case rel => exact ⟨k + 1, by omega, by go_num, hst4, Lib.hid hB.out.drew⟩
            case measure => simp [intOf]; omega
        | false =>
          rw [hsm] at hcn
          have hfin : Hid (decide (l = m) = false) := Lib.hid (decide_eq_false (hst3.out (fun e => by have := hq.out.2 e; rw [hsm] at this; cases this)))
          clear hq hst2 hst3
          go_wp2
          go_region
          all_goals
            go_wp2
            exact bodyPost_ret (v := .bool false) (by simp [results, Tryd.results34, go_sem]) rfl ⟨by rw [hfin.out], hR.out.trans (hB.out.drew.mono hR.out.size)⟩
      · have hkd : decide (k < l.length) = false := by simpa using hlt
        have hfin : Hid (decide (l = m) = true) := Lib.hid (decide_eq_true (by have := hst.out; have h9 := hlen'.out; rwa [List.take_of_length_le (by omega), List.take_of_length_le (by omega)] at this))
        go_wp2
        exact bodyPost_ret (v := .bool true) (by simp [results, Tryd.results34, go_sem]) rfl ⟨by rw [hfin.out], hR.out.trans (hB.out.mono hR.out.size)⟩
  · have hne : decide ((l.length : Int) ≠ (m.length : Int)) = true := by simp; omega
    have hne2 : ((l.length : Int) != (m.length : Int)) = true := by simp; omega
    have hfin : Hid (decide (l = m) = false) := Lib.hid (decide_eq_false (fun e => hlen (by rw [e])))
    clear hlen
    go_enter Tryd.func34, Tryd.ntmps34
    go_wp2
    exact bodyPost_ret (v := .bool false) (by simp [results, Tryd.results34, go_sem]) rfl ⟨by rw [hfin.out], hR.out⟩
end Go.Proofs.YtnigpmbpipmgfaaDoor
