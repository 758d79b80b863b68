/-
  RoarCodes: the walk.
-/
import Derived.Test.YtalnfbkmlllfhaaDoorRDecB
import Derived.Test.YtalnfbkmlllfhaaDoorFew7
import Derived.Test.YtalnfbkmlllfhaaDoorShown7
namespace Go.Proofs.YtalnfbkmlllfhaaDoor
open Go.RowKit Tess

theorem decR_right (l : List UInt8) : rightL (decR l).1 = true := by
  unfold decR
  split
  · rfl
  · split
    · rfl
    · split
      · rfl
      · split
        · assumption
        · rfl
theorem decR_len (l : List UInt8) : (decR l).1.length ≤ 256 := by
  have := rightF_len (by omega) (by omega) (decR_right l)
  omega
/-- The first two thousand bytes. -/
def cut2 (s : ByteArray) : ByteArray := if s.size ≤ 2000 then s else s.extract 0 2000
theorem cut2_size (s : ByteArray) : (cut2 s).size ≤ 2000 := by
  unfold cut2
  split
  · assumption
  · rw [ByteArray.size_extract]; omega
set_option maxRecDepth 100000 in
theorem cut7_any (s : ByteArray) (w : World) :
    Calls Tryd.prog 34 #[.string s] w fun e W' => e = .returned (.string (cut2 s)) ∧ w = W' := by
  by_cases h : s.size ≤ 2000
  · have hc : Hid (cut2 s = s) := by show _ = _; unfold cut2; rw [if_pos h]
    have hm0 : min (s.size : Int) 2000 = (s.size : Int) := by omega
    have hex : s.extract 0 s.size = s := by simp
    clear h
    go_enter Tryd.func34, Tryd.ntmps34
    go_wp2
    exact bodyPost_ret (v := .string s) (by simp [results, Tryd.results34, go_sem]) rfl ⟨by rw [hc.out], rfl⟩
  · have hc : Hid (cut2 s = s.extract 0 2000) := by show _ = _; unfold cut2; rw [if_neg h]
    have hm0 : min (s.size : Int) 2000 = 2000 := by omega
    have g2 : (2000 : Int) ≤ (s.size : Int) := by omega
    clear h
    go_enter Tryd.func34, Tryd.ntmps34
    go_wp2
    exact bodyPost_ret (v := .string (s.extract 0 2000)) (by simp [results, Tryd.results34, go_sem]) rfl ⟨by rw [hc.out], rfl⟩

set_option maxRecDepth 100000 in
set_option maxHeartbeats 8000000 in
theorem roarCodes_walk {la : List Ch} {va : Value} (s : ByteArray) {em en ra rn : Addr} {w : World} (hr : HC w va la) (hT : Tab w) (hve : Sent w 2 3 em en) (hre : Sent w 1 0 ra rn) :
    Calls Tryd.prog 8 #[.agg #[va], .string s] w fun e W' => e = .returned (.bool true) ∧ Below w.heap.size w W' := by
  have hB0 := Lib.hid ((Below.refl w.heap.size w).alloc (Nat.le_refl _) (.cells #[va] 24))
  have hx0 := RBox.new w va
  have hv0 := hr.alloc (.cells #[va] 24)
  have hTl := Lib.hid hT
  have he1 := Lib.hid (fun W (hb : Below w.heap.size w W) => hve.later hb)
  have he2 := Lib.hid (fun W (hb : Below w.heap.size w W) => hre.later hb)
  obtain ⟨pa, ca, rfl, -, -⟩ := Hid.out hr
  have k0 := Lib.hid (shown7_any _ (hTl.out.below hB0.out hTl.out.lt))
  clear hT hr hve hre
  go_enter Tryd.func8, Tryd.ntmps8
  go_wp2_with fail
  refine (k0.out).mono ?_
  rintro e W0 ⟨rfl, hb0⟩
  have hB1 := Lib.hid (hB0.out.trans (hb0.mono hB0.out.size))
  have hx1 := hx0.later hb0
  have hv1 := hv0.later hb0
  clear k0 hb0 hB0 hx0 hv0
  -- the program's Encode
  have k1 := Lib.hid (fewR_any hv1)
  have y1 := hx1.cell
  go_wp2_with fail
  refine (k1.out).mono ?_
  rintro e W1 ⟨u1, rfl, hu1, hb1⟩
  have hB2 := Lib.hid (hB1.out.trans (hb1.mono hB1.out.size))
  have hx2 := hx1.later hb1
  have hv2 := hv1.later hb1
  have k2 := Lib.hid (encode7_any hu1 (fewL_small la) (by have := fewL_len la; omega) (hTl.out.below hB2.out hTl.out.lt))
  clear k1 y1 hb1 hB1 hx1 hv1 hu1
  go_wp2_with fail
  refine (k2.out).mono ?_
  rintro e W2 ⟨rfl, hb2⟩
  have hB3 := Lib.hid (hB2.out.trans (hb2.mono hB2.out.size))
  have hx3 := hx2.later hb2
  have hv3 := hv2.later hb2
  clear k2 hb2 hB2 hx2 hv2
  -- the reference's
  have k1 := Lib.hid (fewR_any hv3)
  have y1 := hx3.cell
  go_wp2_with fail
  refine (k1.out).mono ?_
  rintro e W3 ⟨u3, rfl, hu3, hb3⟩
  have hB4 := Lib.hid (hB3.out.trans (hb3.mono hB3.out.size))
  have k2 := Lib.hid (rencode7_any hu3 (fewL_small la) (by have := fewL_len la; omega))
  clear k1 y1 hb3 hB3 hx3 hv3 hu3
  go_wp2_with fail
  refine (k2.out).mono ?_
  rintro e W4 ⟨rfl, hb4⟩
  have hB5 := Lib.hid (hB4.out.trans (hb4.mono hB4.out.size))
  clear k2 hb4 hB4
  generalize encR (fewL la) = E
  obtain ⟨E1, E2⟩ := E
  -- Decode
  have k1 := Lib.hid (cut7_any s W4)
  have hcs := Lib.hid (cut2_size s)
  have k4 := Lib.hid (fun W => cut7_any s W)
  generalize cut2 s = S at k1 hcs k4
  go_wp2_with fail
  refine (k1.out).mono ?_
  rintro e W ⟨rfl, rfl⟩
  have k2 := Lib.hid (decode_any S W4 (Nat.le_trans hcs.out (by decide)) (hTl.out.below hB5.out hTl.out.lt) (he1.out _ hB5.out) (he2.out _ hB5.out))
  clear k1
  go_wp2_with fail
  refine (k2.out).mono ?_
  rintro e W5 ⟨v5, rfl, hv5, hb5⟩
  obtain ⟨p5, c5, rfl, -, -⟩ := Hid.out hv5
  have hB6 := Lib.hid (below_box hB5.out hB5.out.size hb5 (.cells #[.slice p5 (decR (sl S)).1.length c5] 24))
  have hx6 := RBox.new W5 (.slice p5 (decR (sl S)).1.length c5)
  have hv6 := hv5.alloc (.cells #[.slice p5 (decR (sl S)).1.length c5] 24)
  clear k2 hb5 hB5 hv5
  -- the reference's Decode
  go_wp2_with fail
  refine (k4.out _).mono ?_
  rintro e W ⟨rfl, rfl⟩
  have k2 := Lib.hid (rdecode_any S (W5.alloc (.cells #[.slice p5 (decR (sl S)).1.length c5] 24)) (Nat.le_trans hcs.out (by decide)))
  clear k4
  go_wp2_with fail
  refine (k2.out).mono ?_
  rintro e W6 ⟨v6, rfl, hv7, hb6⟩
  obtain ⟨p6, c6, rfl, -, -⟩ := Hid.out hv7
  have hB7 := Lib.hid (below_box hB6.out hB6.out.size hb6 (.cells #[.slice p6 (decR (sl S)).1.length c6] 24))
  have hx7 := (hx6.later hb6).alloc (.cells #[.slice p6 (decR (sl S)).1.length c6] 24)
  have hx8 := RBox.new W6 (.slice p6 (decR (sl S)).1.length c6)
  have k3 := same7_any ((hv6.later hb6).alloc (.cells #[.slice p6 (decR (sl S)).1.length c6] 24)) (hv7.alloc (.cells #[.slice p6 (decR (sl S)).1.length c6] 24)) (by have := decR_len (sl S); omega)
  rw [decide_eq_true rfl] at k3
  have k3' := Lib.hid k3
  have y1 := hx7.cell
  have y2 := hx8.cell
  clear k2 hb6 hB6 hv6 hv7 hx6 hx7 hx8 k3
  go_wp2_with fail
  refine (k3'.out).mono ?_
  rintro e W7 ⟨rfl, hb7⟩
  have hB8 := Lib.hid (hB7.out.trans (hb7.mono hB7.out.size))
  clear k3' hb7 hB7
  go_wp2
  exact bodyPost_ret (v := .bool true) (by simp [results, Tryd.results8, go_sem]) rfl ⟨rfl, hB8.out⟩
end Go.Proofs.YtalnfbkmlllfhaaDoor
