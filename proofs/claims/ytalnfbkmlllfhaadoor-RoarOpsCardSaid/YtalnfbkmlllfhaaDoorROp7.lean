/-
  The reference's Op of bitmaps. Printed by genrop7.py.
-/
import Derived.Test.YtalnfbkmlllfhaaDoorRFlip7
namespace Go.Proofs.YtalnfbkmlllfhaaDoor
open Go.RowKit Tess

/-- Truths joined, the first n. -/
def joinB (op : Int) (B C : Nat → Bool) (n : Nat) : Nat → Bool := fun m => if m < n then opBit op (B m) (C m) else B m
theorem joinB_start (op : Int) (B C : Nat → Bool) (m : Nat) : joinB op B C 0 m = B m := rfl
theorem joinB_at (op : Int) (B C : Nat → Bool) (n : Nat) : joinB op B C n n = B n := by unfold joinB; rw [if_neg (by omega)]
theorem joinB_step (op : Int) (B C : Nat → Bool) (n m : Nat) : joinB op B C (n + 1) m = if m = n then opBit op (B n) (C n) else joinB op B C n m := by
  unfold joinB
  by_cases e : m = n
  · subst e; rw [if_pos rfl, if_pos (by omega)]
  · rw [if_neg e]
    by_cases h : m < n
    · rw [if_pos h, if_pos (by omega)]
    · rw [if_neg h, if_neg (by omega)]
theorem opL_ofB {op : Int} {l m : List Ch} (hl : rightL l = true) (hm : rightL m = true) (h1 : 1 ≤ op) (h2 : op ≤ 4) : opL op l m = (ofB (joinB op (bitR l) (bitR m) 65536), 0) := by
  obtain ⟨r, er, hr, br⟩ := op_some hl hm h1 h2
  rw [er]
  congr 1
  refine ext_bits hr (ofB_right _) fun n hn => ?_
  rw [br n hn, ofB_bit hn]
  unfold joinB
  rw [if_pos hn, bitR_right hl hn, bitR_right hm hn]

set_option maxRecDepth 100000 in
set_option maxHeartbeats 16000000 in
theorem rop7_any (op : Int) {la lb : List Ch} {va vb : Value} {w : World} (h1 : HC w va la) (h2 : HC w vb lb) (hs1 : Small la) (hs2 : Small lb) :
    Calls Tryd.prog 13 #[.int .i64 op, .agg #[va], .agg #[vb]] w fun e W' => ∃ v, e = .returned (.tuple #[.agg #[v], .int .i64 (opL op la lb).2]) ∧ HC W' v (opL op la lb).1 ∧ Below w.heap.size w W' := by
  have hRa := Lib.hid (((RB.new h1).alloc (.cells #[vb] 24)).alloc (.cells #[.slice none 0 0] 24))
  have hRb0 := (RB.new (h2.alloc (.cells #[va] 24))).alloc (.cells #[.slice none 0 0] 24)
  rw [World.size_alloc] at hRb0
  have hRb := Lib.hid hRb0
  have hB := Lib.hid ((((Below.refl w.heap.size w).alloc (Nat.le_refl _) (.cells #[va] 24)).alloc (by simp) (.cells #[vb] 24)).alloc (by simp; omega) (.cells #[.slice none 0 0] 24))
  have hr0 := RBox.new ((w.alloc (.cells #[va] 24)).alloc (.cells #[vb] 24)) (.slice none 0 0)
  rw [World.size_alloc, World.size_alloc] at hr0
  have hr := Lib.hid hr0
  have xa := hRa.out.box.cell
  have xb := hRb.out.box.cell
  have k1 := Lib.hid (rright7_any hRa.out.chs hs1)
  have hs1' := Lib.hid hs1
  have hs2' := Lib.hid hs2
  clear h1 h2 hs1 hs2 hr0 hRb0
  go_enter Tryd.func13, Tryd.ntmps13
  go_wp2_with fail
  refine (k1.out).mono ?_
  rintro e W1 ⟨rfl, hb1⟩
  have hB1 := Lib.hid (hB.out.trans (hb1.mono hB.out.size))
  have hRa1 := Lib.hid (hRa.out.later hb1)
  have hRb1 := Lib.hid (hRb.out.later hb1)
  have hr1 := Lib.hid (hr.out.later hb1)
  have xa1 := hRa1.out.box.cell
  have xb1 := hRb1.out.box.cell
  clear k1 hb1 xa xb hRa hRb hB hr
  cases hra : rightL la with
  | false =>
    have hfin := Lib.hid (opL_no (op := op) (la := la) (lb := lb) (.inl (by rw [hra]; rfl)))
    have rc1 := hr1.out.cell
    have rf1 := hr1.out.frozen
    have hrs := (hr1.out.set (.slice none 0 0)).cell
    clear hra
    go_wp2
    refine bodyPost_ret (v := .tuple #[.agg #[.slice none 0 0], .int .i64 70]) ?_ rfl ⟨_, by rw [hfin.out], by rw [hfin.out]; exact HC.nil _ _ _, hB1.out.setCell (p := ⟨w.heap.size + 2, 0, none⟩) (by show w.heap.size ≤ w.heap.size + 2; omega) _⟩
    simp [results, Tryd.results13, go_sem, hrs]
  | true =>
    have k2 := Lib.hid (rright7_any hRb1.out.chs hs2'.out)
    go_wp2_with fail
    refine (k2.out).mono ?_
    rintro e W2 ⟨rfl, hb2⟩
    have hB2 := Lib.hid (hB1.out.trans (hb2.mono hB1.out.size))
    have hRa2 := Lib.hid (hRa1.out.later hb2)
    have hRb2 := Lib.hid (hRb1.out.later hb2)
    have hr2 := Lib.hid (hr1.out.later hb2)
    have xa2 := hRa2.out.box.cell
    have xb2 := hRb2.out.box.cell
    clear k2 hb2 xa1 xb1 hRa1 hRb1 hB1 hr1
    cases hrb : rightL lb with
    | false =>
      have hfin := Lib.hid (opL_no (op := op) (la := la) (lb := lb) (.inl (by rw [hrb, Bool.and_false])))
      have rc1 := hr2.out.cell
      have rf1 := hr2.out.frozen
      have hrs := (hr2.out.set (.slice none 0 0)).cell
      clear hra hrb
      go_wp2
      refine bodyPost_ret (v := .tuple #[.agg #[.slice none 0 0], .int .i64 70]) ?_ rfl ⟨_, by rw [hfin.out], by rw [hfin.out]; exact HC.nil _ _ _, hB2.out.setCell (p := ⟨w.heap.size + 2, 0, none⟩) (by show w.heap.size ≤ w.heap.size + 2; omega) _⟩
      simp [results, Tryd.results13, go_sem, hrs]
    | true =>
      by_cases hop : 1 ≤ op ∧ op ≤ 4
      rotate_left
      · have hfin := Lib.hid (opL_no (la := la) (lb := lb) (.inr hop))
        have rc1 := hr2.out.cell
        have rf1 := hr2.out.frozen
        have hrs := (hr2.out.set (.slice none 0 0)).cell
        clear hra hrb
        by_cases q1 : op < 1
        · have q1' : decide (op < 1) = true := by simpa using q1
          clear hop
          go_wp2
          refine bodyPost_ret (v := .tuple #[.agg #[.slice none 0 0], .int .i64 70]) ?_ rfl ⟨_, by rw [hfin.out], by rw [hfin.out]; exact HC.nil _ _ _, hB2.out.setCell (p := ⟨w.heap.size + 2, 0, none⟩) (by show w.heap.size ≤ w.heap.size + 2; omega) _⟩
          simp [results, Tryd.results13, go_sem, hrs]
        · have q1' : decide (op < 1) = false := by simpa using q1
          have q2 : 4 < op := by omega
          have q2' : decide (op > 4) = true := by simpa using q2
          clear hop
          go_wp2
          refine bodyPost_ret (v := .tuple #[.agg #[.slice none 0 0], .int .i64 70]) ?_ rfl ⟨_, by rw [hfin.out], by rw [hfin.out]; exact HC.nil _ _ _, hB2.out.setCell (p := ⟨w.heap.size + 2, 0, none⟩) (by show w.heap.size ≤ w.heap.size + 2; omega) _⟩
          simp [results, Tryd.results13, go_sem, hrs]
      · have hfin := Lib.hid (opL_ofB hra hrb hop.1 hop.2)
        clear hra hrb
        obtain rfl | rfl | rfl | rfl : op = 1 ∨ op = 2 ∨ op = 3 ∨ op = 4 := by omega
        · have k3 := Lib.hid (rset_any hRa2.out.chs hs1'.out)
          clear hop
          go_wp2_with fail
          refine (k3.out).mono ?_
          rintro e W3 ⟨g, rfl, hg1, hg2, hb3⟩
          have hB3 := Lib.hid (hB2.out.trans (hb3.mono hB2.out.size))
          have hRb3 := Lib.hid (hRb2.out.later hb3)
          have hr3 := Lib.hid (hr2.out.later hb3)
          have hgl := Lib.hid (show w.heap.size + 2 < g by have := hr2.out.lt; omega)
          have hbo3 := Lib.hid hg1
          have xb3 := hRb3.out.box.cell
          have k4 := Lib.hid (rset_any hRb3.out.chs hs2'.out)
          clear k3 hb3 hg1 hg2 xa2 xb2 hRa2 hRb2 hB2 hr2
          go_wp2_with fail
          refine (k4.out).mono ?_
          rintro e W4 ⟨g', rfl, hg1, hg2, hb4⟩
          have hM0 : Hid (ResB w W4 (w.heap.size + 2) g (joinB 1 (bitR la) (bitR lb) 0)) := Lib.hid ⟨hr3.out.later hb4, (hbo3.out.later hb4).congr fun n _ => rfl, hB3.out.trans (hb4.mono hB3.out.size), by have := hgl.out; omega⟩
          have hC0 := Lib.hid hg1
          have hne := Lib.hid (show g' ≠ g by have := hbo3.out.lt; omega)
          clear k4 hb4 hg1 hg2 hbo3 hgl xb3 hRb3 hB3 hr3
          go_wp2
          go_loopw [10] (fun i wr => ∃ n : Nat, i = .int .i64 n ∧ n ≤ 65536 ∧ Hid (ResB w wr (w.heap.size + 2) g (joinB 1 (bitR la) (bitR lb) n)) ∧ Hid (Bo wr g' (bitR lb)))
            (fun i _ => 65536 - (intOf i).toNat)
          case atStart => exact ⟨0, rfl, Nat.zero_le _, hM0, hC0⟩
          case round =>
            obtain ⟨n, rfl, hn, hM, hC⟩ := hrel
            clear hM0 hC0
            by_cases hlt : n < 65536
            · have hjd : decide ((n : Int) < 65536) = true := by simp; omega
              have hcl := hM.out.bo.cell hlt
              have hfr := hM.out.bo.frozen n
              have hc2 := hC.out.cell hlt
              have hj0 : (0 : Int) ≤ (n : Int) := by omega
              have hj1 : (n : Int) < 65536 := by omega
              rw [joinB_at] at hcl
              have hput : Hid (∀ u, u = opBit 1 (bitR la n) (bitR lb n) → ResB w (wr.setCell ⟨g, n, none⟩ (.bool u)) (w.heap.size + 2) g (joinB 1 (bitR la) (bitR lb) (n + 1))) := Lib.hid fun u hu => (hM.out.put hlt u).congr fun m _ => by rw [joinB_step, hu]
              have hfar := Lib.hid (fun u => hC.out.far (p := ⟨g, n, none⟩) hne.out u)
              clear hM hC
              generalize bitR la n = x at hcl hput
              generalize bitR lb n = y at hc2 hput
              cases x <;> cases y <;> (
                go_wp2
                go_roundw
                case rel => exact ⟨n + 1, by go_num, by omega, Lib.hid (hput.out _ rfl), Lib.hid (hfar.out _)⟩
                case measure => simp [intOf]; omega)
            · have hjd : decide ((n : Int) < 65536) = false := by simp; omega
              obtain rfl : n = 65536 := by omega
              have k5 := Lib.hid (rof_any hM.out.bo)
              generalize joinB 1 (bitR la) (bitR lb) 65536 = T at hM k5 hfin
              go_wp2_with fail
              refine (k5.out).mono ?_
              rintro e W5 ⟨v5, rfl, hv5, hb5⟩
              obtain ⟨p5, c5, rfl, -, -⟩ := Hid.out hv5
              have hM5 := Lib.hid (hM.out.later hb5)
              have rc5 := hM5.out.res.cell
              have rf5 := hM5.out.res.frozen
              clear k5 hb5
              go_wp2
              have hrs := (hM5.out.res.set (.slice p5 (ofB T).length c5)).cell
              refine bodyPost_ret (v := .tuple #[.agg #[.slice p5 (ofB T).length c5], .int .i64 0]) ?_ rfl ⟨_, by rw [hfin.out], by rw [hfin.out]; exact hv5.setR hM5.out.res _, hM5.out.below.setCell (p := ⟨w.heap.size + 2, 0, none⟩) (by show w.heap.size ≤ w.heap.size + 2; omega) _⟩
              simp [results, Tryd.results13, go_sem, hrs]
        · have k3 := Lib.hid (rset_any hRa2.out.chs hs1'.out)
          clear hop
          go_wp2_with fail
          refine (k3.out).mono ?_
          rintro e W3 ⟨g, rfl, hg1, hg2, hb3⟩
          have hB3 := Lib.hid (hB2.out.trans (hb3.mono hB2.out.size))
          have hRb3 := Lib.hid (hRb2.out.later hb3)
          have hr3 := Lib.hid (hr2.out.later hb3)
          have hgl := Lib.hid (show w.heap.size + 2 < g by have := hr2.out.lt; omega)
          have hbo3 := Lib.hid hg1
          have xb3 := hRb3.out.box.cell
          have k4 := Lib.hid (rset_any hRb3.out.chs hs2'.out)
          clear k3 hb3 hg1 hg2 xa2 xb2 hRa2 hRb2 hB2 hr2
          go_wp2_with fail
          refine (k4.out).mono ?_
          rintro e W4 ⟨g', rfl, hg1, hg2, hb4⟩
          have hM0 : Hid (ResB w W4 (w.heap.size + 2) g (joinB 2 (bitR la) (bitR lb) 0)) := Lib.hid ⟨hr3.out.later hb4, (hbo3.out.later hb4).congr fun n _ => rfl, hB3.out.trans (hb4.mono hB3.out.size), by have := hgl.out; omega⟩
          have hC0 := Lib.hid hg1
          have hne := Lib.hid (show g' ≠ g by have := hbo3.out.lt; omega)
          clear k4 hb4 hg1 hg2 hbo3 hgl xb3 hRb3 hB3 hr3
          go_wp2
          go_loopw [10] (fun i wr => ∃ n : Nat, i = .int .i64 n ∧ n ≤ 65536 ∧ Hid (ResB w wr (w.heap.size + 2) g (joinB 2 (bitR la) (bitR lb) n)) ∧ Hid (Bo wr g' (bitR lb)))
            (fun i _ => 65536 - (intOf i).toNat)
          case atStart => exact ⟨0, rfl, Nat.zero_le _, hM0, hC0⟩
          case round =>
            obtain ⟨n, rfl, hn, hM, hC⟩ := hrel
            clear hM0 hC0
            by_cases hlt : n < 65536
            · have hjd : decide ((n : Int) < 65536) = true := by simp; omega
              have hcl := hM.out.bo.cell hlt
              have hfr := hM.out.bo.frozen n
              have hc2 := hC.out.cell hlt
              have hj0 : (0 : Int) ≤ (n : Int) := by omega
              have hj1 : (n : Int) < 65536 := by omega
              rw [joinB_at] at hcl
              have hput : Hid (∀ u, u = opBit 2 (bitR la n) (bitR lb n) → ResB w (wr.setCell ⟨g, n, none⟩ (.bool u)) (w.heap.size + 2) g (joinB 2 (bitR la) (bitR lb) (n + 1))) := Lib.hid fun u hu => (hM.out.put hlt u).congr fun m _ => by rw [joinB_step, hu]
              have hfar := Lib.hid (fun u => hC.out.far (p := ⟨g, n, none⟩) hne.out u)
              clear hM hC
              generalize bitR la n = x at hcl hput
              generalize bitR lb n = y at hc2 hput
              cases x <;> cases y <;> (
                go_wp2
                go_roundw
                case rel => exact ⟨n + 1, by go_num, by omega, Lib.hid (hput.out _ rfl), Lib.hid (hfar.out _)⟩
                case measure => simp [intOf]; omega)
            · have hjd : decide ((n : Int) < 65536) = false := by simp; omega
              obtain rfl : n = 65536 := by omega
              have k5 := Lib.hid (rof_any hM.out.bo)
              generalize joinB 2 (bitR la) (bitR lb) 65536 = T at hM k5 hfin
              go_wp2_with fail
              refine (k5.out).mono ?_
              rintro e W5 ⟨v5, rfl, hv5, hb5⟩
              obtain ⟨p5, c5, rfl, -, -⟩ := Hid.out hv5
              have hM5 := Lib.hid (hM.out.later hb5)
              have rc5 := hM5.out.res.cell
              have rf5 := hM5.out.res.frozen
              clear k5 hb5
              go_wp2
              have hrs := (hM5.out.res.set (.slice p5 (ofB T).length c5)).cell
              refine bodyPost_ret (v := .tuple #[.agg #[.slice p5 (ofB T).length c5], .int .i64 0]) ?_ rfl ⟨_, by rw [hfin.out], by rw [hfin.out]; exact hv5.setR hM5.out.res _, hM5.out.below.setCell (p := ⟨w.heap.size + 2, 0, none⟩) (by show w.heap.size ≤ w.heap.size + 2; omega) _⟩
              simp [results, Tryd.results13, go_sem, hrs]
        · have k3 := Lib.hid (rset_any hRa2.out.chs hs1'.out)
          clear hop
          go_wp2_with fail
          refine (k3.out).mono ?_
          rintro e W3 ⟨g, rfl, hg1, hg2, hb3⟩
          have hB3 := Lib.hid (hB2.out.trans (hb3.mono hB2.out.size))
          have hRb3 := Lib.hid (hRb2.out.later hb3)
          have hr3 := Lib.hid (hr2.out.later hb3)
          have hgl := Lib.hid (show w.heap.size + 2 < g by have := hr2.out.lt; omega)
          have hbo3 := Lib.hid hg1
          have xb3 := hRb3.out.box.cell
          have k4 := Lib.hid (rset_any hRb3.out.chs hs2'.out)
          clear k3 hb3 hg1 hg2 xa2 xb2 hRa2 hRb2 hB2 hr2
          go_wp2_with fail
          refine (k4.out).mono ?_
          rintro e W4 ⟨g', rfl, hg1, hg2, hb4⟩
          have hM0 : Hid (ResB w W4 (w.heap.size + 2) g (joinB 3 (bitR la) (bitR lb) 0)) := Lib.hid ⟨hr3.out.later hb4, (hbo3.out.later hb4).congr fun n _ => rfl, hB3.out.trans (hb4.mono hB3.out.size), by have := hgl.out; omega⟩
          have hC0 := Lib.hid hg1
          have hne := Lib.hid (show g' ≠ g by have := hbo3.out.lt; omega)
          clear k4 hb4 hg1 hg2 hbo3 hgl xb3 hRb3 hB3 hr3
          go_wp2
          go_loopw [10] (fun i wr => ∃ n : Nat, i = .int .i64 n ∧ n ≤ 65536 ∧ Hid (ResB w wr (w.heap.size + 2) g (joinB 3 (bitR la) (bitR lb) n)) ∧ Hid (Bo wr g' (bitR lb)))
            (fun i _ => 65536 - (intOf i).toNat)
          case atStart => exact ⟨0, rfl, Nat.zero_le _, hM0, hC0⟩
          case round =>
            obtain ⟨n, rfl, hn, hM, hC⟩ := hrel
            clear hM0 hC0
            by_cases hlt : n < 65536
            · have hjd : decide ((n : Int) < 65536) = true := by simp; omega
              have hcl := hM.out.bo.cell hlt
              have hfr := hM.out.bo.frozen n
              have hc2 := hC.out.cell hlt
              have hj0 : (0 : Int) ≤ (n : Int) := by omega
              have hj1 : (n : Int) < 65536 := by omega
              rw [joinB_at] at hcl
              have hput : Hid (∀ u, u = opBit 3 (bitR la n) (bitR lb n) → ResB w (wr.setCell ⟨g, n, none⟩ (.bool u)) (w.heap.size + 2) g (joinB 3 (bitR la) (bitR lb) (n + 1))) := Lib.hid fun u hu => (hM.out.put hlt u).congr fun m _ => by rw [joinB_step, hu]
              have hfar := Lib.hid (fun u => hC.out.far (p := ⟨g, n, none⟩) hne.out u)
              clear hM hC
              generalize bitR la n = x at hcl hput
              generalize bitR lb n = y at hc2 hput
              cases x <;> cases y <;> (
                go_wp2
                go_region
                all_goals go_wp2
                go_roundw
                case rel => exact ⟨n + 1, by go_num, by omega, Lib.hid ((hput.out _ rfl).drew), Lib.hid ((hfar.out _).drew)⟩
                case measure => simp [intOf]; omega)
            · have hjd : decide ((n : Int) < 65536) = false := by simp; omega
              obtain rfl : n = 65536 := by omega
              have k5 := Lib.hid (rof_any hM.out.bo)
              generalize joinB 3 (bitR la) (bitR lb) 65536 = T at hM k5 hfin
              go_wp2_with fail
              refine (k5.out).mono ?_
              rintro e W5 ⟨v5, rfl, hv5, hb5⟩
              obtain ⟨p5, c5, rfl, -, -⟩ := Hid.out hv5
              have hM5 := Lib.hid (hM.out.later hb5)
              have rc5 := hM5.out.res.cell
              have rf5 := hM5.out.res.frozen
              clear k5 hb5
              go_wp2
              have hrs := (hM5.out.res.set (.slice p5 (ofB T).length c5)).cell
              refine bodyPost_ret (v := .tuple #[.agg #[.slice p5 (ofB T).length c5], .int .i64 0]) ?_ rfl ⟨_, by rw [hfin.out], by rw [hfin.out]; exact hv5.setR hM5.out.res _, hM5.out.below.setCell (p := ⟨w.heap.size + 2, 0, none⟩) (by show w.heap.size ≤ w.heap.size + 2; omega) _⟩
              simp [results, Tryd.results13, go_sem, hrs]
        · have k3 := Lib.hid (rset_any hRa2.out.chs hs1'.out)
          clear hop
          go_wp2_with fail
          refine (k3.out).mono ?_
          rintro e W3 ⟨g, rfl, hg1, hg2, hb3⟩
          have hB3 := Lib.hid (hB2.out.trans (hb3.mono hB2.out.size))
          have hRb3 := Lib.hid (hRb2.out.later hb3)
          have hr3 := Lib.hid (hr2.out.later hb3)
          have hgl := Lib.hid (show w.heap.size + 2 < g by have := hr2.out.lt; omega)
          have hbo3 := Lib.hid hg1
          have xb3 := hRb3.out.box.cell
          have k4 := Lib.hid (rset_any hRb3.out.chs hs2'.out)
          clear k3 hb3 hg1 hg2 xa2 xb2 hRa2 hRb2 hB2 hr2
          go_wp2_with fail
          refine (k4.out).mono ?_
          rintro e W4 ⟨g', rfl, hg1, hg2, hb4⟩
          have hM0 : Hid (ResB w W4 (w.heap.size + 2) g (joinB 4 (bitR la) (bitR lb) 0)) := Lib.hid ⟨hr3.out.later hb4, (hbo3.out.later hb4).congr fun n _ => rfl, hB3.out.trans (hb4.mono hB3.out.size), by have := hgl.out; omega⟩
          have hC0 := Lib.hid hg1
          have hne := Lib.hid (show g' ≠ g by have := hbo3.out.lt; omega)
          clear k4 hb4 hg1 hg2 hbo3 hgl xb3 hRb3 hB3 hr3
          go_wp2
          go_loopw [10] (fun i wr => ∃ n : Nat, i = .int .i64 n ∧ n ≤ 65536 ∧ Hid (ResB w wr (w.heap.size + 2) g (joinB 4 (bitR la) (bitR lb) n)) ∧ Hid (Bo wr g' (bitR lb)))
            (fun i _ => 65536 - (intOf i).toNat)
          case atStart => exact ⟨0, rfl, Nat.zero_le _, hM0, hC0⟩
          case round =>
            obtain ⟨n, rfl, hn, hM, hC⟩ := hrel
            clear hM0 hC0
            by_cases hlt : n < 65536
            · have hjd : decide ((n : Int) < 65536) = true := by simp; omega
              have hcl := hM.out.bo.cell hlt
              have hfr := hM.out.bo.frozen n
              have hc2 := hC.out.cell hlt
              have hj0 : (0 : Int) ≤ (n : Int) := by omega
              have hj1 : (n : Int) < 65536 := by omega
              rw [joinB_at] at hcl
              have hput : Hid (∀ u, u = opBit 4 (bitR la n) (bitR lb n) → ResB w (wr.setCell ⟨g, n, none⟩ (.bool u)) (w.heap.size + 2) g (joinB 4 (bitR la) (bitR lb) (n + 1))) := Lib.hid fun u hu => (hM.out.put hlt u).congr fun m _ => by rw [joinB_step, hu]
              have hfar := Lib.hid (fun u => hC.out.far (p := ⟨g, n, none⟩) hne.out u)
              clear hM hC
              generalize bitR la n = x at hcl hput
              generalize bitR lb n = y at hc2 hput
              cases x <;> cases y <;> (
                go_wp2
                go_roundw
                case rel => exact ⟨n + 1, by go_num, by omega, Lib.hid (hput.out _ rfl), Lib.hid (hfar.out _)⟩
                case measure => simp [intOf]; omega)
            · have hjd : decide ((n : Int) < 65536) = false := by simp; omega
              obtain rfl : n = 65536 := by omega
              have k5 := Lib.hid (rof_any hM.out.bo)
              generalize joinB 4 (bitR la) (bitR lb) 65536 = T at hM k5 hfin
              go_wp2_with fail
              refine (k5.out).mono ?_
              rintro e W5 ⟨v5, rfl, hv5, hb5⟩
              obtain ⟨p5, c5, rfl, -, -⟩ := Hid.out hv5
              have hM5 := Lib.hid (hM.out.later hb5)
              have rc5 := hM5.out.res.cell
              have rf5 := hM5.out.res.frozen
              clear k5 hb5
              go_wp2
              have hrs := (hM5.out.res.set (.slice p5 (ofB T).length c5)).cell
              refine bodyPost_ret (v := .tuple #[.agg #[.slice p5 (ofB T).length c5], .int .i64 0]) ?_ rfl ⟨_, by rw [hfin.out], by rw [hfin.out]; exact hv5.setR hM5.out.res _, hM5.out.below.setCell (p := ⟨w.heap.size + 2, 0, none⟩) (by show w.heap.size ≤ w.heap.size + 2; omega) _⟩
              simp [results, Tryd.results13, go_sem, hrs]
end Go.Proofs.YtalnfbkmlllfhaaDoor
