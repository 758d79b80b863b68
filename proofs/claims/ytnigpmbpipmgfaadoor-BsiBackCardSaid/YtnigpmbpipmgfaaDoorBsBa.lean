/-
  BsiBack: the walk, and whatever the input, true.
-/
import Derived.Test.YtnigpmbpipmgfaaDoorBsY
namespace Go.Proofs.YtnigpmbpipmgfaaDoor
open Go.RowKit Go.Shelf Tess

theorem idxB_mem {hs : List Bool} {j : Nat} : j ∈ idxB hs ↔ hs[j]?.getD false = true := by
  unfold idxB
  rw [List.mem_filter, List.mem_range]
  constructor
  · exact fun h => h.2
  · intro h
    refine ⟨?_, h⟩
    by_cases hj : j < hs.length
    · exact hj
    · rw [List.getElem?_eq_none (by omega)] at h; cases h
theorem getB_at {l : List Int} {hs : List Bool} (h : ColOk l hs) (j : Nat) : getB (mkB l hs) (j : Int) = if hs[j]?.getD false = true then (vI l j, true) else (0, false) := by
  rw [getB_mk h]
  by_cases hj : hs[j]?.getD false = true
  · rw [if_pos ⟨by omega, by rw [Int.toNat_natCast]; exact idxB_mem.2 hj⟩, if_pos hj, Int.toNat_natCast]
  · rw [if_neg (fun k => hj (idxB_mem.1 (by have := k.2; rwa [Int.toNat_natCast] at this))), if_neg hj]
theorem ints_cell {n₀ : Nat} {W : World} {p : Option Addr} {n c : Nat} {l : List Int} (h : Ints n₀ W (.slice p n c) l) (j : Nat) (hj : j < l.length) : ∃ b off, p = some ⟨b, off, none⟩ ∧ b < n₀ ∧ W.cell? ⟨b, off + j, none⟩ = some (.int .i64 (vI l j)) := by
  rcases h with ⟨-, rfl⟩ | ⟨b, off, cap, e, hb, hc⟩
  · cases hj
  · cases e
    exact ⟨b, off, rfl, hb, hc j hj⟩
theorem bools_cell {n₀ : Nat} {W : World} {p : Option Addr} {n c : Nat} {l : List Bool} (h : BoolsAt n₀ W (.slice p n c) l) (j : Nat) (hj : j < l.length) : ∃ b off, p = some ⟨b, off, none⟩ ∧ b < n₀ ∧ W.cell? ⟨b, off + j, none⟩ = some (.bool (l[j]?.getD false)) := by
  obtain ⟨p', cap, e, hc⟩ := h
  cases e
  exact hc j hj

set_option linter.unusedSimpArgs false in
set_option maxRecDepth 100000 in
set_option maxHeartbeats 2000000 in
theorem backBad_any {p ph : Option Addr} {n c nh ch m q : Nat} {bb : Sl} {w : World} (hp : n ≤ c) (hh : nh ≤ ch) (p0 : p = none → n = 0 ∧ c = 0) (h0 : ph = none → nh = 0 ∧ ch = 0) (hm : min n 200 = m) (hq : min nh 200 = q) (hmq : m ≠ q)
    (kS : Hid (Calls Tryd.prog 10 #[] w fun e W' => e = .returned (.bool true) ∧ Below w.heap.size w W'))
    (kB : Hid (∀ W : World, Below w.heap.size w W → Calls Tryd.prog 11 #[.slice p m c, .slice ph q ch] W fun e W' => ∃ vE vB, e = .returned (.tuple #[.agg #[.int .i64 bb.n, .int .i64 bb.least, vE, vB], .int .i64 80]) ∧ HC W' vE bb.ex ∧ HR W' vB bb.bits ∧ Below W.heap.size W W')) :
    Calls Tryd.prog 5 #[.slice p n c, .slice ph nh ch] w fun e W' => e = .returned (.bool true) ∧ Below w.heap.size w W' := by
  have kf0 := Lib.hid (fun W => few8_any W hp hh p0 h0)
  rw [hm, hq] at kf0
  have e1 : (m : Int) ≠ (q : Int) := by omega
  have e2 : decide ((m : Int) = (q : Int)) = false := decide_eq_false e1
  have e3 : ((m : Int) == (q : Int)) = false := beq_false_of_ne e1
  have e4 : ((m : Int) != (q : Int)) = true := by simp [bne, e3]
  clear hm hq hmq p0 h0
  go_enter Tryd.func5, Tryd.ntmps5
  go_wp2_with (first
    | (go_at_call 10; refine (kS.out).mono ?_; rintro e W1 ⟨rfl, hb1⟩; have hB1 := Lib.hid hb1; have kf := Lib.hid (kf0.out W1))
    | (go_at_call 12; refine (kf.out).mono ?_; rintro e W2 ⟨rfl, hb2⟩; clear kf; have hB2 := Lib.hid (hB1.out.trans (hb2.mono hB1.out.size)); have kb := Lib.hid (kB.out _ hB2.out))
    | (go_at_call 11; refine (kb.out).mono ?_; rintro e W3 ⟨vE, vB, rfl, hE, hB, hb3⟩; clear kb; have hA := (Below.refl _ W3).alloc (Nat.le_refl _) (.cells #[.int .i64 bb.n, .int .i64 bb.least, vE, vB] 31); obtain ⟨pE, cE, rfl, -, -⟩ := Hid.out hE; obtain ⟨pB, cB, rfl, -, -⟩ := Hid.out hB; have hbA := hb3.trans (hA.mono hb3.size); have hB3 := Lib.hid (hB2.out.trans (hbA.mono hB2.out.size))))
  exact bodyPost_ret (v := .bool true) (by simp [results, Tryd.results5, go_sem]) rfl ⟨rfl, hB3.out⟩

set_option linter.unusedSimpArgs false in
set_option maxRecDepth 100000 in
set_option maxHeartbeats 4000000 in
theorem backGood_any {p ph : Option Addr} {n c nh ch m : Nat} {bb : Sl} {lq : List Int} {hq : List Bool} {w : World} (hp : n ≤ c) (hh : nh ≤ ch) (p0 : p = none → n = 0 ∧ c = 0) (h0 : ph = none → nh = 0 ∧ ch = 0) (hm : min n 200 = m) (hm2 : min nh 200 = m)
    (hl : Hid (∀ j, j < m → ∃ b off, p = some ⟨b, off, none⟩ ∧ b < w.heap.size ∧ w.cell? ⟨b, off + j, none⟩ = some (.int .i64 (vI lq j))))
    (hb : Hid (∀ j, j < m → ∃ b off, ph = some ⟨b, off, none⟩ ∧ b < w.heap.size ∧ w.cell? ⟨b, off + j, none⟩ = some (.bool (hq[j]?.getD false))))
    (kS : Hid (Calls Tryd.prog 10 #[] w fun e W' => e = .returned (.bool true) ∧ Below w.heap.size w W'))
    (kB : Hid (∀ W : World, Below w.heap.size w W → Calls Tryd.prog 11 #[.slice p m c, .slice ph m ch] W fun e W' => ∃ vE vB, e = .returned (.tuple #[.agg #[.int .i64 m, .int .i64 bb.least, vE, vB], .int .i64 0]) ∧ HC W' vE bb.ex ∧ HR W' vB bb.bits ∧ Below W.heap.size W W'))
    (kG : Hid (∀ (vE vB : Value) (j : Nat) (W : World), Below w.heap.size w W → HC W vE bb.ex → HR W vB bb.bits → Calls Tryd.prog 21 #[.agg #[.int .i64 m, .int .i64 bb.least, vE, vB], .int .i64 j] W fun e W' => e = .returned (.tuple #[.int .i64 (if hq[j]?.getD false = true then (vI lq j, true) else (0, false)).1, .bool (if hq[j]?.getD false = true then (vI lq j, true) else (0, false)).2]) ∧ Below W.heap.size W W'))
    (hend : hq[m]?.getD false = false)
    (kR : Hid (∀ (vE vB : Value) (W : World), Below w.heap.size w W → HC W vE bb.ex → HR W vB bb.bits → Calls Tryd.prog 24 #[.agg #[.int .i64 m, .int .i64 bb.least, vE, vB]] W fun e W' => e = .returned (.bool true) ∧ Below W.heap.size W W')) :
    Calls Tryd.prog 5 #[.slice p n c, .slice ph nh ch] w fun e W' => e = .returned (.bool true) ∧ Below w.heap.size w W' := by
  have kf0 := Lib.hid (fun W => few8_any W hp hh p0 h0)
  rw [hm, hm2] at kf0
  have hm200 : m ≤ 200 := by omega
  clear hm hm2 p0 h0
  have hend' := Lib.hid hend
  clear hend
  go_enter Tryd.func5, Tryd.ntmps5
  go_wp2_with (first
    | (go_at_call 10; refine (kS.out).mono ?_; rintro e W1 ⟨rfl, hb1⟩; have hB1 := Lib.hid hb1; have kf := Lib.hid (kf0.out W1))
    | (go_at_call 12; refine (kf.out).mono ?_; rintro e W2 ⟨rfl, hb2⟩; clear kf; have hB2 := Lib.hid (hB1.out.trans (hb2.mono hB1.out.size)); have kb := Lib.hid (kB.out _ hB2.out))
    | (go_at_call 11; refine (kb.out).mono ?_; rintro e W3 ⟨vE, vB, rfl, hE, hB, hb3⟩; clear kb; obtain ⟨pE, cE, rfl, -, -⟩ := Hid.out hE; obtain ⟨pB, cB, rfl, -, -⟩ := Hid.out hB; have q1 := Lib.hid (SBox.new W3 31 m bb.least (.slice pE bb.ex.length cE) (.slice pB bb.bits.length cB)); have hA := (Below.refl _ W3).alloc (Nat.le_refl _) (.cells #[.int .i64 m, .int .i64 bb.least, .slice pE bb.ex.length cE, .slice pB bb.bits.length cB] 31); have hbA := hb3.trans (hA.mono hb3.size); have hB3 := Lib.hid (hB2.out.trans (hbA.mono hB2.out.size)); have hE' := hE.later hA; have hB' := hB.later hA))
  generalize W3.alloc (.cells #[.int .i64 m, .int .i64 bb.least, .slice pE bb.ex.length cE, .slice pB bb.bits.length cB] 31) = W4 at *
  generalize W3.heap.size = b3 at *
  clear hbA hA hE hB hb1 hb2 hb3 hB1 hB2 kB kS kf0
  go_loopw [8] (fun i wr => ∃ j : Nat, j ≤ m ∧ i = .int .i64 (j : Int) ∧ Hid (Below W4.heap.size W4 wr))
    (fun i _ => m - (intOf i).toNat)
  case atStart => exact ⟨0, Nat.zero_le _, rfl, Lib.hid (Below.refl _ _)⟩
  case round =>
    obtain ⟨j, hj, rfl, hbr⟩ := hrel
    have q5 := Lib.hid (q1.out.later hbr.out)
    have hE5 := hE'.later hbr.out
    have hB5 := hB'.later hbr.out
    have hBr := Lib.hid (hB3.out.trans (hbr.out.mono hB3.out.size))
    have c0 := q5.out.c0
    have c1 := q5.out.c1
    have c2 := q5.out.c2
    have c3 := q5.out.c3
    by_cases hlt : j < m
    · obtain ⟨b, off, rfl, hb1, d1⟩ := hl.out j hlt
      obtain ⟨b', off', rfl, hb2, d2⟩ := hb.out j hlt
      have hkd : decide ((j : Int) < (m : Int)) = true := decide_eq_true (by omega)
      have kg := Lib.hid (kG.out _ _ j _ hBr.out hE5 hB5)
      by_cases hv : hq[j]?.getD false = true
      · rw [if_pos hv] at kg
        rw [hv] at d2
        have z1 := (hBr.out.cell (p := ⟨b, off + j, none⟩) hb1).trans d1
        have z2 := (hBr.out.cell (p := ⟨b', off' + j, none⟩) hb2).trans d2
        generalize vI lq j = x at *
        clear d1 d2
        go_wp2_with (go_at_call 21; refine (kg.out).mono ?_; rintro e W6 ⟨rfl, hb6⟩; clear kg c0 c1 c2 c3; have y1 := (hb6.cell (World.block_lt_of_cell? _ _ z1)).trans z1; have y2 := (hb6.cell (World.block_lt_of_cell? _ _ z2)).trans z2; clear z1 z2)
        exact ⟨⟨j + 1, by omega, by push_cast; rfl, Lib.hid (hbr.out.trans (hb6.mono hbr.out.size))⟩, by simp [intOf]; omega⟩
      · rw [if_neg hv] at kg
        have hv' : hq[j]?.getD false = false := by simpa using hv
        rw [hv'] at d2
        have z2 := (hBr.out.cell (p := ⟨b', off' + j, none⟩) hb2).trans d2
        clear d1 d2
        go_wp2_with (go_at_call 21; refine (kg.out).mono ?_; rintro e W6 ⟨rfl, hb6⟩; clear kg c0 c1 c2 c3; have y2 := (hb6.cell (World.block_lt_of_cell? _ _ z2)).trans z2; clear z2)
        exact ⟨⟨j + 1, by omega, by push_cast; rfl, Lib.hid (hbr.out.trans (hb6.mono hbr.out.size))⟩, by simp [intOf]; omega⟩
    · obtain rfl : j = m := by omega
      have hkd : decide ((j : Int) < (j : Int)) = false := decide_eq_false (by omega)
      have kg := Lib.hid (kG.out _ _ j _ hBr.out hE5 hB5)
      rw [hend'.out, if_neg (by decide)] at kg
      go_wp2_with (first
        | (go_at_call 21; refine (kg.out).mono ?_; rintro e W6 ⟨rfl, hb6⟩; clear kg c0 c1 c2 c3; have q6 := Lib.hid (q5.out.later hb6); have hE6 := hE5.later hb6; have hB6 := hB5.later hb6; have hBr6 := Lib.hid (hBr.out.trans (hb6.mono hBr.out.size)); have c0 := q6.out.c0; have c1 := q6.out.c1; have c2 := q6.out.c2; have c3 := q6.out.c3; have kr := Lib.hid (kR.out _ _ _ hBr6.out hE6 hB6))
        | (go_at_call 24; refine (kr.out).mono ?_; rintro e W7 ⟨rfl, hb7⟩; clear kr c0 c1 c2 c3; have q7 := Lib.hid (q6.out.later hb7); have c0 := q7.out.c0; have hBr7 := Lib.hid (hBr6.out.trans (hb7.mono hBr6.out.size))))
      exact bodyPost_ret (v := .bool true) (by simp [results, Tryd.results5, go_sem]) rfl ⟨rfl, hBr7.out⟩
end Go.Proofs.YtnigpmbpipmgfaaDoor
