/-
  The laws' head: shown.
-/
import Derived.Test.YtnigpmbpipmgfaaDoorBsU
namespace Go.Proofs.YtnigpmbpipmgfaaDoor
open Go.RowKit Go.Shelf Tess

theorem getB_mk {l : List Int} {hs : List Bool} (h : ColOk l hs) (row : Int) : getB (mkB l hs) row = if 0 ≤ row ∧ row.toNat ∈ idxB hs then (vI l row.toNat, true) else (0, false) := by
  have hr := mkB_right h
  have hx := ex_bits h
  unfold getB
  by_cases hm : 0 ≤ row ∧ row.toNat ∈ idxB hs
  · have hlt := h.lt _ hm.2
    have hh : hasL (mkB l hs).ex row = true := by
      rw [hasL_bits hx.1, decide_eq_true (by omega), Bool.true_and, hx.2 _ (by omega)]
      exact decide_eq_true hm.2
    rw [if_pos ⟨hr, hh⟩, if_pos hm]
    obtain ⟨n, rfl⟩ : ∃ n : Nat, row = n := ⟨row.toNat, by omega⟩
    rw [Int.toNat_natCast] at hm ⊢
    rw [bits_len, valU_mk h hm.2 _ (Nat.le_refl _), Nat.mod_eq_of_lt (upBy_lt hm.2)]
    have e : (mkB l hs).least + (upBy l hs n : Int) = vI l n := up_eq hm.2
    rw [e, IntKind.wrap_i64]
    have := h.rg n
    congr 1
    omega
  · have hh : ¬ (isRightB (mkB l hs) = true ∧ hasL (mkB l hs).ex row = true) := by
      rintro ⟨-, hh⟩
      rw [hasL_bits hx.1, Bool.and_eq_true, decide_eq_true_eq] at hh
      obtain ⟨h1, h2⟩ := hh
      rw [hx.2 _ (by omega)] at h2
      exact hm ⟨h1.1, of_decide_eq_true h2⟩
    rw [if_neg hh, if_neg hm]

def lS : List Int := [5, 9, 3, 10]
def hS : List Bool := [true, false, true, true]
theorem okS : ColOk lS hS := ⟨by decide, rfl, fun i => by
  unfold vI lS
  match i with
  | 0 => decide
  | 1 => decide
  | 2 => decide
  | 3 => decide
  | i + 4 => simp⟩
theorem buildS : buildB lS hS = (mkB lS hS, 0) := if_pos (by decide)
theorem nS : (mkB lS hS).n = 4 := rfl
theorem leastS : (mkB lS hS).least = 3 := by decide
theorem lenS : (mkB lS hS).bits.length = 3 := by rw [bits_len]; decide +kernel
theorem getS3 : getB (mkB lS hS) 3 = (10, true) := by rw [getB_mk okS]; decide
theorem getS1 : getB (mkB lS hS) 1 = (0, false) := by rw [getB_mk okS]; decide
theorem spanS : (spanL 0 4).2 = 0 ∧ rightL (spanL 0 4).1 = true := by
  obtain ⟨r, h, hr, -⟩ := flip_some (l := []) (a := 0) (b := 4) right_nil ⟨by decide, by decide, by decide, by decide⟩
  have e : spanL 0 4 = (r, 0) := h
  rw [e]
  exact ⟨rfl, hr⟩
theorem digS : (mkB lS hS).bits = [mkN [3], mkN [0, 3], mkN [3]] := by decide +kernel
theorem exS : (mkB lS hS).ex = mkN [0, 2, 3] := by decide +kernel
theorem cntS {xs : List Nat} (h : ∀ x ∈ xs, x < 65536) (k : Int) (hk : cntL (andL (mkN xs) (spanL 0 4).1) = k) : (cntN (andL (mkN xs) (spanL 0 4).1) : Int) = k := by
  rw [← cntN_eq (and_some (mkN_bits h).1 spanS.2).2.1, hk]
theorem sumS : sumB (mkB lS hS) (spanL 0 4).1 = (18, 3, 0) := by
  rw [sumB_yes ⟨mkB_right okS, spanS.2⟩, lenS, digS, exS, leastS]
  have c0 := cntS (xs := [0, 2, 3]) (by decide) 3 (by decide +kernel)
  have c1 := cntS (xs := [3]) (by decide) 1 (by decide +kernel)
  have c2 := cntS (xs := [0, 3]) (by decide) 2 (by decide +kernel)
  show (accU _ _ _ 3, _, _) = _
  rw [c0]
  show (3 * 3 + (cntN (andL (mkN [3]) (spanL 0 4).1) : Int) * 2 ^ 0 + (cntN (andL (mkN [0, 3]) (spanL 0 4).1) : Int) * 2 ^ 1 + (cntN (andL (mkN [3]) (spanL 0 4).1) : Int) * 2 ^ 2, (3 : Int), (0 : Int)) = _
  rw [c1, c2]
  decide
theorem keep6 {W W1 W2 : World} {a1 a2 a3 a4 a5 : Addr} {x1 x2 x3 x4 x5 : Value} (hb : Below W1.heap.size W1 W2) (h : Hid (Below W.heap.size W W1) ∧ W1.cell? a1 = some x1 ∧ W1.cell? a2 = some x2 ∧ W1.cell? a3 = some x3 ∧ W1.cell? a4 = some x4 ∧ W1.cell? a5 = some x5) :
    Hid (Below W.heap.size W W2) ∧ W2.cell? a1 = some x1 ∧ W2.cell? a2 = some x2 ∧ W2.cell? a3 = some x3 ∧ W2.cell? a4 = some x4 ∧ W2.cell? a5 = some x5 := by
  have d {a : Addr} {x : Value} (k : W1.cell? a = some x) : W2.cell? a = some x := (hb.cell (World.block_lt_of_cell? W1 a k)).trans k
  exact ⟨Lib.hid (h.1.out.trans (hb.mono h.1.out.size)), d h.2.1, d h.2.2.1, d h.2.2.2.1, d h.2.2.2.2.1, d h.2.2.2.2.2⟩
theorem wd18 : wdV 18 = .agg #[.int .i64 0, .int .u64 18] := by
  have h1 : hiW 18 = 0 := by decide +kernel
  have h2 : loW 18 = 18 := by decide +kernel
  unfold wdV
  rw [h1, h2]
/-- The column that is known. -/
theorem knownS : ∃ ex bs, buildB lS hS = (⟨4, 3, ex, bs⟩, 0) ∧ bs.length = 3 ∧ getB ⟨4, 3, ex, bs⟩ 3 = (10, true) ∧ getB ⟨4, 3, ex, bs⟩ 1 = (0, false) ∧ sumB ⟨4, 3, ex, bs⟩ (spanL 0 4).1 = (18, 3, 0) ∧ SmallB ⟨4, 3, ex, bs⟩ := by
  have e : mkB lS hS = ⟨4, 3, (mkB lS hS).ex, (mkB lS hS).bits⟩ := by
    have h1 := nS
    have h2 := leastS
    cases hm : mkB lS hS with
    | mk n least ex bs =>
      rw [hm] at h1 h2
      simp only at h1 h2
      rw [h1, h2]
  refine ⟨(mkB lS hS).ex, (mkB lS hS).bits, ?_, lenS, ?_, ?_, ?_, ?_⟩
  · rw [buildS, ← e]
  · rw [← e]; exact getS3
  · rw [← e]; exact getS1
  · rw [← e]; exact sumS
  · rw [← e]; exact mkB_small okS

theorem intsS (w : World) : Ints ((w.alloc (.cells #[.int .i64 5, .int .i64 9, .int .i64 3, .int .i64 10] 2)).alloc (.cells #[.bool true, .bool false, .bool true, .bool true] 4)).heap.size ((w.alloc (.cells #[.int .i64 5, .int .i64 9, .int .i64 3, .int .i64 10] 2)).alloc (.cells #[.bool true, .bool false, .bool true, .bool true] 4)) (.slice (some ⟨w.heap.size, 0, none⟩) 4 4) lS := by
  refine .inr ⟨w.heap.size, 0, 4, rfl, by simp; omega, fun j hj => ?_⟩
  have h0 : ((w.alloc (.cells #[.int .i64 5, .int .i64 9, .int .i64 3, .int .i64 10] 2)).alloc (.cells #[.bool true, .bool false, .bool true, .bool true] 4)).heap[w.heap.size]? = some (.cells #[.int .i64 5, .int .i64 9, .int .i64 3, .int .i64 10] 2) := (Below.heap_alloc _ _ _ (by simp)).trans (World.alloc_heap_new w _)
  rw [Nat.zero_add, cell_of_row _ _ _ _ _ (0, 0) h0]
  match j, hj with
  | 0, _ => rfl
  | 1, _ => rfl
  | 2, _ => rfl
  | 3, _ => rfl
  | j + 4, hj => simp [lS] at hj; omega
theorem boolsS (w : World) : BoolsAt ((w.alloc (.cells #[.int .i64 5, .int .i64 9, .int .i64 3, .int .i64 10] 2)).alloc (.cells #[.bool true, .bool false, .bool true, .bool true] 4)).heap.size ((w.alloc (.cells #[.int .i64 5, .int .i64 9, .int .i64 3, .int .i64 10] 2)).alloc (.cells #[.bool true, .bool false, .bool true, .bool true] 4)) (.slice (some ⟨w.heap.size + 1, 0, none⟩) 4 4) hS := by
  refine ⟨_, _, rfl, fun j hj => ⟨w.heap.size + 1, 0, rfl, by simp, ?_⟩⟩
  have h0 := World.alloc_heap_new (w.alloc (.cells #[.int .i64 5, .int .i64 9, .int .i64 3, .int .i64 10] 2)) (.cells #[.bool true, .bool false, .bool true, .bool true] 4)
  rw [World.size_alloc] at h0
  rw [Nat.zero_add, cell_of_row _ _ _ _ _ (0, 0) h0]
  match j, hj with
  | 0, _ => rfl
  | 1, _ => rfl
  | 2, _ => rfl
  | 3, _ => rfl
  | j + 4, hj => simp [hS] at hj; omega
set_option linter.unusedSimpArgs false in
set_option maxRecDepth 100000 in
set_option maxHeartbeats 2000000 in
theorem shown8_any (w : World) (hT : Tab w) : Calls Tryd.prog 10 #[] w fun e W' => e = .returned (.bool true) ∧ Below w.heap.size w W' := by
  have hR : Below w.heap.size w ((w.alloc (.cells #[.int .i64 5, .int .i64 9, .int .i64 3, .int .i64 10] 2)).alloc (.cells #[.bool true, .bool false, .bool true, .bool true] 4)) := ((Below.refl w.heap.size w).alloc (Nat.le_refl _) _).alloc (by simp) _
  have k0 := Lib.hid (build_any (intsS w) (boolsS w) okS.rg (hT.below hR hT.lt))
  have hTw := Lib.hid hT
  have hR' := Lib.hid hR
  obtain ⟨ex, bs, g0, g1, g2, g3, g4, g5⟩ := knownS
  rw [g0] at k0
  dsimp only at k0
  obtain ⟨sp, hsp⟩ : ∃ sp, (spanL 0 4).1 = sp := ⟨_, rfl⟩
  have hsr := spanS.2
  have hse := spanS.1
  rw [hsp] at g4 hsr
  have hbl := Lib.hid g1
  have kG3 : Hid (∀ (vE vB : Value) (W : World), Below w.heap.size w W → HC W vE ex → HR W vB bs → Calls Tryd.prog 21 #[.agg #[.int .i64 4, .int .i64 3, vE, vB], .int .i64 3] W fun e W' => e = .returned (.tuple #[.int .i64 10, .bool true]) ∧ Below W.heap.size W W') := fun vE vB W h h1 h2 => by
    have := getB_any (b := ⟨4, 3, ex, bs⟩) 3 h1 h2 g5 (hTw.out.below h hTw.out.lt)
    rw [g2] at this
    exact this
  have kG1 : Hid (∀ (vE vB : Value) (W : World), Below w.heap.size w W → HC W vE ex → HR W vB bs → Calls Tryd.prog 21 #[.agg #[.int .i64 4, .int .i64 3, vE, vB], .int .i64 1] W fun e W' => e = .returned (.tuple #[.int .i64 0, .bool false]) ∧ Below W.heap.size W W') := fun vE vB W h h1 h2 => by
    have := getB_any (b := ⟨4, 3, ex, bs⟩) 1 h1 h2 g5 (hTw.out.below h hTw.out.lt)
    rw [g3] at this
    exact this
  have kSp : Hid (∀ W : World, Below w.heap.size w W → Calls Tryd.prog 15 #[.int .i64 0, .int .i64 4] W fun e W' => ∃ v', e = .returned (.tuple #[.agg #[v'], .int .i64 0]) ∧ HC W' v' sp ∧ Below W.heap.size W W') := fun W h => by
    have := span7_any 0 4 (hTw.out.below h hTw.out.lt)
    rw [hse, hsp] at this
    exact this
  have kSu : Hid (∀ (vE vB vr : Value) (W : World), Below w.heap.size w W → HC W vE ex → HR W vB bs → HC W vr sp → Calls Tryd.prog 16 #[.agg #[.int .i64 4, .int .i64 3, vE, vB], .agg #[vr]] W fun e W' => e = .returned (.tuple #[.agg #[.int .i64 0, .int .u64 18], .int .i64 3, .int .i64 0]) ∧ Below W.heap.size W W') := fun vE vB vr W h h1 h2 h3 => by
    have := sumB_any (b := ⟨4, 3, ex, bs⟩) h1 h2 h3 g5 (small_right hsr) (hTw.out.below h hTw.out.lt)
    rw [g4, wd18] at this
    exact this
  have kOf : Hid (∀ W : World, Calls Tryd.prog 38 #[.int .i64 18] W fun e W' => e = .returned (.agg #[.int .i64 0, .int .u64 18]) ∧ Below W.heap.size W W') := fun W => by
    have := wideOf_any 18 W (by decide) (by decide)
    rw [wd18] at this
    exact this
  clear hT hR g0 g1 g2 g3 g4 g5 hsp hsr hse
  go_enter Tryd.func10, Tryd.ntmps10
  go_wp2_with (first
    | (go_at_call 11; refine (k0.out).mono ?_; rintro e W1 ⟨vE, vB, rfl, hE, hB, hb1⟩; obtain ⟨pE, cE, rfl, -, -⟩ := Hid.out hE; obtain ⟨pB, cB, rfl, -, -⟩ := Hid.out hB; have hB1 := Lib.hid ((hR'.out.trans (hb1.mono hR'.out.size))); have q1 := Lib.hid (SBox.new W1 31 4 3 (.slice pE ex.length cE) (.slice pB bs.length cB)); have hA := (Below.refl _ W1).alloc (Nat.le_refl _) (.cells #[.int .i64 4, .int .i64 3, .slice pE ex.length cE, .slice pB bs.length cB] 31); have hB1' := Lib.hid (hB1.out.trans (hA.mono hB1.out.size)); have hE' := hE.later hA; have hB' := hB.later hA; have kg := Lib.hid (kG3.out _ _ _ hB1'.out hE' hB'))
    | (go_at_call 21; refine (kg.out).mono ?_; rintro e W2 ⟨rfl, hb2⟩; clear kg; have hB2 := Lib.hid (hB1'.out.trans (hb2.mono hB1'.out.size)); have q2 := Lib.hid (q1.out.later hb2); have c0 := q2.out.c0; have c1 := q2.out.c1; have c2 := q2.out.c2; have c3 := q2.out.c3; have hE2 := hE'.later hb2; have hB22 := hB'.later hb2; have kg1 := Lib.hid (kG1.out _ _ _ hB2.out hE2 hB22))
    | (go_at_call 21; refine (kg1.out).mono ?_; rintro e W3 ⟨rfl, hb3⟩; clear kg1 c0 c1 c2 c3; have hB3 := Lib.hid (hB2.out.trans (hb3.mono hB2.out.size)); have q3 := Lib.hid (q2.out.later hb3); have hE3 := hE2.later hb3; have hB33 := hB22.later hb3; have ks := Lib.hid (kSp.out _ hB3.out))
    | (go_at_call 15; refine (ks.out).mono ?_; rintro e W4 ⟨vr, rfl, hr, hb4⟩; obtain ⟨pr, cr, rfl, -, -⟩ := Hid.out hr; have hA4 := (Below.refl _ W4).alloc (Nat.le_refl _) (.cells #[.slice pr sp.length cr] 28); have hb44 := hb4.trans (hA4.mono hb4.size); have hB4 := Lib.hid (hB3.out.trans (hb44.mono hB3.out.size)); have q4 := Lib.hid (q3.out.later hb44); have c0 := q4.out.c0; have c1 := q4.out.c1; have c2 := q4.out.c2; have c3 := q4.out.c3; have ksu := Lib.hid (kSu.out _ _ _ _ hB4.out (hE3.later hb44) (hB33.later hb44) (hr.later hA4)))
    | (go_at_call 16; refine (ksu.out).mono ?_; rintro e W5 ⟨rfl, hb5⟩; clear ksu c0 c1 c2 c3))
  have hA5 : Below W5.heap.size W5 (W5.alloc (.cells #[.int .i64 0, .int .u64 18] 43)) := (Below.refl _ W5).alloc (Nat.le_refl _) _
  have hb55 := hb5.trans (hA5.mono hb5.size)
  have hB5 := hB4.out.trans (hb55.mono hB4.out.size)
  have q5 := q4.out.later hb55
  have z5 : (W5.alloc (.cells #[.int .i64 0, .int .u64 18] 43)).heap[W5.heap.size]? = some (.cells #[.int .i64 0, .int .u64 18] 43 (0, 0)) := World.alloc_heap_new W5 _
  have w0 : (W5.alloc (.cells #[.int .i64 0, .int .u64 18] 43)).cell? ⟨W5.heap.size, 0, none⟩ = some (.int .i64 0) := by rw [cell_of_row _ _ _ _ _ (0, 0) z5]; rfl
  have w1 : (W5.alloc (.cells #[.int .i64 0, .int .u64 18] 43)).cell? ⟨W5.heap.size, 1, none⟩ = some (.int .u64 18) := by rw [cell_of_row _ _ _ _ _ (0, 0) z5]; rfl
  clear z5 hb5 hA5 hb55
  generalize W5.alloc (.cells #[.int .i64 0, .int .u64 18] 43) = W6 at *
  generalize W5.heap.size = b9 at *
  generalize W1.heap.size = b1 at *
  have hMd : (fun W' : World => Hid (Below W6.heap.size W6 W') ∧ W'.cell? ⟨b1, 0, none⟩ = some (.int .i64 4) ∧ W'.cell? ⟨b1, 1, none⟩ = some (.int .i64 3) ∧ W'.cell? ⟨b1, 3, none⟩ = some (.slice pB bs.length cB) ∧ W'.cell? ⟨b9, 0, none⟩ = some (.int .i64 0) ∧ W'.cell? ⟨b9, 1, none⟩ = some (.int .u64 18)) W6.drew := ⟨Lib.hid (Below.refl _ W6).drew, q5.c0, q5.c1, q5.c3, w0, w1⟩
  have hB5' := Lib.hid hB5
  have hb3' : ((bs.length : Int) == 3) = true := by rw [hbl.out]; rfl
  clear w0 w1 q5 hB5
  refine region_late (S := (fun W' : World => Hid (Below W6.heap.size W6 W') ∧ W'.cell? ⟨b1, 0, none⟩ = some (.int .i64 4) ∧ W'.cell? ⟨b1, 1, none⟩ = some (.int .i64 3) ∧ W'.cell? ⟨b1, 3, none⟩ = some (.slice pB bs.length cB) ∧ W'.cell? ⟨b9, 0, none⟩ = some (.int .i64 0) ∧ W'.cell? ⟨b9, 1, none⟩ = some (.int .u64 18))) (fun n => n == 999) (by kernel_rfl) hMd (fun hHeld => ?_)
  clear hMd
  generalize World.drew W6 = Wd at *
  refine wpAnyL_take (i := 0) (oi := { dst := some 39, op := _, type := _, pos := _, after := _, guard := _ }) (v := ?v1) rfl (by kernel_rfl) (by kernel_rfl) (by kernel_rfl) (by kernel_rfl) (fun _ _ _ h => h) (Or.inl ⟨by kernel_rfl, ?y1⟩) hHeld ?r1
  case y1 =>
    intro w hSw
    try dsimp only at hSw
    try simp only [List.getElem_toArray, List.getElem_cons_zero, List.getElem_cons_succ]
    go_simp
    try with_reducible rfl
  try simp only [List.getElem_toArray, List.getElem_cons_zero, List.getElem_cons_succ, Act.put, List.setIfInBounds_toArray, List.set_cons_zero, List.set_cons_succ]
  refine wpAnyL_take (i := 1) (oi := { dst := some 40, op := _, type := _, pos := _, after := _, guard := _ }) (v := ?v2) rfl (by kernel_rfl) (by kernel_rfl) (by kernel_rfl) (by kernel_rfl) (fun _ _ _ h => h) (Or.inl ⟨by kernel_rfl, ?y2⟩) hHeld ?r2
  case y2 =>
    intro w hSw
    try dsimp only at hSw
    try simp only [List.getElem_toArray, List.getElem_cons_zero, List.getElem_cons_succ]
    go_simp
    try with_reducible rfl
  try simp only [List.getElem_toArray, List.getElem_cons_zero, List.getElem_cons_succ, Act.put, List.setIfInBounds_toArray, List.set_cons_zero, List.set_cons_succ]
  refine wpAnyL_take (i := 2) (oi := { dst := some 41, op := _, type := _, pos := _, after := _, guard := _ }) (v := ?v3) rfl (by kernel_rfl) (by kernel_rfl) (by kernel_rfl) (by kernel_rfl) (fun _ _ _ h => h) (Or.inl ⟨by kernel_rfl, ?y3⟩) hHeld ?r3
  case y3 =>
    intro w hSw
    try dsimp only at hSw
    try simp only [List.getElem_toArray, List.getElem_cons_zero, List.getElem_cons_succ]
    go_simp
    try with_reducible rfl
  try simp only [List.getElem_toArray, List.getElem_cons_zero, List.getElem_cons_succ, Act.put, List.setIfInBounds_toArray, List.set_cons_zero, List.set_cons_succ]
  refine wpAnyL_take (i := 3) (oi := { dst := some 42, op := _, type := _, pos := _, after := _, guard := _ }) (v := ?v4) rfl (by kernel_rfl) (by kernel_rfl) (by kernel_rfl) (by kernel_rfl) (fun _ _ _ h => h) (Or.inl ⟨by kernel_rfl, ?y4⟩) hHeld ?r4
  case y4 =>
    intro w hSw
    try dsimp only at hSw
    try simp only [List.getElem_toArray, List.getElem_cons_zero, List.getElem_cons_succ]
    go_simp
    try with_reducible rfl
  try simp only [List.getElem_toArray, List.getElem_cons_zero, List.getElem_cons_succ, Act.put, List.setIfInBounds_toArray, List.set_cons_zero, List.set_cons_succ]
  refine wpAnyL_take (i := 4) (oi := { dst := some 43, op := _, type := _, pos := _, after := _, guard := _ }) (v := ?v5) rfl (by kernel_rfl) (by kernel_rfl) (by kernel_rfl) (by kernel_rfl) (fun _ _ _ h => h) (Or.inl ⟨by kernel_rfl, ?y5⟩) hHeld ?r5
  case y5 =>
    intro w hSw
    try dsimp only at hSw
    try simp only [List.getElem_toArray, List.getElem_cons_zero, List.getElem_cons_succ]
    go_simp
    try with_reducible rfl
  try simp only [List.getElem_toArray, List.getElem_cons_zero, List.getElem_cons_succ, Act.put, List.setIfInBounds_toArray, List.set_cons_zero, List.set_cons_succ]
  refine wpAnyL_take (i := 5) (oi := { dst := some 44, op := _, type := _, pos := _, after := _, guard := _ }) (v := ?v6) rfl (by kernel_rfl) (by kernel_rfl) (by kernel_rfl) (by kernel_rfl) (fun _ _ _ h => h) (Or.inl ⟨by kernel_rfl, ?y6⟩) hHeld ?r6
  case y6 =>
    intro w hSw
    try dsimp only at hSw
    try simp only [List.getElem_toArray, List.getElem_cons_zero, List.getElem_cons_succ]
    go_simp
    try with_reducible rfl
  try simp only [List.getElem_toArray, List.getElem_cons_zero, List.getElem_cons_succ, Act.put, List.setIfInBounds_toArray, List.set_cons_zero, List.set_cons_succ]
  refine wpAnyL_take (i := 6) (oi := { dst := some 45, op := _, type := _, pos := _, after := _, guard := _ }) (v := ?v7) rfl (by kernel_rfl) (by kernel_rfl) (by kernel_rfl) (by kernel_rfl) (fun _ _ _ h => h) (Or.inl ⟨by kernel_rfl, ?y7⟩) hHeld ?r7
  case y7 =>
    intro w hSw
    try dsimp only at hSw
    try simp only [List.getElem_toArray, List.getElem_cons_zero, List.getElem_cons_succ]
    go_simp
    try with_reducible rfl
  try simp only [List.getElem_toArray, List.getElem_cons_zero, List.getElem_cons_succ, Act.put, List.setIfInBounds_toArray, List.set_cons_zero, List.set_cons_succ]
  refine wpAnyL_take (i := 7) (oi := { dst := some 46, op := _, type := _, pos := _, after := _, guard := _ }) (v := ?v8) rfl (by kernel_rfl) (by kernel_rfl) (by kernel_rfl) (by kernel_rfl) (fun _ _ _ h => h) (Or.inl ⟨by kernel_rfl, ?y8⟩) hHeld ?r8
  case y8 =>
    intro w hSw
    try dsimp only at hSw
    try simp only [List.getElem_toArray, List.getElem_cons_zero, List.getElem_cons_succ]
    go_simp
    try with_reducible rfl
  try simp only [List.getElem_toArray, List.getElem_cons_zero, List.getElem_cons_succ, Act.put, List.setIfInBounds_toArray, List.set_cons_zero, List.set_cons_succ]
  refine wpAnyL_take (i := 8) (oi := { dst := some 47, op := _, type := _, pos := _, after := _, guard := _ }) (v := ?v9) rfl (by kernel_rfl) (by kernel_rfl) (by kernel_rfl) (by kernel_rfl) (fun _ _ _ h => h) (Or.inl ⟨by kernel_rfl, ?y9⟩) hHeld ?r9
  case y9 =>
    intro w hSw
    try dsimp only at hSw
    try simp only [List.getElem_toArray, List.getElem_cons_zero, List.getElem_cons_succ]
    go_simp
    try with_reducible rfl
  try simp only [List.getElem_toArray, List.getElem_cons_zero, List.getElem_cons_succ, Act.put, List.setIfInBounds_toArray, List.set_cons_zero, List.set_cons_succ]
  refine wpAnyL_take (i := 9) (oi := { dst := some 48, op := _, type := _, pos := _, after := _, guard := _ }) (v := ?v10) rfl (by kernel_rfl) (by kernel_rfl) (by kernel_rfl) (by kernel_rfl) (fun _ _ _ h => h) (Or.inl ⟨by kernel_rfl, ?y10⟩) hHeld ?r10
  case y10 =>
    intro w hSw
    try dsimp only at hSw
    try simp only [List.getElem_toArray, List.getElem_cons_zero, List.getElem_cons_succ]
    go_simp
    try with_reducible rfl
  try simp only [List.getElem_toArray, List.getElem_cons_zero, List.getElem_cons_succ, Act.put, List.setIfInBounds_toArray, List.set_cons_zero, List.set_cons_succ]
  refine wpAnyL_take (i := 10) (oi := { dst := some 49, op := _, type := _, pos := _, after := _, guard := _ }) (v := ?v11) rfl (by kernel_rfl) (by kernel_rfl) (by kernel_rfl) (by kernel_rfl) (fun _ _ _ h => h) (Or.inl ⟨by kernel_rfl, ?y11⟩) hHeld ?r11
  case y11 =>
    intro w hSw
    try dsimp only at hSw
    try simp only [List.getElem_toArray, List.getElem_cons_zero, List.getElem_cons_succ]
    go_simp
    try with_reducible rfl
  try simp only [List.getElem_toArray, List.getElem_cons_zero, List.getElem_cons_succ, Act.put, List.setIfInBounds_toArray, List.set_cons_zero, List.set_cons_succ]
  refine wpAnyL_take (i := 11) (oi := { dst := some 50, op := _, type := _, pos := _, after := _, guard := _ }) (v := ?v12) rfl (by kernel_rfl) (by kernel_rfl) (by kernel_rfl) (by kernel_rfl) (fun _ _ _ h => h) (Or.inl ⟨by kernel_rfl, ?y12⟩) hHeld ?r12
  case y12 =>
    intro w hSw
    try dsimp only at hSw
    try simp only [List.getElem_toArray, List.getElem_cons_zero, List.getElem_cons_succ]
    go_simp
    try with_reducible rfl
  try simp only [List.getElem_toArray, List.getElem_cons_zero, List.getElem_cons_succ, Act.put, List.setIfInBounds_toArray, List.set_cons_zero, List.set_cons_succ]
  refine wpAnyL_take (i := 12) (oi := { dst := some 51, op := _, type := _, pos := _, after := _, guard := _ }) (v := ?v13) rfl (by kernel_rfl) (by kernel_rfl) (by kernel_rfl) (by kernel_rfl) (fun _ _ _ h => h) (Or.inl ⟨by kernel_rfl, ?y13⟩) hHeld ?r13
  case y13 =>
    intro w hSw
    try dsimp only at hSw
    try simp only [List.getElem_toArray, List.getElem_cons_zero, List.getElem_cons_succ]
    go_simp
    try with_reducible rfl
  try simp only [List.getElem_toArray, List.getElem_cons_zero, List.getElem_cons_succ, Act.put, List.setIfInBounds_toArray, List.set_cons_zero, List.set_cons_succ]
  refine wpAnyL_take (i := 13) (oi := { dst := some 52, op := _, type := _, pos := _, after := _, guard := _ }) (v := ?v14) rfl (by kernel_rfl) (by kernel_rfl) (by kernel_rfl) (by kernel_rfl) (fun _ _ _ h => h) (Or.inl ⟨by kernel_rfl, ?y14⟩) hHeld ?r14
  case y14 =>
    intro w hSw
    try dsimp only at hSw
    try simp only [List.getElem_toArray, List.getElem_cons_zero, List.getElem_cons_succ]
    go_simp
    try with_reducible rfl
  try simp only [List.getElem_toArray, List.getElem_cons_zero, List.getElem_cons_succ, Act.put, List.setIfInBounds_toArray, List.set_cons_zero, List.set_cons_succ]
  refine wpAnyL_take (i := 14) (oi := { dst := some 53, op := _, type := _, pos := _, after := _, guard := _ }) (v := ?v15) rfl (by kernel_rfl) (by kernel_rfl) (by kernel_rfl) (by kernel_rfl) (fun _ _ _ h => h) (Or.inl ⟨by kernel_rfl, ?y15⟩) hHeld ?r15
  case y15 =>
    intro w hSw
    try dsimp only at hSw
    try simp only [List.getElem_toArray, List.getElem_cons_zero, List.getElem_cons_succ]
    go_simp
    try with_reducible rfl
  try simp only [List.getElem_toArray, List.getElem_cons_zero, List.getElem_cons_succ, Act.put, List.setIfInBounds_toArray, List.set_cons_zero, List.set_cons_succ]
  refine wpAnyL_take (i := 15) (oi := { dst := some 54, op := _, type := _, pos := _, after := _, guard := _ }) (v := ?v16) rfl (by kernel_rfl) (by kernel_rfl) (by kernel_rfl) (by kernel_rfl) (fun _ _ _ h => h) (Or.inl ⟨by kernel_rfl, ?y16⟩) hHeld ?r16
  case y16 =>
    intro w hSw
    try dsimp only at hSw
    try simp only [List.getElem_toArray, List.getElem_cons_zero, List.getElem_cons_succ]
    go_simp
    try with_reducible rfl
  try simp only [List.getElem_toArray, List.getElem_cons_zero, List.getElem_cons_succ, Act.put, List.setIfInBounds_toArray, List.set_cons_zero, List.set_cons_succ]
  refine wpAnyL_take (i := 16) (oi := { dst := some 55, op := _, type := _, pos := _, after := _, guard := _ }) (v := ?v17) rfl (by kernel_rfl) (by kernel_rfl) (by kernel_rfl) (by kernel_rfl) (fun _ _ _ h => h) (Or.inl ⟨by kernel_rfl, ?y17⟩) hHeld ?r17
  case y17 =>
    intro w hSw
    try dsimp only at hSw
    try simp only [List.getElem_toArray, List.getElem_cons_zero, List.getElem_cons_succ]
    go_simp
    try with_reducible rfl
  try simp only [List.getElem_toArray, List.getElem_cons_zero, List.getElem_cons_succ, Act.put, List.setIfInBounds_toArray, List.set_cons_zero, List.set_cons_succ]
  refine wpAnyL_take (i := 17) (oi := { dst := some 56, op := _, type := _, pos := _, after := _, guard := _ }) (v := ?v18) rfl (by kernel_rfl) (by kernel_rfl) (by kernel_rfl) (by kernel_rfl) (fun _ _ _ h => h) (Or.inl ⟨by kernel_rfl, ?y18⟩) hHeld ?r18
  case y18 =>
    intro w hSw
    try dsimp only at hSw
    try simp only [List.getElem_toArray, List.getElem_cons_zero, List.getElem_cons_succ]
    go_simp
    try with_reducible rfl
  try simp only [List.getElem_toArray, List.getElem_cons_zero, List.getElem_cons_succ, Act.put, List.setIfInBounds_toArray, List.set_cons_zero, List.set_cons_succ]
  refine wpAnyL_take (i := 18) (oi := { dst := some 57, op := _, type := _, pos := _, after := _, guard := _ }) (v := ?v19) rfl (by kernel_rfl) (by kernel_rfl) (by kernel_rfl) (by kernel_rfl) (fun _ _ _ h => h) (Or.inl ⟨by kernel_rfl, ?y19⟩) hHeld ?r19
  case y19 =>
    intro w hSw
    try dsimp only at hSw
    try simp only [List.getElem_toArray, List.getElem_cons_zero, List.getElem_cons_succ]
    go_simp
    try with_reducible rfl
  try simp only [List.getElem_toArray, List.getElem_cons_zero, List.getElem_cons_succ, Act.put, List.setIfInBounds_toArray, List.set_cons_zero, List.set_cons_succ]
  refine wpAnyL_take (i := 19) (oi := { dst := some 58, op := _, type := _, pos := _, after := _, guard := _ }) (v := ?v20) rfl (by kernel_rfl) (by kernel_rfl) (by kernel_rfl) (by kernel_rfl) (fun _ _ _ h => h) (Or.inl ⟨by kernel_rfl, ?y20⟩) hHeld ?r20
  case y20 =>
    intro w hSw
    try dsimp only at hSw
    try simp only [List.getElem_toArray, List.getElem_cons_zero, List.getElem_cons_succ]
    go_simp
    try with_reducible rfl
  try simp only [List.getElem_toArray, List.getElem_cons_zero, List.getElem_cons_succ, Act.put, List.setIfInBounds_toArray, List.set_cons_zero, List.set_cons_succ]
  refine wpAnyL_take (i := 20) (oi := { dst := some 59, op := _, type := _, pos := _, after := _, guard := _ }) (v := ?v21) rfl (by kernel_rfl) (by kernel_rfl) (by kernel_rfl) (by kernel_rfl) (fun _ _ _ h => h) (Or.inl ⟨by kernel_rfl, ?y21⟩) hHeld ?r21
  case y21 =>
    intro w hSw
    try dsimp only at hSw
    try simp only [List.getElem_toArray, List.getElem_cons_zero, List.getElem_cons_succ]
    go_simp
    try with_reducible rfl
  try simp only [List.getElem_toArray, List.getElem_cons_zero, List.getElem_cons_succ, Act.put, List.setIfInBounds_toArray, List.set_cons_zero, List.set_cons_succ]
  refine wpAnyL_take (i := 21) (oi := { dst := some 60, op := _, type := _, pos := _, after := _, guard := _ }) (v := ?v22) rfl (by kernel_rfl) (by kernel_rfl) (by kernel_rfl) (by kernel_rfl) (fun _ _ _ h => h) (Or.inl ⟨by kernel_rfl, ?y22⟩) hHeld ?r22
  case y22 =>
    intro w hSw
    try dsimp only at hSw
    try simp only [List.getElem_toArray, List.getElem_cons_zero, List.getElem_cons_succ]
    go_simp
    try with_reducible rfl
  try simp only [List.getElem_toArray, List.getElem_cons_zero, List.getElem_cons_succ, Act.put, List.setIfInBounds_toArray, List.set_cons_zero, List.set_cons_succ]
  refine wpAnyL_take (i := 22) (oi := { dst := some 61, op := _, type := _, pos := _, after := _, guard := _ }) (v := ?v23) rfl (by kernel_rfl) (by kernel_rfl) (by kernel_rfl) (by kernel_rfl) (fun _ _ _ h => h) (Or.inl ⟨by kernel_rfl, ?y23⟩) hHeld ?r23
  case y23 =>
    intro w hSw
    try dsimp only at hSw
    try simp only [List.getElem_toArray, List.getElem_cons_zero, List.getElem_cons_succ]
    go_simp
    try with_reducible rfl
  try simp only [List.getElem_toArray, List.getElem_cons_zero, List.getElem_cons_succ, Act.put, List.setIfInBounds_toArray, List.set_cons_zero, List.set_cons_succ]
  refine wpAnyL_take (i := 23) (oi := { dst := some 62, op := _, type := _, pos := _, after := _, guard := _ }) (v := ?v24) rfl (by kernel_rfl) (by kernel_rfl) (by kernel_rfl) (by kernel_rfl) (fun _ _ _ h => h) (Or.inl ⟨by kernel_rfl, ?y24⟩) hHeld ?r24
  case y24 =>
    intro w hSw
    try dsimp only at hSw
    try simp only [List.getElem_toArray, List.getElem_cons_zero, List.getElem_cons_succ]
    go_simp
    try with_reducible rfl
  try simp only [List.getElem_toArray, List.getElem_cons_zero, List.getElem_cons_succ, Act.put, List.setIfInBounds_toArray, List.set_cons_zero, List.set_cons_succ]
  refine wpAnyL_take (i := 24) (oi := { dst := some 63, op := _, type := _, pos := _, after := _, guard := _ }) (v := ?v25) rfl (by kernel_rfl) (by kernel_rfl) (by kernel_rfl) (by kernel_rfl) (fun _ _ _ h => h) (Or.inl ⟨by kernel_rfl, ?y25⟩) hHeld ?r25
  case y25 =>
    intro w hSw
    try dsimp only at hSw
    try simp only [List.getElem_toArray, List.getElem_cons_zero, List.getElem_cons_succ]
    go_simp
    try with_reducible rfl
  try simp only [List.getElem_toArray, List.getElem_cons_zero, List.getElem_cons_succ, Act.put, List.setIfInBounds_toArray, List.set_cons_zero, List.set_cons_succ]
  refine wpAnyL_take (i := 25) (oi := { dst := some 64, op := _, type := _, pos := _, after := _, guard := _ }) (v := ?v26) rfl (by kernel_rfl) (by kernel_rfl) (by kernel_rfl) (by kernel_rfl) (fun _ _ _ h => h) (Or.inl ⟨by kernel_rfl, ?y26⟩) hHeld ?r26
  case y26 =>
    intro w hSw
    try dsimp only at hSw
    try simp only [List.getElem_toArray, List.getElem_cons_zero, List.getElem_cons_succ]
    go_simp
    try with_reducible rfl
  try simp only [List.getElem_toArray, List.getElem_cons_zero, List.getElem_cons_succ, Act.put, List.setIfInBounds_toArray, List.set_cons_zero, List.set_cons_succ]
  refine wpAnyL_take (i := 26) (oi := { dst := some 65, op := _, type := _, pos := _, after := _, guard := _ }) (v := ?v27) rfl (by kernel_rfl) (by kernel_rfl) (by kernel_rfl) (by kernel_rfl) (fun _ _ _ h => h) (Or.inl ⟨by kernel_rfl, ?y27⟩) hHeld ?r27
  case y27 =>
    intro w hSw
    try dsimp only at hSw
    try simp only [List.getElem_toArray, List.getElem_cons_zero, List.getElem_cons_succ]
    go_simp
    try with_reducible rfl
  try simp only [List.getElem_toArray, List.getElem_cons_zero, List.getElem_cons_succ, Act.put, List.setIfInBounds_toArray, List.set_cons_zero, List.set_cons_succ]
  refine wpAnyL_take (i := 27) (oi := { dst := some 66, op := _, type := _, pos := _, after := _, guard := _ }) (v := ?v28) rfl (by kernel_rfl) (by kernel_rfl) (by kernel_rfl) (by kernel_rfl) (fun _ _ _ h => h) (Or.inl ⟨by kernel_rfl, ?y28⟩) hHeld ?r28
  case y28 =>
    intro w hSw
    try dsimp only at hSw
    try simp only [List.getElem_toArray, List.getElem_cons_zero, List.getElem_cons_succ]
    go_simp
    try with_reducible rfl
  try simp only [List.getElem_toArray, List.getElem_cons_zero, List.getElem_cons_succ, Act.put, List.setIfInBounds_toArray, List.set_cons_zero, List.set_cons_succ]
  refine wpAnyL_take (i := 28) (oi := { dst := some 67, op := _, type := _, pos := _, after := _, guard := _ }) (v := ?v29) rfl (by kernel_rfl) (by kernel_rfl) (by kernel_rfl) (by kernel_rfl) (fun _ _ _ h => h) (Or.inl ⟨by kernel_rfl, ?y29⟩) hHeld ?r29
  case y29 =>
    intro w hSw
    try dsimp only at hSw
    try simp only [List.getElem_toArray, List.getElem_cons_zero, List.getElem_cons_succ]
    go_simp
    try with_reducible rfl
  try simp only [List.getElem_toArray, List.getElem_cons_zero, List.getElem_cons_succ, Act.put, List.setIfInBounds_toArray, List.set_cons_zero, List.set_cons_succ]
  refine wpAnyL_take (i := 29) (oi := { dst := some 68, op := _, type := _, pos := _, after := _, guard := _ }) (v := ?v30) rfl (by kernel_rfl) (by kernel_rfl) (by kernel_rfl) (by kernel_rfl) (fun _ _ _ h => h) (Or.inl ⟨by kernel_rfl, ?y30⟩) hHeld ?r30
  case y30 =>
    intro w hSw
    try dsimp only at hSw
    try simp only [List.getElem_toArray, List.getElem_cons_zero, List.getElem_cons_succ]
    go_simp
    try with_reducible rfl
  try simp only [List.getElem_toArray, List.getElem_cons_zero, List.getElem_cons_succ, Act.put, List.setIfInBounds_toArray, List.set_cons_zero, List.set_cons_succ]
  refine wpAnyL_take (i := 30) (oi := { dst := some 69, op := _, type := _, pos := _, after := _, guard := _ }) (v := ?v31) rfl (by kernel_rfl) (by kernel_rfl) (by kernel_rfl) (by kernel_rfl) (fun _ _ _ h => h) (Or.inl ⟨by kernel_rfl, ?y31⟩) hHeld ?r31
  case y31 =>
    intro w hSw
    try dsimp only at hSw
    try simp only [List.getElem_toArray, List.getElem_cons_zero, List.getElem_cons_succ]
    go_simp
    try with_reducible rfl
  try simp only [List.getElem_toArray, List.getElem_cons_zero, List.getElem_cons_succ, Act.put, List.setIfInBounds_toArray, List.set_cons_zero, List.set_cons_succ]
  refine wpAnyL_take (i := 31) (oi := { dst := some 70, op := _, type := _, pos := _, after := _, guard := _ }) (v := ?v32) rfl (by kernel_rfl) (by kernel_rfl) (by kernel_rfl) (by kernel_rfl) (fun _ _ _ h => h) (Or.inl ⟨by kernel_rfl, ?y32⟩) hHeld ?r32
  case y32 =>
    intro w hSw
    try dsimp only at hSw
    try simp only [List.getElem_toArray, List.getElem_cons_zero, List.getElem_cons_succ]
    go_simp
    try with_reducible rfl
  try simp only [List.getElem_toArray, List.getElem_cons_zero, List.getElem_cons_succ, Act.put, List.setIfInBounds_toArray, List.set_cons_zero, List.set_cons_succ]
  refine wpAnyL_take (i := 32) (oi := { dst := some 71, op := _, type := _, pos := _, after := _, guard := _ }) (v := ?v33) rfl (by kernel_rfl) (by kernel_rfl) (by kernel_rfl) (by kernel_rfl) (fun _ _ _ h => h) (Or.inl ⟨by kernel_rfl, ?y33⟩) hHeld ?r33
  case y33 =>
    intro w hSw
    try dsimp only at hSw
    try simp only [List.getElem_toArray, List.getElem_cons_zero, List.getElem_cons_succ]
    go_simp
    try with_reducible rfl
  try simp only [List.getElem_toArray, List.getElem_cons_zero, List.getElem_cons_succ, Act.put, List.setIfInBounds_toArray, List.set_cons_zero, List.set_cons_succ]
  refine wpAnyL_take (i := 33) (oi := { dst := some 72, op := _, type := _, pos := _, after := _, guard := _ }) (v := ?v34) rfl (by kernel_rfl) (by kernel_rfl) (by kernel_rfl) (by kernel_rfl) (fun _ _ _ h => h) (Or.inl ⟨by kernel_rfl, ?y34⟩) hHeld ?r34
  case y34 =>
    intro w hSw
    try dsimp only at hSw
    try simp only [List.getElem_toArray, List.getElem_cons_zero, List.getElem_cons_succ]
    go_simp
    try with_reducible rfl
  try simp only [List.getElem_toArray, List.getElem_cons_zero, List.getElem_cons_succ, Act.put, List.setIfInBounds_toArray, List.set_cons_zero, List.set_cons_succ]
  refine wpAnyL_take (i := 34) (oi := { dst := some 73, op := _, type := _, pos := _, after := _, guard := _ }) (v := ?v35) rfl (by kernel_rfl) (by kernel_rfl) (by kernel_rfl) (by kernel_rfl) (fun _ _ _ h => h) (Or.inl ⟨by kernel_rfl, ?y35⟩) hHeld ?r35
  case y35 =>
    intro w hSw
    try dsimp only at hSw
    try simp only [List.getElem_toArray, List.getElem_cons_zero, List.getElem_cons_succ]
    go_simp
    try with_reducible rfl
  try simp only [List.getElem_toArray, List.getElem_cons_zero, List.getElem_cons_succ, Act.put, List.setIfInBounds_toArray, List.set_cons_zero, List.set_cons_succ]
  refine wpAnyL_one (i := 35) (by kernel_rfl) rfl (fun K hK => ?_)
  try simp only [List.getElem_toArray, List.getElem_cons_zero, List.getElem_cons_succ]
  go_simp
  go_at_call 38
  refine (kOf.out _).mono ?_
  rintro e Wn35 ⟨rfl, hbn⟩
  have hnew := Lib.hid (keep6 hbn hHeld)
  refine hK.out _ _ (fun _ => hnew.out) ?_
  have hHeld' := hnew.out
  clear hHeld hnew hK K hbn
  have hHeld := hHeld'
  clear hHeld'
  try simp only [List.getElem_toArray, List.getElem_cons_zero, List.getElem_cons_succ, Act.put, List.setIfInBounds_toArray, List.set_cons_zero, List.set_cons_succ]
  refine wpAnyL_take (i := 36) (oi := { dst := some 75, op := _, type := _, pos := _, after := _, guard := _ }) (v := ?v36) rfl (by kernel_rfl) (by kernel_rfl) (by kernel_rfl) (by kernel_rfl) (fun _ _ _ h => h) (Or.inl ⟨by kernel_rfl, ?y36⟩) hHeld ?r36
  case y36 =>
    intro w hSw
    try dsimp only at hSw
    try simp only [List.getElem_toArray, List.getElem_cons_zero, List.getElem_cons_succ]
    go_simp
    try with_reducible rfl
  try simp only [List.getElem_toArray, List.getElem_cons_zero, List.getElem_cons_succ, Act.put, List.setIfInBounds_toArray, List.set_cons_zero, List.set_cons_succ]
  refine wpAnyL_take (i := 37) (oi := { dst := some 76, op := _, type := _, pos := _, after := _, guard := _ }) (v := ?v37) rfl (by kernel_rfl) (by kernel_rfl) (by kernel_rfl) (by kernel_rfl) (fun _ _ _ h => h) (Or.inl ⟨by kernel_rfl, ?y37⟩) hHeld ?r37
  case y37 =>
    intro w hSw
    try dsimp only at hSw
    try simp only [List.getElem_toArray, List.getElem_cons_zero, List.getElem_cons_succ]
    go_simp
    try with_reducible rfl
  try simp only [List.getElem_toArray, List.getElem_cons_zero, List.getElem_cons_succ, Act.put, List.setIfInBounds_toArray, List.set_cons_zero, List.set_cons_succ]
  refine wpAnyL_take (i := 38) (oi := { dst := some 77, op := _, type := _, pos := _, after := _, guard := _ }) (v := ?v38) rfl (by kernel_rfl) (by kernel_rfl) (by kernel_rfl) (by kernel_rfl) (fun _ _ _ h => h) (Or.inl ⟨by kernel_rfl, ?y38⟩) hHeld ?r38
  case y38 =>
    intro w hSw
    try dsimp only at hSw
    try simp only [List.getElem_toArray, List.getElem_cons_zero, List.getElem_cons_succ]
    go_simp
    try with_reducible rfl
  try simp only [List.getElem_toArray, List.getElem_cons_zero, List.getElem_cons_succ, Act.put, List.setIfInBounds_toArray, List.set_cons_zero, List.set_cons_succ]
  refine wpAnyL_take (i := 39) (oi := { dst := some 78, op := _, type := _, pos := _, after := _, guard := _ }) (v := ?v39) rfl (by kernel_rfl) (by kernel_rfl) (by kernel_rfl) (by kernel_rfl) (fun _ _ _ h => h) (Or.inl ⟨by kernel_rfl, ?y39⟩) hHeld ?r39
  case y39 =>
    intro w hSw
    try dsimp only at hSw
    try simp only [List.getElem_toArray, List.getElem_cons_zero, List.getElem_cons_succ]
    go_simp
    try with_reducible rfl
  try simp only [List.getElem_toArray, List.getElem_cons_zero, List.getElem_cons_succ, Act.put, List.setIfInBounds_toArray, List.set_cons_zero, List.set_cons_succ]
  refine wpAnyL_take (i := 40) (oi := { dst := some 79, op := _, type := _, pos := _, after := _, guard := _ }) (v := ?v40) rfl (by kernel_rfl) (by kernel_rfl) (by kernel_rfl) (by kernel_rfl) (fun _ _ _ h => h) (Or.inl ⟨by kernel_rfl, ?y40⟩) hHeld ?r40
  case y40 =>
    intro w hSw
    try dsimp only at hSw
    try simp only [List.getElem_toArray, List.getElem_cons_zero, List.getElem_cons_succ]
    go_simp
    try with_reducible rfl
  try simp only [List.getElem_toArray, List.getElem_cons_zero, List.getElem_cons_succ, Act.put, List.setIfInBounds_toArray, List.set_cons_zero, List.set_cons_succ]
  refine wpAnyL_take (i := 41) (oi := { dst := some 80, op := _, type := _, pos := _, after := _, guard := _ }) (v := ?v41) rfl (by kernel_rfl) (by kernel_rfl) (by kernel_rfl) (by kernel_rfl) (fun _ _ _ h => h) (Or.inl ⟨by kernel_rfl, ?y41⟩) hHeld ?r41
  case y41 =>
    intro w hSw
    try dsimp only at hSw
    try simp only [List.getElem_toArray, List.getElem_cons_zero, List.getElem_cons_succ]
    go_simp
    try with_reducible rfl
  try simp only [List.getElem_toArray, List.getElem_cons_zero, List.getElem_cons_succ, Act.put, List.setIfInBounds_toArray, List.set_cons_zero, List.set_cons_succ]
  refine wpAnyL_take (i := 42) (oi := { dst := some 0, op := _, type := _, pos := _, after := _, guard := _ }) (v := ?v42) rfl (by kernel_rfl) (by kernel_rfl) (by kernel_rfl) (by kernel_rfl) (fun _ _ _ h => h) (Or.inl ⟨by kernel_rfl, ?y42⟩) hHeld ?r42
  case y42 =>
    intro w hSw
    try dsimp only at hSw
    try simp only [List.getElem_toArray, List.getElem_cons_zero, List.getElem_cons_succ]
    go_simp
    try with_reducible rfl
  try simp only [List.getElem_toArray, List.getElem_cons_zero, List.getElem_cons_succ, Act.put, List.setIfInBounds_toArray, List.set_cons_zero, List.set_cons_succ]
  refine wpAnyL_done (by kernel_rfl) (OnlyN.normal ?_) _
  go_wp2
  exact bodyPost_ret (v := .bool true) (by simp [results, Tryd.results10, go_sem]) rfl ⟨rfl, hB5'.out.trans (hHeld.1.out.mono hB5'.out.size)⟩
end Go.Proofs.YtnigpmbpipmgfaaDoor
