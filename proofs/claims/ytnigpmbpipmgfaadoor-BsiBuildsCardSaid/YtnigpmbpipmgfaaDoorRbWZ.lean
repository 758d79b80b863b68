/-
  RbW, RbZ: several texts in one (merge.py).
-/
import Derived.Test.YtnigpmbpipmgfaaDoorRb2
import Derived.Test.YtnigpmbpipmgfaaDoorRbY
import Derived.Test.YtnigpmbpipmgfaaDoorBsX

/-
  BsiBuilds' walk. (Printed by genrbw.py.)
-/
namespace Go.Proofs.YtnigpmbpipmgfaaDoor
open Go.RowKit Go.Shelf Tess

theorem keep13 {W W1 W2 : World} {a1 a2 a3 a4 a5 a6 a7 a8 a9 a10 a11 a12 : Addr} {x1 x2 x3 x4 x5 x6 x7 x8 x9 x10 x11 x12 : Value} (hb : Below W1.heap.size W1 W2) (h : Hid (Below W.heap.size W W1) ∧ W1.cell? a1 = some x1 ∧ W1.cell? a2 = some x2 ∧ W1.cell? a3 = some x3 ∧ W1.cell? a4 = some x4 ∧ W1.cell? a5 = some x5 ∧ W1.cell? a6 = some x6 ∧ W1.cell? a7 = some x7 ∧ W1.cell? a8 = some x8 ∧ W1.cell? a9 = some x9 ∧ W1.cell? a10 = some x10 ∧ W1.cell? a11 = some x11 ∧ W1.cell? a12 = some x12) :
    Hid (Below W.heap.size W W2) ∧ W2.cell? a1 = some x1 ∧ W2.cell? a2 = some x2 ∧ W2.cell? a3 = some x3 ∧ W2.cell? a4 = some x4 ∧ W2.cell? a5 = some x5 ∧ W2.cell? a6 = some x6 ∧ W2.cell? a7 = some x7 ∧ W2.cell? a8 = some x8 ∧ W2.cell? a9 = some x9 ∧ W2.cell? a10 = some x10 ∧ W2.cell? a11 = some x11 ∧ W2.cell? a12 = some x12 := by
  have d {a : Addr} {x : Value} (k : W1.cell? a = some x) : W2.cell? a = some x := (hb.cell (World.block_lt_of_cell? W1 a k)).trans k
  obtain ⟨h0, h1, h2, h3, h4, h5, h6, h7, h8, h9, h10, h11, h12⟩ := h
  exact ⟨Lib.hid (h0.out.trans (hb.mono h0.out.size)), d h1, d h2, d h3, d h4, d h5, d h6, d h7, d h8, d h9, d h10, d h11, d h12⟩

set_option linter.unusedSimpArgs false in
set_option maxRecDepth 100000 in
set_option maxHeartbeats 4000000 in
theorem builds_walk {p ph : Option Addr} {n c nh ch m q0 : Nat} {row er g1 : Int} {g2 rt : Bool} {vE0 vB0 : Value} {b s bb : Sl} {w : World} (hp : n ≤ c) (hh : nh ≤ ch) (p0 : p = none → n = 0 ∧ c = 0) (h0 : ph = none → nh = 0 ∧ ch = 0) (hm : min n 200 = m) (hq : min nh 200 = q0)
    (hE0 : HC w vE0 b.ex) (hB0 : HR w vB0 b.bits)
    (kS : Hid (∀ W : World, Below w.heap.size w W → Calls Tryd.prog 10 #[] W fun e W' => e = .returned (.bool true) ∧ Below W.heap.size W W'))
    (kU : Hid (∀ (vE vB : Value) (W : World), Below w.heap.size w W → HC W vE b.ex → HR W vB b.bits → Calls Tryd.prog 19 #[.agg #[.int .i64 b.n, .int .i64 b.least, vE, vB]] W fun e W' => ∃ vE' vB', e = .returned (.agg #[.int .i64 s.n, .int .i64 s.least, vE', vB']) ∧ HC W' vE' s.ex ∧ (∃ base, W.heap.size ≤ base ∧ RowR W' base vB' s.bits) ∧ Below W.heap.size W W'))
    (kB : Hid (∀ W : World, Below w.heap.size w W → Calls Tryd.prog 11 #[.slice p m c, .slice ph q0 ch] W fun e W' => ∃ vE vB, e = .returned (.tuple #[.agg #[.int .i64 bb.n, .int .i64 bb.least, vE, vB], .int .i64 er]) ∧ HC W' vE bb.ex ∧ HR W' vB bb.bits ∧ Below W.heap.size W W'))
    (kR : Hid (∀ W : World, Below w.heap.size w W → Calls Tryd.prog 20 #[.slice p m c, .slice ph q0 ch] W fun e W' => ∃ vE vB, e = .returned (.tuple #[.agg #[.int .i64 bb.n, .int .i64 bb.least, vE, vB], .int .i64 er]) ∧ HC W' vE bb.ex ∧ HR W' vB bb.bits ∧ Below W.heap.size W W'))
    (kG : Hid (∀ (vE vB : Value) (W : World), Below w.heap.size w W → HC W vE s.ex → HR W vB s.bits → Calls Tryd.prog 21 #[.agg #[.int .i64 s.n, .int .i64 s.least, vE, vB], .int .i64 row] W fun e W' => e = .returned (.tuple #[.int .i64 g1, .bool g2]) ∧ Below W.heap.size W W'))
    (kH : Hid (∀ (vE vB : Value) (W : World), Below w.heap.size w W → HC W vE s.ex → HR W vB s.bits → Calls Tryd.prog 22 #[.agg #[.int .i64 s.n, .int .i64 s.least, vE, vB], .int .i64 row] W fun e W' => e = .returned (.tuple #[.int .i64 g1, .bool g2]) ∧ Below W.heap.size W W'))
    (kI : Hid (∀ (vE vB : Value) (W : World), Below w.heap.size w W → HC W vE s.ex → HR W vB s.bits → Calls Tryd.prog 24 #[.agg #[.int .i64 s.n, .int .i64 s.least, vE, vB]] W fun e W' => e = .returned (.bool rt) ∧ Below W.heap.size W W'))
    (kJ : Hid (∀ (vE vB : Value) (W : World), Below w.heap.size w W → HC W vE s.ex → HR W vB s.bits → Calls Tryd.prog 25 #[.agg #[.int .i64 s.n, .int .i64 s.least, vE, vB]] W fun e W' => e = .returned (.bool rt) ∧ Below W.heap.size W W'))
    (kM : Hid (∀ (v1 v2 v3 v4 : Value) (W : World), HC W v1 bb.ex → HR W v2 bb.bits → HC W v3 bb.ex → HR W v4 bb.bits → Calls Tryd.prog 23 #[.agg #[.int .i64 bb.n, .int .i64 bb.least, v1, v2], .agg #[.int .i64 bb.n, .int .i64 bb.least, v3, v4]] W fun e W' => e = .returned (.bool true) ∧ Below W.heap.size W W')) :
    Calls Tryd.prog 4 #[.slice p n c, .slice ph nh ch, .agg #[.int .i64 b.n, .int .i64 b.least, vE0, vB0], .int .i64 row] w fun e W' => e = .returned (.bool true) ∧ Below w.heap.size w W' := by
  have kf0 := Lib.hid (fun W => few8_any W hp hh p0 h0)
  rw [hm, hq] at kf0
  clear hm hq p0 h0
  obtain ⟨pE0, cE0, rfl, -, -⟩ := Hid.out hE0
  obtain ⟨pB0, cB0, rfl, -, -⟩ := Hid.out hB0
  have q := Lib.hid (SBox.new w 31 b.n b.least (.slice pE0 b.ex.length cE0) (.slice pB0 b.bits.length cB0))
  have hA0 := (Below.refl w.heap.size w).alloc (Nat.le_refl _) (.cells #[.int .i64 b.n, .int .i64 b.least, .slice pE0 b.ex.length cE0, .slice pB0 b.bits.length cB0] 31)
  have hB := Lib.hid hA0
  have hF := hE0.later hA0
  have hG := hB0.later hA0
  have hW0 : w.heap.size < (w.alloc (.cells #[.int .i64 b.n, .int .i64 b.least, .slice pE0 b.ex.length cE0, .slice pB0 b.bits.length cB0] 31)).heap.size := by rw [World.size_alloc]; omega
  have hW := Lib.hid hW0
  have k0 := Lib.hid (kS.out _ hB.out)
  clear hE0 hB0 hA0 hW0
  go_enter Tryd.func4, Tryd.ntmps4
  go_wp2_with (first
    | (go_at_call 10; refine (k0.out).mono ?_; rintro e W1 ⟨rfl, hb⟩; clear k0; have hbX := hb; clear hb; replace hB := Lib.hid (hB.out.trans (hbX.mono hB.out.size)); replace q := Lib.hid (q.out.later hbX); replace hF := hF.later hbX; replace hG := hG.later hbX; clear hbX; have k1 := Lib.hid (kf0.out W1))
    | (go_at_call 12; refine (k1.out).mono ?_; rintro e W2 ⟨rfl, hb⟩; clear k1; have hbX := hb; clear hb; replace hB := Lib.hid (hB.out.trans (hbX.mono hB.out.size)); replace q := Lib.hid (q.out.later hbX); replace hF := hF.later hbX; replace hG := hG.later hbX; clear hbX; have c0 := q.out.c0; have c1 := q.out.c1; have c2 := q.out.c2; have c3 := q.out.c3; have f0 := q.out.frozen 0; have f1 := q.out.frozen 1; have f2 := q.out.frozen 2; have f3 := q.out.frozen 3; have k2 := Lib.hid (kU.out _ _ _ hB.out hF hG))
    | (go_at_call 19; refine (k2.out).mono ?_; rintro e W3 ⟨vE, vR, rfl, hE, ⟨base, hbase, hR⟩, hb⟩; obtain ⟨pE, cE, rfl, -, -⟩ := Hid.out hE; obtain ⟨pR, cR, rfl⟩ := hR.slice; clear k2 c0 c1 c2 c3 f0 f1 f2 f3 hF hG; have q3 := q.out.later hb; have f0 := q3.frozen 0; have f1 := q3.frozen 1; have f2 := q3.frozen 2; have f3 := q3.frozen 3; have c0 := q3.c0; have c1 := q3.c1; have c2 := q3.c2; have c3 := q3.c3; have hbb : w.heap.size < base := Nat.lt_of_lt_of_le q.out.lt hbase; replace hB := Lib.hid (((((hB.out.trans (hb.mono hB.out.size)).setCell (p := ⟨w.heap.size, 0, none⟩) (Nat.le_refl _) (.int .i64 s.n)).setCell (p := ⟨w.heap.size, 1, none⟩) (Nat.le_refl _) (.int .i64 s.least)).setCell (p := ⟨w.heap.size, 2, none⟩) (Nat.le_refl _) (.slice pE s.ex.length cE)).setCell (p := ⟨w.heap.size, 3, none⟩) (Nat.le_refl _) (.slice pR s.bits.length cR)); have hE3 := hE.set4 q3 ⟨_, _, _, rfl⟩ ⟨_, _, _, rfl⟩ s.n s.least ⟨pE, s.ex.length, cE, rfl⟩ (.slice pR s.bits.length cR); have hR3 := (row_set4 hR q3 ⟨_, _, _, rfl⟩ ⟨_, _, _, rfl⟩ hbb s.n s.least ⟨pE, s.ex.length, cE, rfl⟩ (.slice pR s.bits.length cR)).hr; replace q := Lib.hid (q3.set4 s.n s.least (.slice pE s.ex.length cE) (.slice pR s.bits.length cR)); clear hE hR hb hbb hbase q3; have k3 := Lib.hid (kB.out _ hB.out))
    | (go_at_call 11; refine (k3.out).mono ?_; rintro e W4 ⟨vE, vR, rfl, hE4, hR4, hb⟩; clear k3 c0 c1 c2 c3 f0 f1 f2 f3; obtain ⟨pE4, cE4, rfl, -, -⟩ := Hid.out hE4; obtain ⟨pR4, cR4, rfl, -, -⟩ := Hid.out hR4; have hA := (Below.refl _ W4).alloc (Nat.le_refl _) (.cells #[.int .i64 bb.n, .int .i64 bb.least, .slice pE4 bb.ex.length cE4, .slice pR4 bb.bits.length cR4] 31); have hbX := hb.trans (hA.mono hb.size); replace hB := Lib.hid (hB.out.trans (hbX.mono hB.out.size)); replace q := Lib.hid (q.out.later hbX); replace hE3 := hE3.later hbX; replace hR3 := hR3.later hbX; have q4 := Lib.hid (SBox.new W4 31 bb.n bb.least (.slice pE4 bb.ex.length cE4) (.slice pR4 bb.bits.length cR4)); replace hE4 := hE4.later hA; replace hR4 := hR4.later hA; clear hA hbX hb; have k4 := Lib.hid (kR.out _ hB.out))
    | (go_at_call 20; refine (k4.out).mono ?_; rintro e W5 ⟨vE, vR, rfl, hE5, hR5, hb⟩; clear k4; obtain ⟨pE5, cE5, rfl, -, -⟩ := Hid.out hE5; obtain ⟨pR5, cR5, rfl, -, -⟩ := Hid.out hR5; have hA := (Below.refl _ W5).alloc (Nat.le_refl _) (.cells #[.int .i64 bb.n, .int .i64 bb.least, .slice pE5 bb.ex.length cE5, .slice pR5 bb.bits.length cR5] 31); have hbX := hb.trans (hA.mono hb.size); replace hB := Lib.hid (hB.out.trans (hbX.mono hB.out.size)); replace q := Lib.hid (q.out.later hbX); replace hE3 := hE3.later hbX; replace hR3 := hR3.later hbX; replace q4 := Lib.hid (q4.out.later hbX); replace hE4 := hE4.later hbX; replace hR4 := hR4.later hbX; have q5 := Lib.hid (SBox.new W5 31 bb.n bb.least (.slice pE5 bb.ex.length cE5) (.slice pR5 bb.bits.length cR5)); replace hE5 := hE5.later hA; replace hR5 := hR5.later hA; clear hA hbX hb; have c0 := q.out.c0; have c1 := q.out.c1; have c2 := q.out.c2; have c3 := q.out.c3; have k5 := Lib.hid (kG.out _ _ _ hB.out hE3 hR3))
    | (go_at_call 21; refine (k5.out).mono ?_; rintro e W6 ⟨rfl, hb⟩; clear k5 c0 c1 c2 c3; have hbX := hb; clear hb; replace hB := Lib.hid (hB.out.trans (hbX.mono hB.out.size)); replace q := Lib.hid (q.out.later hbX); replace hE3 := hE3.later hbX; replace hR3 := hR3.later hbX; replace q4 := Lib.hid (q4.out.later hbX); replace hE4 := hE4.later hbX; replace hR4 := hR4.later hbX; replace q5 := Lib.hid (q5.out.later hbX); replace hE5 := hE5.later hbX; replace hR5 := hR5.later hbX; clear hbX; have c0 := q.out.c0; have c1 := q.out.c1; have c2 := q.out.c2; have c3 := q.out.c3; have k6 := Lib.hid (kH.out _ _ _ hB.out hE3 hR3))
    | (go_at_call 22; refine (k6.out).mono ?_; rintro e W7 ⟨rfl, hb⟩; clear k6 c0 c1 c2 c3; have hbX := hb; clear hb; replace hB := Lib.hid (hB.out.trans (hbX.mono hB.out.size)); replace q := Lib.hid (q.out.later hbX); replace hE3 := hE3.later hbX; replace hR3 := hR3.later hbX; replace q4 := Lib.hid (q4.out.later hbX); replace hE4 := hE4.later hbX; replace hR4 := hR4.later hbX; replace q5 := Lib.hid (q5.out.later hbX); replace hE5 := hE5.later hbX; replace hR5 := hR5.later hbX; clear hbX))
  have hBf := hB.out
  have m0 := Lib.hid (fun (W : World) (h : Below W7.heap.size W7 W) => kM.out _ _ _ _ W (hE4.later h) (hR4.later h) (hE5.later h) (hR5.later h))
  have m1 := Lib.hid (fun (W : World) (h : Below W7.heap.size W7 W) => kI.out _ _ W (hBf.trans (h.mono hBf.size)) (hE3.later h) (hR3.later h))
  have m2 := Lib.hid (fun (W : World) (h : Below W7.heap.size W7 W) => kJ.out _ _ W (hBf.trans (h.mono hBf.size)) (hE3.later h) (hR3.later h))
  have z4 := q4.out
  have z5 := q5.out
  have z3 := q.out
  clear hBf hE4 hR4 hE5 hR5 hE3 hR3 q4 q5 q kS kU kB kR kG kH kI kJ kM kf0 hW
  obtain ⟨b3, hb3⟩ : ∃ x, w.heap.size = x := ⟨_, rfl⟩
  rw [hb3] at z3
  try rw [hb3]
  generalize W4.heap.size = b4 at *
  generalize W5.heap.size = b5 at *
  have hMd : (fun W' : World => Hid (Below W7.heap.size W7 W') ∧ W'.cell? ⟨b4, 0, none⟩ = some (.int .i64 bb.n) ∧ W'.cell? ⟨b4, 1, none⟩ = some (.int .i64 bb.least) ∧ W'.cell? ⟨b4, 2, none⟩ = some (.slice pE4 bb.ex.length cE4) ∧ W'.cell? ⟨b4, 3, none⟩ = some (.slice pR4 bb.bits.length cR4) ∧ W'.cell? ⟨b5, 0, none⟩ = some (.int .i64 bb.n) ∧ W'.cell? ⟨b5, 1, none⟩ = some (.int .i64 bb.least) ∧ W'.cell? ⟨b5, 2, none⟩ = some (.slice pE5 bb.ex.length cE5) ∧ W'.cell? ⟨b5, 3, none⟩ = some (.slice pR5 bb.bits.length cR5) ∧ W'.cell? ⟨b3, 0, none⟩ = some (.int .i64 s.n) ∧ W'.cell? ⟨b3, 1, none⟩ = some (.int .i64 s.least) ∧ W'.cell? ⟨b3, 2, none⟩ = some (.slice pE s.ex.length cE) ∧ W'.cell? ⟨b3, 3, none⟩ = some (.slice pR s.bits.length cR)) W7.drew := ⟨Lib.hid (Below.refl _ W7).drew, z4.c0, z4.c1, z4.c2, z4.c3, z5.c0, z5.c1, z5.c2, z5.c3, z3.c0, z3.c1, z3.c2, z3.c3⟩
  clear z3 z4 z5
  refine region_late (S := (fun W' : World => Hid (Below W7.heap.size W7 W') ∧ W'.cell? ⟨b4, 0, none⟩ = some (.int .i64 bb.n) ∧ W'.cell? ⟨b4, 1, none⟩ = some (.int .i64 bb.least) ∧ W'.cell? ⟨b4, 2, none⟩ = some (.slice pE4 bb.ex.length cE4) ∧ W'.cell? ⟨b4, 3, none⟩ = some (.slice pR4 bb.bits.length cR4) ∧ W'.cell? ⟨b5, 0, none⟩ = some (.int .i64 bb.n) ∧ W'.cell? ⟨b5, 1, none⟩ = some (.int .i64 bb.least) ∧ W'.cell? ⟨b5, 2, none⟩ = some (.slice pE5 bb.ex.length cE5) ∧ W'.cell? ⟨b5, 3, none⟩ = some (.slice pR5 bb.bits.length cR5) ∧ W'.cell? ⟨b3, 0, none⟩ = some (.int .i64 s.n) ∧ W'.cell? ⟨b3, 1, none⟩ = some (.int .i64 s.least) ∧ W'.cell? ⟨b3, 2, none⟩ = some (.slice pE s.ex.length cE) ∧ W'.cell? ⟨b3, 3, none⟩ = some (.slice pR s.bits.length cR))) (fun n => n == 999) (by kernel_rfl) hMd (fun hHeld => ?_)
  clear hMd
  generalize World.drew W7 = Wd at *
  refine wpAnyL_take (i := 0) (oi := { dst := some 51, op := _, type := _, pos := _, after := _, guard := _ }) (v := ?v1) rfl (by kernel_rfl) (by kernel_rfl) (by kernel_rfl) (by kernel_rfl) (fun _ _ _ h => h) (Or.inl ⟨by kernel_rfl, ?y1⟩) hHeld ?r1
  case y1 =>
    intro w hSw
    try dsimp only at hSw
    try simp only [List.getElem_toArray, List.getElem_cons_zero, List.getElem_cons_succ]
    go_simp
    try with_reducible rfl
  try simp only [List.getElem_toArray, List.getElem_cons_zero, List.getElem_cons_succ, Act.put, List.setIfInBounds_toArray, List.set_cons_zero, List.set_cons_succ]
  refine wpAnyL_take (i := 1) (oi := { dst := some 52, op := _, type := _, pos := _, after := _, guard := _ }) (v := ?v2) rfl (by kernel_rfl) (by kernel_rfl) (by kernel_rfl) (by kernel_rfl) (fun _ _ _ h => h) (Or.inl ⟨by kernel_rfl, ?y2⟩) hHeld ?r2
  case y2 =>
    intro w hSw
    try dsimp only at hSw
    try simp only [List.getElem_toArray, List.getElem_cons_zero, List.getElem_cons_succ]
    go_simp
    try with_reducible rfl
  try simp only [List.getElem_toArray, List.getElem_cons_zero, List.getElem_cons_succ, Act.put, List.setIfInBounds_toArray, List.set_cons_zero, List.set_cons_succ]
  refine wpAnyL_take (i := 2) (oi := { dst := some 53, op := _, type := _, pos := _, after := _, guard := _ }) (v := ?v3) rfl (by kernel_rfl) (by kernel_rfl) (by kernel_rfl) (by kernel_rfl) (fun _ _ _ h => h) (Or.inl ⟨by kernel_rfl, ?y3⟩) hHeld ?r3
  case y3 =>
    intro w hSw
    try dsimp only at hSw
    try simp only [List.getElem_toArray, List.getElem_cons_zero, List.getElem_cons_succ]
    go_simp
    try with_reducible rfl
  try simp only [List.getElem_toArray, List.getElem_cons_zero, List.getElem_cons_succ, Act.put, List.setIfInBounds_toArray, List.set_cons_zero, List.set_cons_succ]
  refine wpAnyL_take (i := 3) (oi := { dst := some 54, op := _, type := _, pos := _, after := _, guard := _ }) (v := ?v4) rfl (by kernel_rfl) (by kernel_rfl) (by kernel_rfl) (by kernel_rfl) (fun _ _ _ h => h) (Or.inl ⟨by kernel_rfl, ?y4⟩) hHeld ?r4
  case y4 =>
    intro w hSw
    try dsimp only at hSw
    try simp only [List.getElem_toArray, List.getElem_cons_zero, List.getElem_cons_succ]
    go_simp
    try with_reducible rfl
  try simp only [List.getElem_toArray, List.getElem_cons_zero, List.getElem_cons_succ, Act.put, List.setIfInBounds_toArray, List.set_cons_zero, List.set_cons_succ]
  refine wpAnyL_one (i := 4) (by kernel_rfl) rfl (fun K hK => ?_)
  try simp only [List.getElem_toArray, List.getElem_cons_zero, List.getElem_cons_succ]
  go_simp
  go_at_call 23
  refine (m0.out _ hHeld.1.out).mono ?_
  rintro e Wn4 ⟨rfl, hbn⟩
  have hnew := Lib.hid (keep13 hbn hHeld)
  refine hK.out _ _ (fun _ => hnew.out) ?_
  have hHeld' := hnew.out
  clear hHeld hnew hK K hbn
  have hHeld := hHeld'
  clear hHeld'
  try simp only [List.getElem_toArray, List.getElem_cons_zero, List.getElem_cons_succ, Act.put, List.setIfInBounds_toArray, List.set_cons_zero, List.set_cons_succ]
  refine wpAnyL_take (i := 5) (oi := { dst := some 56, op := _, type := _, pos := _, after := _, guard := _ }) (v := ?v5) rfl (by kernel_rfl) (by kernel_rfl) (by kernel_rfl) (by kernel_rfl) (fun _ _ _ h => h) (Or.inl ⟨by kernel_rfl, ?y5⟩) hHeld ?r5
  case y5 =>
    intro w hSw
    try dsimp only at hSw
    try simp only [List.getElem_toArray, List.getElem_cons_zero, List.getElem_cons_succ]
    go_simp
    try with_reducible rfl
  try simp only [List.getElem_toArray, List.getElem_cons_zero, List.getElem_cons_succ, Act.put, List.setIfInBounds_toArray, List.set_cons_zero, List.set_cons_succ]
  refine wpAnyL_take (i := 6) (oi := { dst := some 57, op := _, type := _, pos := _, after := _, guard := _ }) (v := ?v6) rfl (by kernel_rfl) (by kernel_rfl) (by kernel_rfl) (by kernel_rfl) (fun _ _ _ h => h) (Or.inl ⟨by kernel_rfl, ?y6⟩) hHeld ?r6
  case y6 =>
    intro w hSw
    try dsimp only at hSw
    try simp only [List.getElem_toArray, List.getElem_cons_zero, List.getElem_cons_succ]
    go_simp
    try with_reducible rfl
  try simp only [List.getElem_toArray, List.getElem_cons_zero, List.getElem_cons_succ, Act.put, List.setIfInBounds_toArray, List.set_cons_zero, List.set_cons_succ]
  refine wpAnyL_take (i := 7) (oi := { dst := some 58, op := _, type := _, pos := _, after := _, guard := _ }) (v := ?v7) rfl (by kernel_rfl) (by kernel_rfl) (by kernel_rfl) (by kernel_rfl) (fun _ _ _ h => h) (Or.inl ⟨by kernel_rfl, ?y7⟩) hHeld ?r7
  case y7 =>
    intro w hSw
    try dsimp only at hSw
    try simp only [List.getElem_toArray, List.getElem_cons_zero, List.getElem_cons_succ]
    go_simp
    try with_reducible rfl
  try simp only [List.getElem_toArray, List.getElem_cons_zero, List.getElem_cons_succ, Act.put, List.setIfInBounds_toArray, List.set_cons_zero, List.set_cons_succ]
  refine wpAnyL_take (i := 8) (oi := { dst := some 59, op := _, type := _, pos := _, after := _, guard := _ }) (v := ?v8) rfl (by kernel_rfl) (by kernel_rfl) (by kernel_rfl) (by kernel_rfl) (fun _ _ _ h => h) (Or.inl ⟨by kernel_rfl, ?y8⟩) hHeld ?r8
  case y8 =>
    intro w hSw
    try dsimp only at hSw
    try simp only [List.getElem_toArray, List.getElem_cons_zero, List.getElem_cons_succ]
    go_simp
    try with_reducible rfl
  try simp only [List.getElem_toArray, List.getElem_cons_zero, List.getElem_cons_succ, Act.put, List.setIfInBounds_toArray, List.set_cons_zero, List.set_cons_succ]
  refine wpAnyL_take (i := 9) (oi := { dst := some 60, op := _, type := _, pos := _, after := _, guard := _ }) (v := ?v9) rfl (by kernel_rfl) (by kernel_rfl) (by kernel_rfl) (by kernel_rfl) (fun _ _ _ h => h) (Or.inl ⟨by kernel_rfl, ?y9⟩) hHeld ?r9
  case y9 =>
    intro w hSw
    try dsimp only at hSw
    try simp only [List.getElem_toArray, List.getElem_cons_zero, List.getElem_cons_succ]
    go_simp
    try with_reducible rfl
  try simp only [List.getElem_toArray, List.getElem_cons_zero, List.getElem_cons_succ, Act.put, List.setIfInBounds_toArray, List.set_cons_zero, List.set_cons_succ]
  refine wpAnyL_take (i := 10) (oi := { dst := some 61, op := _, type := _, pos := _, after := _, guard := _ }) (v := ?v10) rfl (by kernel_rfl) (by kernel_rfl) (by kernel_rfl) (by kernel_rfl) (fun _ _ _ h => h) (Or.inl ⟨by kernel_rfl, ?y10⟩) hHeld ?r10
  case y10 =>
    intro w hSw
    try dsimp only at hSw
    try simp only [List.getElem_toArray, List.getElem_cons_zero, List.getElem_cons_succ]
    go_simp
    try with_reducible rfl
  try simp only [List.getElem_toArray, List.getElem_cons_zero, List.getElem_cons_succ, Act.put, List.setIfInBounds_toArray, List.set_cons_zero, List.set_cons_succ]
  refine wpAnyL_take (i := 11) (oi := { dst := some 62, op := _, type := _, pos := _, after := _, guard := _ }) (v := ?v11) rfl (by kernel_rfl) (by kernel_rfl) (by kernel_rfl) (by kernel_rfl) (fun _ _ _ h => h) (Or.inl ⟨by kernel_rfl, ?y11⟩) hHeld ?r11
  case y11 =>
    intro w hSw
    try dsimp only at hSw
    try simp only [List.getElem_toArray, List.getElem_cons_zero, List.getElem_cons_succ]
    go_simp
    try with_reducible rfl
  try simp only [List.getElem_toArray, List.getElem_cons_zero, List.getElem_cons_succ, Act.put, List.setIfInBounds_toArray, List.set_cons_zero, List.set_cons_succ]
  refine wpAnyL_take (i := 12) (oi := { dst := some 63, op := _, type := _, pos := _, after := _, guard := _ }) (v := ?v12) rfl (by kernel_rfl) (by kernel_rfl) (by kernel_rfl) (by kernel_rfl) (fun _ _ _ h => h) (Or.inl ⟨by kernel_rfl, ?y12⟩) hHeld ?r12
  case y12 =>
    intro w hSw
    try dsimp only at hSw
    try simp only [List.getElem_toArray, List.getElem_cons_zero, List.getElem_cons_succ]
    go_simp
    try with_reducible rfl
  try simp only [List.getElem_toArray, List.getElem_cons_zero, List.getElem_cons_succ, Act.put, List.setIfInBounds_toArray, List.set_cons_zero, List.set_cons_succ]
  refine wpAnyL_take (i := 14) (oi := { dst := some 65, op := _, type := _, pos := _, after := _, guard := _ }) (v := ?v13) rfl (by kernel_rfl) (by kernel_rfl) (by kernel_rfl) (by kernel_rfl) (fun _ _ _ h => h) (Or.inl ⟨by kernel_rfl, ?y13⟩) hHeld ?r13
  case y13 =>
    intro w hSw
    try dsimp only at hSw
    try simp only [List.getElem_toArray, List.getElem_cons_zero, List.getElem_cons_succ]
    go_simp
    try with_reducible rfl
  try simp only [List.getElem_toArray, List.getElem_cons_zero, List.getElem_cons_succ, Act.put, List.setIfInBounds_toArray, List.set_cons_zero, List.set_cons_succ]
  refine wpAnyL_one (i := 13) (by kernel_rfl) rfl (fun K hK => ?_)
  try simp only [List.getElem_toArray, List.getElem_cons_zero, List.getElem_cons_succ]
  go_simp
  go_at_call 24
  refine (m1.out _ hHeld.1.out).mono ?_
  rintro e Wn13 ⟨rfl, hbn⟩
  have hnew := Lib.hid (keep13 hbn hHeld)
  refine hK.out _ _ (fun _ => hnew.out) ?_
  have hHeld' := hnew.out
  clear hHeld hnew hK K hbn
  have hHeld := hHeld'
  clear hHeld'
  try simp only [List.getElem_toArray, List.getElem_cons_zero, List.getElem_cons_succ, Act.put, List.setIfInBounds_toArray, List.set_cons_zero, List.set_cons_succ]
  refine wpAnyL_one (i := 15) (by kernel_rfl) rfl (fun K hK => ?_)
  try simp only [List.getElem_toArray, List.getElem_cons_zero, List.getElem_cons_succ]
  go_simp
  go_at_call 25
  refine (m2.out _ hHeld.1.out).mono ?_
  rintro e Wn15 ⟨rfl, hbn⟩
  have hnew := Lib.hid (keep13 hbn hHeld)
  refine hK.out _ _ (fun _ => hnew.out) ?_
  have hHeld' := hnew.out
  clear hHeld hnew hK K hbn
  have hHeld := hHeld'
  clear hHeld'
  try simp only [List.getElem_toArray, List.getElem_cons_zero, List.getElem_cons_succ, Act.put, List.setIfInBounds_toArray, List.set_cons_zero, List.set_cons_succ]
  refine wpAnyL_take (i := 16) (oi := { dst := some 67, op := _, type := _, pos := _, after := _, guard := _ }) (v := ?v14) rfl (by kernel_rfl) (by kernel_rfl) (by kernel_rfl) (by kernel_rfl) (fun _ _ _ h => h) (Or.inl ⟨by kernel_rfl, ?y14⟩) hHeld ?r14
  case y14 =>
    intro w hSw
    try dsimp only at hSw
    try simp only [List.getElem_toArray, List.getElem_cons_zero, List.getElem_cons_succ]
    go_simp
    try with_reducible rfl
  try simp only [List.getElem_toArray, List.getElem_cons_zero, List.getElem_cons_succ, Act.put, List.setIfInBounds_toArray, List.set_cons_zero, List.set_cons_succ]
  refine wpAnyL_take (i := 17) (oi := { dst := some 68, op := _, type := _, pos := _, after := _, guard := _ }) (v := ?v15) rfl (by kernel_rfl) (by kernel_rfl) (by kernel_rfl) (by kernel_rfl) (fun _ _ _ h => h) (Or.inl ⟨by kernel_rfl, ?y15⟩) hHeld ?r15
  case y15 =>
    intro w hSw
    try dsimp only at hSw
    try simp only [List.getElem_toArray, List.getElem_cons_zero, List.getElem_cons_succ]
    go_simp
    try with_reducible rfl
  try simp only [List.getElem_toArray, List.getElem_cons_zero, List.getElem_cons_succ, Act.put, List.setIfInBounds_toArray, List.set_cons_zero, List.set_cons_succ]
  refine wpAnyL_take (i := 18) (oi := { dst := some 69, op := _, type := _, pos := _, after := _, guard := _ }) (v := ?v16) rfl (by kernel_rfl) (by kernel_rfl) (by kernel_rfl) (by kernel_rfl) (fun _ _ _ h => h) (Or.inl ⟨by kernel_rfl, ?y16⟩) hHeld ?r16
  case y16 =>
    intro w hSw
    try dsimp only at hSw
    try simp only [List.getElem_toArray, List.getElem_cons_zero, List.getElem_cons_succ]
    go_simp
    try with_reducible rfl
  try simp only [List.getElem_toArray, List.getElem_cons_zero, List.getElem_cons_succ, Act.put, List.setIfInBounds_toArray, List.set_cons_zero, List.set_cons_succ]
  refine wpAnyL_take (i := 19) (oi := { dst := some 70, op := _, type := _, pos := _, after := _, guard := _ }) (v := ?v17) rfl (by kernel_rfl) (by kernel_rfl) (by kernel_rfl) (by kernel_rfl) (fun _ _ _ h => h) (Or.inl ⟨by kernel_rfl, ?y17⟩) hHeld ?r17
  case y17 =>
    intro w hSw
    try dsimp only at hSw
    try simp only [List.getElem_toArray, List.getElem_cons_zero, List.getElem_cons_succ]
    go_simp
    try with_reducible rfl
  try simp only [List.getElem_toArray, List.getElem_cons_zero, List.getElem_cons_succ, Act.put, List.setIfInBounds_toArray, List.set_cons_zero, List.set_cons_succ]
  refine wpAnyL_take (i := 20) (oi := { dst := some 71, op := _, type := _, pos := _, after := _, guard := _ }) (v := ?v18) rfl (by kernel_rfl) (by kernel_rfl) (by kernel_rfl) (by kernel_rfl) (fun _ _ _ h => h) (Or.inl ⟨by kernel_rfl, ?y18⟩) hHeld ?r18
  case y18 =>
    intro w hSw
    try dsimp only at hSw
    try simp only [List.getElem_toArray, List.getElem_cons_zero, List.getElem_cons_succ]
    go_simp
    try with_reducible rfl
  try simp only [List.getElem_toArray, List.getElem_cons_zero, List.getElem_cons_succ, Act.put, List.setIfInBounds_toArray, List.set_cons_zero, List.set_cons_succ]
  refine wpAnyL_take (i := 21) (oi := { dst := some 72, op := _, type := _, pos := _, after := _, guard := _ }) (v := ?v19) rfl (by kernel_rfl) (by kernel_rfl) (by kernel_rfl) (by kernel_rfl) (fun _ _ _ h => h) (Or.inl ⟨by kernel_rfl, ?y19⟩) hHeld ?r19
  case y19 =>
    intro w hSw
    try dsimp only at hSw
    try simp only [List.getElem_toArray, List.getElem_cons_zero, List.getElem_cons_succ]
    go_simp
    try with_reducible rfl
  try simp only [List.getElem_toArray, List.getElem_cons_zero, List.getElem_cons_succ, Act.put, List.setIfInBounds_toArray, List.set_cons_zero, List.set_cons_succ]
  refine wpAnyL_take (i := 22) (oi := { dst := some 73, op := _, type := _, pos := _, after := _, guard := _ }) (v := ?v20) rfl (by kernel_rfl) (by kernel_rfl) (by kernel_rfl) (by kernel_rfl) (fun _ _ _ h => h) (Or.inl ⟨by kernel_rfl, ?y20⟩) hHeld ?r20
  case y20 =>
    intro w hSw
    try dsimp only at hSw
    try simp only [List.getElem_toArray, List.getElem_cons_zero, List.getElem_cons_succ]
    go_simp
    try with_reducible rfl
  try simp only [List.getElem_toArray, List.getElem_cons_zero, List.getElem_cons_succ, Act.put, List.setIfInBounds_toArray, List.set_cons_zero, List.set_cons_succ]
  refine wpAnyL_take (i := 23) (oi := { dst := some 74, op := _, type := _, pos := _, after := _, guard := _ }) (v := ?v21) rfl (by kernel_rfl) (by kernel_rfl) (by kernel_rfl) (by kernel_rfl) (fun _ _ _ h => h) (Or.inl ⟨by kernel_rfl, ?y21⟩) hHeld ?r21
  case y21 =>
    intro w hSw
    try dsimp only at hSw
    try simp only [List.getElem_toArray, List.getElem_cons_zero, List.getElem_cons_succ]
    go_simp
    try with_reducible rfl
  try simp only [List.getElem_toArray, List.getElem_cons_zero, List.getElem_cons_succ, Act.put, List.setIfInBounds_toArray, List.set_cons_zero, List.set_cons_succ]
  refine wpAnyL_take (i := 24) (oi := { dst := some 75, op := _, type := _, pos := _, after := _, guard := _ }) (v := ?v22) rfl (by kernel_rfl) (by kernel_rfl) (by kernel_rfl) (by kernel_rfl) (fun _ _ _ h => h) (Or.inl ⟨by kernel_rfl, ?y22⟩) hHeld ?r22
  case y22 =>
    intro w hSw
    try dsimp only at hSw
    try simp only [List.getElem_toArray, List.getElem_cons_zero, List.getElem_cons_succ]
    go_simp
    try with_reducible rfl
  try simp only [List.getElem_toArray, List.getElem_cons_zero, List.getElem_cons_succ, Act.put, List.setIfInBounds_toArray, List.set_cons_zero, List.set_cons_succ]
  refine wpAnyL_take (i := 25) (oi := { dst := some 76, op := _, type := _, pos := _, after := _, guard := _ }) (v := ?v23) rfl (by kernel_rfl) (by kernel_rfl) (by kernel_rfl) (by kernel_rfl) (fun _ _ _ h => h) (Or.inl ⟨by kernel_rfl, ?y23⟩) hHeld ?r23
  case y23 =>
    intro w hSw
    try dsimp only at hSw
    try simp only [List.getElem_toArray, List.getElem_cons_zero, List.getElem_cons_succ]
    go_simp
    try with_reducible rfl
  try simp only [List.getElem_toArray, List.getElem_cons_zero, List.getElem_cons_succ, Act.put, List.setIfInBounds_toArray, List.set_cons_zero, List.set_cons_succ]
  refine wpAnyL_take (i := 26) (oi := { dst := some 77, op := _, type := _, pos := _, after := _, guard := _ }) (v := ?v24) rfl (by kernel_rfl) (by kernel_rfl) (by kernel_rfl) (by kernel_rfl) (fun _ _ _ h => h) (Or.inl ⟨by kernel_rfl, ?y24⟩) hHeld ?r24
  case y24 =>
    intro w hSw
    try dsimp only at hSw
    try simp only [List.getElem_toArray, List.getElem_cons_zero, List.getElem_cons_succ]
    go_simp
    try with_reducible rfl
  try simp only [List.getElem_toArray, List.getElem_cons_zero, List.getElem_cons_succ, Act.put, List.setIfInBounds_toArray, List.set_cons_zero, List.set_cons_succ]
  refine wpAnyL_take (i := 27) (oi := { dst := some 78, op := _, type := _, pos := _, after := _, guard := _ }) (v := ?v25) rfl (by kernel_rfl) (by kernel_rfl) (by kernel_rfl) (by kernel_rfl) (fun _ _ _ h => h) (Or.inl ⟨by kernel_rfl, ?y25⟩) hHeld ?r25
  case y25 =>
    intro w hSw
    try dsimp only at hSw
    try simp only [List.getElem_toArray, List.getElem_cons_zero, List.getElem_cons_succ]
    go_simp
    try with_reducible rfl
  try simp only [List.getElem_toArray, List.getElem_cons_zero, List.getElem_cons_succ, Act.put, List.setIfInBounds_toArray, List.set_cons_zero, List.set_cons_succ]
  refine wpAnyL_take (i := 28) (oi := { dst := some 8, op := _, type := _, pos := _, after := _, guard := _ }) (v := ?v26) rfl (by kernel_rfl) (by kernel_rfl) (by kernel_rfl) (by kernel_rfl) (fun _ _ _ h => h) (Or.inl ⟨by kernel_rfl, ?y26⟩) hHeld ?r26
  case y26 =>
    intro w hSw
    try dsimp only at hSw
    try simp only [List.getElem_toArray, List.getElem_cons_zero, List.getElem_cons_succ]
    go_simp
    try with_reducible rfl
  try simp only [List.getElem_toArray, List.getElem_cons_zero, List.getElem_cons_succ, Act.put, List.setIfInBounds_toArray, List.set_cons_zero, List.set_cons_succ]
  refine wpAnyL_done (by kernel_rfl) (OnlyN.normal ?_) _
  go_wp2
  exact bodyPost_ret (v := .bool true) (by simp [results, Tryd.results4, go_sem]) rfl ⟨rfl, hB.out.trans (hHeld.1.out.mono hB.out.size)⟩
end Go.Proofs.YtnigpmbpipmgfaaDoor

/-
  BsiBuilds: whatever the input, true.
-/
namespace Go.Proofs.YtnigpmbpipmgfaaDoor
open Go.RowKit Tess

theorem cutB_small {b : Sl} (h : -9223372036854775808 ≤ b.least ∧ b.least ≤ 9223372036854775807) : SmallB (cutB b) := by
  refine ⟨fewL_small _, fun x hx => ?_, ?_, h.1, h.2⟩
  · obtain ⟨y, -, rfl⟩ := List.mem_map.1 (show x ∈ (b.bits.take 70).map fewL from hx)
    exact fewL_small _
  · show ((b.bits.take 70).map fewL).length ≤ 1000000
    rw [List.length_map, List.length_take]
    omega
theorem builds8_any (row : Int) {b : Sl} {p ph : Option Addr} {c ch : Nat} {l : List Int} {hs : List Bool} {vE vB : Value} {w : World} (hE : HC w vE b.ex) (hB : HR w vB b.bits) (hl : Ints w.heap.size w (.slice p l.length c) l) (hb : BoolsAt w.heap.size w (.slice ph hs.length ch) hs)
    (hp : l.length ≤ c) (hh : hs.length ≤ ch) (p0 : p = none → l.length = 0 ∧ c = 0) (h0 : ph = none → hs.length = 0 ∧ ch = 0) (hrg : ∀ i, -9223372036854775808 ≤ vI l i ∧ vI l i ≤ 9223372036854775807) (hlr : -9223372036854775808 ≤ b.least ∧ b.least ≤ 9223372036854775807) (hT : Tab w) :
    Calls Tryd.prog 4 #[.slice p l.length c, .slice ph hs.length ch, .agg #[.int .i64 b.n, .int .i64 b.least, vE, vB], .int .i64 row] w fun e W' => e = .returned (.bool true) ∧ Below w.heap.size w W' := by
  have hl' := ints_take hl 200
  have hb' := bools_take hb 200
  have hrg' := vI_take hrg 200
  generalize l.take 200 = lq at *
  generalize hs.take 200 = hq at *
  have hsm := cutB_small hlr
  have hbb : SmallB (buildB lq hq).1 := by
    by_cases hcond : lq.length ≤ 1000 ∧ lq.length = hq.length
    · rw [show buildB lq hq = (mkB lq hq, 0) from if_pos hcond]
      exact mkB_small ⟨hcond.1, hcond.2, hrg'⟩
    · rw [show buildB lq hq = (⟨0, 0, [], []⟩, 80) from if_neg hcond]
      exact ⟨small_nil, fun x hx => (by cases hx), by simp, by decide, by decide⟩
  refine builds_walk (s := cutB b) (bb := (buildB lq hq).1) (er := (buildB lq hq).2) (g1 := (getB (cutB b) row).1) (g2 := (getB (cutB b) row).2) (rt := isRightB (cutB b)) hp hh p0 h0 rfl rfl hE hB
    (Lib.hid fun W h => shown8_any W (hT.below h hT.lt)) (Lib.hid fun vE vB W _ h1 h2 => cut_any h1 h2)
    (Lib.hid fun W h => build_any ((hl'.below h (Nat.le_refl _)).more h.size) ((hb'.below h (Nat.le_refl _)).more h.size) hrg' (hT.below h hT.lt))
    (Lib.hid fun W h => rbuild_any ((hl'.below h (Nat.le_refl _)).more h.size) ((hb'.below h (Nat.le_refl _)).more h.size) hrg')
    (Lib.hid fun vE vB W h h1 h2 => getB_any row h1 h2 hsm (hT.below h hT.lt)) (Lib.hid fun vE vB W h h1 h2 => rget_any row h1 h2 hsm)
    (Lib.hid fun vE vB W h h1 h2 => rightB_any h1 h2 hsm (hT.below h hT.lt)) (Lib.hid fun vE vB W h h1 h2 => rrightS_any h1 h2 hsm)
    (Lib.hid fun v1 v2 v3 v4 W h1 h2 h3 h4 => ?_)
  have := rsame_any h1 h2 h3 h4 hbb.ex.1 (fun z hz => (hbb.bits z hz).1) hbb.len
  rwa [sameS_iff.2 rfl] at this
end Go.Proofs.YtnigpmbpipmgfaaDoor
