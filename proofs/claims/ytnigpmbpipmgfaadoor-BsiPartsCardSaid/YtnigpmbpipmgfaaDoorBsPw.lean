/-
  BsiParts' walk. (Printed by genbspw.py.)
-/
import Derived.Test.YtnigpmbpipmgfaaDoorBsPl
namespace Go.Proofs.YtnigpmbpipmgfaaDoor
open Go.RowKit Go.Shelf Tess

set_option linter.unusedSimpArgs false in
set_option maxRecDepth 100000 in
set_option maxHeartbeats 4000000 in
theorem partsBad_any {p ph : Option Addr} {n c nh ch m q0 : Nat} {x : Int} {bb : Sl} {w : World} (hp : n ≤ c) (hh : nh ≤ ch) (p0 : p = none → n = 0 ∧ c = 0) (h0 : ph = none → nh = 0 ∧ ch = 0) (hm : min n 200 = m) (hq : min nh 200 = q0)
    (kS : Hid (Calls Tryd.prog 10 #[] w fun e W' => e = .returned (.bool true) ∧ Below w.heap.size w W'))
    (kB : Hid (∀ W : World, Below w.heap.size w W → Calls Tryd.prog 11 #[.slice p m c, .slice ph q0 ch] W fun e W' => ∃ vE vB, e = .returned (.tuple #[.agg #[.int .i64 bb.n, .int .i64 bb.least, vE, vB], .int .i64 80]) ∧ HC W' vE bb.ex ∧ HR W' vB bb.bits ∧ Below W.heap.size W W')) :
    Calls Tryd.prog 7 #[.slice p n c, .slice ph nh ch, .int .i64 x] w fun e W' => e = .returned (.bool true) ∧ Below w.heap.size w W' := by
  have kf0 := Lib.hid (fun W => few8_any W hp hh p0 h0)
  rw [hm, hq] at kf0
  clear hm hq p0 h0
  go_enter Tryd.func7, Tryd.ntmps7
  go_wp2_with (first
    | (go_at_call 10; refine (kS.out).mono ?_; rintro e W1 ⟨rfl, hb⟩; have hB := Lib.hid hb; clear hb; have kf := Lib.hid (kf0.out W1))
    | (go_at_call 12; refine (kf.out).mono ?_; rintro e W2 ⟨rfl, hb⟩; clear kf; have hbX := hb; clear hb; replace hB := Lib.hid (hB.out.trans (hbX.mono hB.out.size)); clear hbX; have kb := Lib.hid (kB.out _ hB.out))
    | (go_at_call 11; refine (kb.out).mono ?_; rintro e W3 ⟨vE, vR, rfl, hE, hR, hb⟩; clear kb; obtain ⟨pE, cE, rfl, -, -⟩ := Hid.out hE; obtain ⟨pR, cR, rfl, -, -⟩ := Hid.out hR; have hA := (Below.refl _ W3).alloc (Nat.le_refl _) (.cells #[.int .i64 bb.n, .int .i64 bb.least, .slice pE bb.ex.length cE, .slice pR bb.bits.length cR] 31); have hbX := hb.trans (hA.mono hb.size); replace hB := Lib.hid (hB.out.trans (hbX.mono hB.out.size)); have q := Lib.hid (SBox.new W3 31 bb.n bb.least (.slice pE bb.ex.length cE) (.slice pR bb.bits.length cR)); replace hE := hE.later hA; replace hR := hR.later hA; clear hA hbX hb))
  exact bodyPost_ret (v := .bool true) (by simp [results, Tryd.results7, go_sem]) rfl ⟨rfl, hB.out⟩
set_option linter.unusedSimpArgs false in
set_option maxRecDepth 100000 in
set_option maxHeartbeats 4000000 in
theorem partsGood_any {p ph : Option Addr} {n c nh ch m q0 : Nat} {x : Int} {bb : Sl} {lt eq gt le ge ne : List Ch} {n0 n1 n2 n3 : Int} {w : World} (hp : n ≤ c) (hh : nh ≤ ch) (p0 : p = none → n = 0 ∧ c = 0) (h0 : ph = none → nh = 0 ∧ ch = 0) (hm : min n 200 = m) (hq : min nh 200 = q0)
    (kS : Hid (Calls Tryd.prog 10 #[] w fun e W' => e = .returned (.bool true) ∧ Below w.heap.size w W'))
    (kB : Hid (∀ W : World, Below w.heap.size w W → Calls Tryd.prog 11 #[.slice p m c, .slice ph q0 ch] W fun e W' => ∃ vE vB, e = .returned (.tuple #[.agg #[.int .i64 bb.n, .int .i64 bb.least, vE, vB], .int .i64 0]) ∧ HC W' vE bb.ex ∧ HR W' vB bb.bits ∧ Below W.heap.size W W'))
    (kC3 : Hid (∀ (vE vB : Value) (W : World), Below w.heap.size w W → HC W vE bb.ex → HR W vB bb.bits → Calls Tryd.prog 32 #[.agg #[.int .i64 bb.n, .int .i64 bb.least, vE, vB], .int .i64 3, .int .i64 x] W fun e W' => ∃ v, e = .returned (.tuple #[.agg #[v], .int .i64 0]) ∧ HC W' v lt ∧ Below W.heap.size W W'))
    (kC1 : Hid (∀ (vE vB : Value) (W : World), Below w.heap.size w W → HC W vE bb.ex → HR W vB bb.bits → Calls Tryd.prog 32 #[.agg #[.int .i64 bb.n, .int .i64 bb.least, vE, vB], .int .i64 1, .int .i64 x] W fun e W' => ∃ v, e = .returned (.tuple #[.agg #[v], .int .i64 0]) ∧ HC W' v eq ∧ Below W.heap.size W W'))
    (kC5 : Hid (∀ (vE vB : Value) (W : World), Below w.heap.size w W → HC W vE bb.ex → HR W vB bb.bits → Calls Tryd.prog 32 #[.agg #[.int .i64 bb.n, .int .i64 bb.least, vE, vB], .int .i64 5, .int .i64 x] W fun e W' => ∃ v, e = .returned (.tuple #[.agg #[v], .int .i64 0]) ∧ HC W' v gt ∧ Below W.heap.size W W'))
    (kC4 : Hid (∀ (vE vB : Value) (W : World), Below w.heap.size w W → HC W vE bb.ex → HR W vB bb.bits → Calls Tryd.prog 32 #[.agg #[.int .i64 bb.n, .int .i64 bb.least, vE, vB], .int .i64 4, .int .i64 x] W fun e W' => ∃ v, e = .returned (.tuple #[.agg #[v], .int .i64 0]) ∧ HC W' v le ∧ Below W.heap.size W W'))
    (kC6 : Hid (∀ (vE vB : Value) (W : World), Below w.heap.size w W → HC W vE bb.ex → HR W vB bb.bits → Calls Tryd.prog 32 #[.agg #[.int .i64 bb.n, .int .i64 bb.least, vE, vB], .int .i64 6, .int .i64 x] W fun e W' => ∃ v, e = .returned (.tuple #[.agg #[v], .int .i64 0]) ∧ HC W' v ge ∧ Below W.heap.size W W'))
    (kC2 : Hid (∀ (vE vB : Value) (W : World), Below w.heap.size w W → HC W vE bb.ex → HR W vB bb.bits → Calls Tryd.prog 32 #[.agg #[.int .i64 bb.n, .int .i64 bb.least, vE, vB], .int .i64 2, .int .i64 x] W fun e W' => ∃ v, e = .returned (.tuple #[.agg #[v], .int .i64 0]) ∧ HC W' v ne ∧ Below W.heap.size W W'))
    (kO0 : Hid (∀ (v1 v2 : Value) (W : World), Below w.heap.size w W → HC W v1 lt → HC W v2 eq → Calls Tryd.prog 33 #[.int .i64 2, .agg #[v1], .agg #[v2]] W fun e W' => ∃ v, e = .returned (.tuple #[.agg #[v], .int .i64 0]) ∧ HC W' v le ∧ Below W.heap.size W W'))
    (kM0 : Hid (∀ (v1 v2 : Value) (W : World), HC W v1 le → HC W v2 le → Calls Tryd.prog 34 #[.agg #[v1], .agg #[v2]] W fun e W' => e = .returned (.bool true) ∧ Below W.heap.size W W'))
    (kO1 : Hid (∀ (v1 v2 : Value) (W : World), Below w.heap.size w W → HC W v1 gt → HC W v2 eq → Calls Tryd.prog 33 #[.int .i64 2, .agg #[v1], .agg #[v2]] W fun e W' => ∃ v, e = .returned (.tuple #[.agg #[v], .int .i64 0]) ∧ HC W' v ge ∧ Below W.heap.size W W'))
    (kM1 : Hid (∀ (v1 v2 : Value) (W : World), HC W v1 ge → HC W v2 ge → Calls Tryd.prog 34 #[.agg #[v1], .agg #[v2]] W fun e W' => e = .returned (.bool true) ∧ Below W.heap.size W W'))
    (kO2 : Hid (∀ (v1 v2 : Value) (W : World), Below w.heap.size w W → HC W v1 lt → HC W v2 gt → Calls Tryd.prog 33 #[.int .i64 2, .agg #[v1], .agg #[v2]] W fun e W' => ∃ v, e = .returned (.tuple #[.agg #[v], .int .i64 0]) ∧ HC W' v ne ∧ Below W.heap.size W W'))
    (kM2 : Hid (∀ (v1 v2 : Value) (W : World), HC W v1 ne → HC W v2 ne → Calls Tryd.prog 34 #[.agg #[v1], .agg #[v2]] W fun e W' => e = .returned (.bool true) ∧ Below W.heap.size W W'))
    (kO3 : Hid (∀ (v1 v2 : Value) (W : World), Below w.heap.size w W → HC W v1 le → HC W v2 gt → Calls Tryd.prog 33 #[.int .i64 2, .agg #[v1], .agg #[v2]] W fun e W' => ∃ v, e = .returned (.tuple #[.agg #[v], .int .i64 0]) ∧ HC W' v bb.ex ∧ Below W.heap.size W W'))
    (kM3 : Hid (∀ (v1 v2 : Value) (W : World), HC W v1 bb.ex → HC W v2 bb.ex → Calls Tryd.prog 34 #[.agg #[v1], .agg #[v2]] W fun e W' => e = .returned (.bool true) ∧ Below W.heap.size W W'))
    (kN0 : Hid (∀ (v : Value) (W : World), Below w.heap.size w W → HC W v lt → Calls Tryd.prog 18 #[.agg #[v]] W fun e W' => e = .returned (.int .i64 n0) ∧ Below W.heap.size W W'))
    (kN1 : Hid (∀ (v : Value) (W : World), Below w.heap.size w W → HC W v eq → Calls Tryd.prog 18 #[.agg #[v]] W fun e W' => e = .returned (.int .i64 n1) ∧ Below W.heap.size W W'))
    (kN2 : Hid (∀ (v : Value) (W : World), Below w.heap.size w W → HC W v gt → Calls Tryd.prog 18 #[.agg #[v]] W fun e W' => e = .returned (.int .i64 n2) ∧ Below W.heap.size W W'))
    (kN3 : Hid (∀ (v : Value) (W : World), Below w.heap.size w W → HC W v bb.ex → Calls Tryd.prog 18 #[.agg #[v]] W fun e W' => e = .returned (.int .i64 n3) ∧ Below W.heap.size W W'))
    (hadd : IntKind.i64.wrap (IntKind.i64.wrap (n0 + n1) + n2) = n3) :
    Calls Tryd.prog 7 #[.slice p n c, .slice ph nh ch, .int .i64 x] w fun e W' => e = .returned (.bool true) ∧ Below w.heap.size w W' := by
  have kf0 := Lib.hid (fun W => few8_any W hp hh p0 h0)
  rw [hm, hq] at kf0
  clear hm hq p0 h0
  go_enter Tryd.func7, Tryd.ntmps7
  go_wp2_with (first
    | (go_at_call 10; refine (kS.out).mono ?_; rintro e W1 ⟨rfl, hb⟩; have hB := Lib.hid hb; clear hb; have kf := Lib.hid (kf0.out W1))
    | (go_at_call 12; refine (kf.out).mono ?_; rintro e W2 ⟨rfl, hb⟩; clear kf; have hbX := hb; clear hb; replace hB := Lib.hid (hB.out.trans (hbX.mono hB.out.size)); clear hbX; have kb := Lib.hid (kB.out _ hB.out))
    | (go_at_call 11; refine (kb.out).mono ?_; rintro e W3 ⟨vE, vR, rfl, hE, hR, hb⟩; clear kb; obtain ⟨pE, cE, rfl, -, -⟩ := Hid.out hE; obtain ⟨pR, cR, rfl, -, -⟩ := Hid.out hR; have hA := (Below.refl _ W3).alloc (Nat.le_refl _) (.cells #[.int .i64 bb.n, .int .i64 bb.least, .slice pE bb.ex.length cE, .slice pR bb.bits.length cR] 31); have hbX := hb.trans (hA.mono hb.size); replace hB := Lib.hid (hB.out.trans (hbX.mono hB.out.size)); have q := Lib.hid (SBox.new W3 31 bb.n bb.least (.slice pE bb.ex.length cE) (.slice pR bb.bits.length cR)); replace hE := hE.later hA; replace hR := hR.later hA; clear hA hbX hb; have c0 := q.out.c0; have c1 := q.out.c1; have c2 := q.out.c2; have c3 := q.out.c3; have k0 := Lib.hid (kC3.out _ _ _ hB.out hE hR))
    | (go_at_call 32; refine (k0.out).mono ?_; rintro e W4 ⟨vlt, rfl, hlt, hb⟩; clear k0 c0 c1 c2 c3; obtain ⟨plt, clt, rfl, -, -⟩ := Hid.out hlt; have hA := (Below.refl _ W4).alloc (Nat.le_refl _) (.cells #[.slice plt lt.length clt] 28); have hbX := hb.trans (hA.mono hb.size); replace hB := Lib.hid (hB.out.trans (hbX.mono hB.out.size)); replace q := Lib.hid (q.out.later hbX); replace hE := hE.later hbX; replace hR := hR.later hbX; have rlt := Lib.hid (RBox.new W4 (.slice plt lt.length clt)); replace hlt := hlt.later hA; clear hA hbX hb; have c0 := q.out.c0; have c1 := q.out.c1; have c2 := q.out.c2; have c3 := q.out.c3; have k1 := Lib.hid (kC1.out _ _ _ hB.out hE hR))
    | (go_at_call 32; refine (k1.out).mono ?_; rintro e W5 ⟨veq, rfl, heq, hb⟩; clear k1 c0 c1 c2 c3; obtain ⟨peq, ceq, rfl, -, -⟩ := Hid.out heq; have hA := (Below.refl _ W5).alloc (Nat.le_refl _) (.cells #[.slice peq eq.length ceq] 28); have hbX := hb.trans (hA.mono hb.size); replace hB := Lib.hid (hB.out.trans (hbX.mono hB.out.size)); replace q := Lib.hid (q.out.later hbX); replace hE := hE.later hbX; replace hR := hR.later hbX; replace rlt := Lib.hid (rlt.out.later hbX); replace hlt := hlt.later hbX; have req := Lib.hid (RBox.new W5 (.slice peq eq.length ceq)); replace heq := heq.later hA; clear hA hbX hb; have c0 := q.out.c0; have c1 := q.out.c1; have c2 := q.out.c2; have c3 := q.out.c3; have k2 := Lib.hid (kC5.out _ _ _ hB.out hE hR))
    | (go_at_call 32; refine (k2.out).mono ?_; rintro e W6 ⟨vgt, rfl, hgt, hb⟩; clear k2 c0 c1 c2 c3; obtain ⟨pgt, cgt, rfl, -, -⟩ := Hid.out hgt; have hA := (Below.refl _ W6).alloc (Nat.le_refl _) (.cells #[.slice pgt gt.length cgt] 28); have hbX := hb.trans (hA.mono hb.size); replace hB := Lib.hid (hB.out.trans (hbX.mono hB.out.size)); replace q := Lib.hid (q.out.later hbX); replace hE := hE.later hbX; replace hR := hR.later hbX; replace rlt := Lib.hid (rlt.out.later hbX); replace hlt := hlt.later hbX; replace req := Lib.hid (req.out.later hbX); replace heq := heq.later hbX; have rgt := Lib.hid (RBox.new W6 (.slice pgt gt.length cgt)); replace hgt := hgt.later hA; clear hA hbX hb; have c0 := q.out.c0; have c1 := q.out.c1; have c2 := q.out.c2; have c3 := q.out.c3; have k3 := Lib.hid (kC4.out _ _ _ hB.out hE hR))
    | (go_at_call 32; refine (k3.out).mono ?_; rintro e W7 ⟨vle, rfl, hle, hb⟩; clear k3 c0 c1 c2 c3; obtain ⟨ple, cle, rfl, -, -⟩ := Hid.out hle; have hA := (Below.refl _ W7).alloc (Nat.le_refl _) (.cells #[.slice ple le.length cle] 28); have hbX := hb.trans (hA.mono hb.size); replace hB := Lib.hid (hB.out.trans (hbX.mono hB.out.size)); replace q := Lib.hid (q.out.later hbX); replace hE := hE.later hbX; replace hR := hR.later hbX; replace rlt := Lib.hid (rlt.out.later hbX); replace hlt := hlt.later hbX; replace req := Lib.hid (req.out.later hbX); replace heq := heq.later hbX; replace rgt := Lib.hid (rgt.out.later hbX); replace hgt := hgt.later hbX; have rle := Lib.hid (RBox.new W7 (.slice ple le.length cle)); replace hle := hle.later hA; clear hA hbX hb; have c0 := q.out.c0; have c1 := q.out.c1; have c2 := q.out.c2; have c3 := q.out.c3; have k4 := Lib.hid (kC6.out _ _ _ hB.out hE hR))
    | (go_at_call 32; refine (k4.out).mono ?_; rintro e W8 ⟨vge, rfl, hge, hb⟩; clear k4 c0 c1 c2 c3; obtain ⟨pge, cge, rfl, -, -⟩ := Hid.out hge; have hA := (Below.refl _ W8).alloc (Nat.le_refl _) (.cells #[.slice pge ge.length cge] 28); have hbX := hb.trans (hA.mono hb.size); replace hB := Lib.hid (hB.out.trans (hbX.mono hB.out.size)); replace q := Lib.hid (q.out.later hbX); replace hE := hE.later hbX; replace hR := hR.later hbX; replace rlt := Lib.hid (rlt.out.later hbX); replace hlt := hlt.later hbX; replace req := Lib.hid (req.out.later hbX); replace heq := heq.later hbX; replace rgt := Lib.hid (rgt.out.later hbX); replace hgt := hgt.later hbX; replace rle := Lib.hid (rle.out.later hbX); replace hle := hle.later hbX; have rge := Lib.hid (RBox.new W8 (.slice pge ge.length cge)); replace hge := hge.later hA; clear hA hbX hb; have c0 := q.out.c0; have c1 := q.out.c1; have c2 := q.out.c2; have c3 := q.out.c3; have k5 := Lib.hid (kC2.out _ _ _ hB.out hE hR))
    | (go_at_call 32; refine (k5.out).mono ?_; rintro e W9 ⟨vne, rfl, hne, hb⟩; clear k5 c0 c1 c2 c3; obtain ⟨pne, cne, rfl, -, -⟩ := Hid.out hne; have hA := (Below.refl _ W9).alloc (Nat.le_refl _) (.cells #[.slice pne ne.length cne] 28); have hbX := hb.trans (hA.mono hb.size); replace hB := Lib.hid (hB.out.trans (hbX.mono hB.out.size)); replace q := Lib.hid (q.out.later hbX); replace hE := hE.later hbX; replace hR := hR.later hbX; replace rlt := Lib.hid (rlt.out.later hbX); replace hlt := hlt.later hbX; replace req := Lib.hid (req.out.later hbX); replace heq := heq.later hbX; replace rgt := Lib.hid (rgt.out.later hbX); replace hgt := hgt.later hbX; replace rle := Lib.hid (rle.out.later hbX); replace hle := hle.later hbX; replace rge := Lib.hid (rge.out.later hbX); replace hge := hge.later hbX; have rne := Lib.hid (RBox.new W9 (.slice pne ne.length cne)); replace hne := hne.later hA; clear hA hbX hb; have y1 := rlt.out.cell; have y2 := req.out.cell; have k6 := Lib.hid (kO0.out _ _ _ hB.out hlt heq))
    | (go_at_call 33; refine (k6.out).mono ?_; rintro e W10 ⟨vx, rfl, hx, hb⟩; clear k6 y1 y2; obtain ⟨px, cx, rfl, -, -⟩ := Hid.out hx; have hA := (Below.refl _ W10).alloc (Nat.le_refl _) (.cells #[.slice px le.length cx] 28); have hbX := hb.trans (hA.mono hb.size); replace hB := Lib.hid (hB.out.trans (hbX.mono hB.out.size)); replace q := Lib.hid (q.out.later hbX); replace hE := hE.later hbX; replace hR := hR.later hbX; replace rlt := Lib.hid (rlt.out.later hbX); replace hlt := hlt.later hbX; replace req := Lib.hid (req.out.later hbX); replace heq := heq.later hbX; replace rgt := Lib.hid (rgt.out.later hbX); replace hgt := hgt.later hbX; replace rle := Lib.hid (rle.out.later hbX); replace hle := hle.later hbX; replace rge := Lib.hid (rge.out.later hbX); replace hge := hge.later hbX; replace rne := Lib.hid (rne.out.later hbX); replace hne := hne.later hbX; have rx := Lib.hid (RBox.new W10 (.slice px le.length cx)); replace hx := hx.later hA; clear hA hbX hb; have y1 := rgt.out.cell; have y2 := req.out.cell; have k7 := Lib.hid (kO1.out _ _ _ hB.out hgt heq))
    | (go_at_call 33; refine (k7.out).mono ?_; rintro e W11 ⟨vy, rfl, hy, hb⟩; clear k7 y1 y2; obtain ⟨py, cy, rfl, -, -⟩ := Hid.out hy; have hA := (Below.refl _ W11).alloc (Nat.le_refl _) (.cells #[.slice py ge.length cy] 28); have hbX := hb.trans (hA.mono hb.size); replace hB := Lib.hid (hB.out.trans (hbX.mono hB.out.size)); replace q := Lib.hid (q.out.later hbX); replace hE := hE.later hbX; replace hR := hR.later hbX; replace rlt := Lib.hid (rlt.out.later hbX); replace hlt := hlt.later hbX; replace req := Lib.hid (req.out.later hbX); replace heq := heq.later hbX; replace rgt := Lib.hid (rgt.out.later hbX); replace hgt := hgt.later hbX; replace rle := Lib.hid (rle.out.later hbX); replace hle := hle.later hbX; replace rge := Lib.hid (rge.out.later hbX); replace hge := hge.later hbX; replace rne := Lib.hid (rne.out.later hbX); replace hne := hne.later hbX; replace rx := Lib.hid (rx.out.later hbX); replace hx := hx.later hbX; have ry := Lib.hid (RBox.new W11 (.slice py ge.length cy)); replace hy := hy.later hA; clear hA hbX hb; have y1 := rlt.out.cell; have y2 := rgt.out.cell; have k8 := Lib.hid (kO2.out _ _ _ hB.out hlt hgt))
    | (go_at_call 33; refine (k8.out).mono ?_; rintro e W12 ⟨vz, rfl, hz, hb⟩; clear k8 y1 y2; obtain ⟨pz, cz, rfl, -, -⟩ := Hid.out hz; have hA := (Below.refl _ W12).alloc (Nat.le_refl _) (.cells #[.slice pz ne.length cz] 28); have hbX := hb.trans (hA.mono hb.size); replace hB := Lib.hid (hB.out.trans (hbX.mono hB.out.size)); replace q := Lib.hid (q.out.later hbX); replace hE := hE.later hbX; replace hR := hR.later hbX; replace rlt := Lib.hid (rlt.out.later hbX); replace hlt := hlt.later hbX; replace req := Lib.hid (req.out.later hbX); replace heq := heq.later hbX; replace rgt := Lib.hid (rgt.out.later hbX); replace hgt := hgt.later hbX; replace rle := Lib.hid (rle.out.later hbX); replace hle := hle.later hbX; replace rge := Lib.hid (rge.out.later hbX); replace hge := hge.later hbX; replace rne := Lib.hid (rne.out.later hbX); replace hne := hne.later hbX; replace rx := Lib.hid (rx.out.later hbX); replace hx := hx.later hbX; replace ry := Lib.hid (ry.out.later hbX); replace hy := hy.later hbX; have rz := Lib.hid (RBox.new W12 (.slice pz ne.length cz)); replace hz := hz.later hA; clear hA hbX hb; have y1 := rx.out.cell; have y2 := rgt.out.cell; have k9 := Lib.hid (kO3.out _ _ _ hB.out hx hgt))
    | (go_at_call 33; refine (k9.out).mono ?_; rintro e W13 ⟨va, rfl, ha, hb⟩; clear k9 y1 y2; obtain ⟨pa, ca, rfl, -, -⟩ := Hid.out ha; have hA := (Below.refl _ W13).alloc (Nat.le_refl _) (.cells #[.slice pa bb.ex.length ca] 28); have hbX := hb.trans (hA.mono hb.size); replace hB := Lib.hid (hB.out.trans (hbX.mono hB.out.size)); replace q := Lib.hid (q.out.later hbX); replace hE := hE.later hbX; replace hR := hR.later hbX; replace rlt := Lib.hid (rlt.out.later hbX); replace hlt := hlt.later hbX; replace req := Lib.hid (req.out.later hbX); replace heq := heq.later hbX; replace rgt := Lib.hid (rgt.out.later hbX); replace hgt := hgt.later hbX; replace rle := Lib.hid (rle.out.later hbX); replace hle := hle.later hbX; replace rge := Lib.hid (rge.out.later hbX); replace hge := hge.later hbX; replace rne := Lib.hid (rne.out.later hbX); replace hne := hne.later hbX; replace rx := Lib.hid (rx.out.later hbX); replace hx := hx.later hbX; replace ry := Lib.hid (ry.out.later hbX); replace hy := hy.later hbX; replace rz := Lib.hid (rz.out.later hbX); replace hz := hz.later hbX; have ra := Lib.hid (RBox.new W13 (.slice pa bb.ex.length ca)); replace ha := ha.later hA; clear hA hbX hb; have y1 := rx.out.cell; have y2 := rle.out.cell; have k10 := Lib.hid (kM0.out _ _ _ hx hle))
    | (go_at_call 34; refine (k10.out).mono ?_; rintro e W14 ⟨rfl, hb⟩; clear k10 y1 y2; clear rx hx rle hle; have hbX := hb; clear hb; replace hB := Lib.hid (hB.out.trans (hbX.mono hB.out.size)); replace q := Lib.hid (q.out.later hbX); replace hE := hE.later hbX; replace hR := hR.later hbX; replace rlt := Lib.hid (rlt.out.later hbX); replace hlt := hlt.later hbX; replace req := Lib.hid (req.out.later hbX); replace heq := heq.later hbX; replace rgt := Lib.hid (rgt.out.later hbX); replace hgt := hgt.later hbX; replace rge := Lib.hid (rge.out.later hbX); replace hge := hge.later hbX; replace rne := Lib.hid (rne.out.later hbX); replace hne := hne.later hbX; replace ry := Lib.hid (ry.out.later hbX); replace hy := hy.later hbX; replace rz := Lib.hid (rz.out.later hbX); replace hz := hz.later hbX; replace ra := Lib.hid (ra.out.later hbX); replace ha := ha.later hbX; clear hbX; have y1 := ry.out.cell; have y2 := rge.out.cell; have k11 := Lib.hid (kM1.out _ _ _ hy hge))
    | (go_at_call 34; refine (k11.out).mono ?_; rintro e W15 ⟨rfl, hb⟩; clear k11 y1 y2; clear ry hy rge hge; have hbX := hb; clear hb; replace hB := Lib.hid (hB.out.trans (hbX.mono hB.out.size)); replace q := Lib.hid (q.out.later hbX); replace hE := hE.later hbX; replace hR := hR.later hbX; replace rlt := Lib.hid (rlt.out.later hbX); replace hlt := hlt.later hbX; replace req := Lib.hid (req.out.later hbX); replace heq := heq.later hbX; replace rgt := Lib.hid (rgt.out.later hbX); replace hgt := hgt.later hbX; replace rne := Lib.hid (rne.out.later hbX); replace hne := hne.later hbX; replace rz := Lib.hid (rz.out.later hbX); replace hz := hz.later hbX; replace ra := Lib.hid (ra.out.later hbX); replace ha := ha.later hbX; clear hbX; have y1 := rz.out.cell; have y2 := rne.out.cell; have k12 := Lib.hid (kM2.out _ _ _ hz hne))
    | (go_at_call 34; refine (k12.out).mono ?_; rintro e W16 ⟨rfl, hb⟩; clear k12 y1 y2; clear rz hz rne hne; have hbX := hb; clear hb; replace hB := Lib.hid (hB.out.trans (hbX.mono hB.out.size)); replace q := Lib.hid (q.out.later hbX); replace hE := hE.later hbX; replace hR := hR.later hbX; replace rlt := Lib.hid (rlt.out.later hbX); replace hlt := hlt.later hbX; replace req := Lib.hid (req.out.later hbX); replace heq := heq.later hbX; replace rgt := Lib.hid (rgt.out.later hbX); replace hgt := hgt.later hbX; replace ra := Lib.hid (ra.out.later hbX); replace ha := ha.later hbX; clear hbX; have y1 := ra.out.cell; have y2 := q.out.c2; have k13 := Lib.hid (kM3.out _ _ _ ha hE))
    | (go_at_call 34; refine (k13.out).mono ?_; rintro e W17 ⟨rfl, hb⟩; clear k13 y1 y2; clear ra ha hR; have hbX := hb; clear hb; replace hB := Lib.hid (hB.out.trans (hbX.mono hB.out.size)); replace q := Lib.hid (q.out.later hbX); replace hE := hE.later hbX; replace rlt := Lib.hid (rlt.out.later hbX); replace hlt := hlt.later hbX; replace req := Lib.hid (req.out.later hbX); replace heq := heq.later hbX; replace rgt := Lib.hid (rgt.out.later hbX); replace hgt := hgt.later hbX; clear hbX))
  have hBf := hB.out
  have a0 := rlt.out.cell
  have a1 := req.out.cell
  have a2 := rgt.out.cell
  have a3 := q.out.c2
  have m0 := Lib.hid (fun (W : World) (h : Below W17.heap.size W17 W) => kN0.out _ _ (hBf.trans (h.mono hBf.size)) (hlt.later h))
  have m1 := Lib.hid (fun (W : World) (h : Below W17.heap.size W17 W) => kN1.out _ _ (hBf.trans (h.mono hBf.size)) (heq.later h))
  have m2 := Lib.hid (fun (W : World) (h : Below W17.heap.size W17 W) => kN2.out _ _ (hBf.trans (h.mono hBf.size)) (hgt.later h))
  have m3 := Lib.hid (fun (W : World) (h : Below W17.heap.size W17 W) => kN3.out _ _ (hBf.trans (h.mono hBf.size)) (hE.later h))
  clear hBf kN0 kN1 kN2 kN3 kS kB kf0 kC1 kC2 kC3 kC4 kC5 kC6 kO0 kO1 kO2 kO3 kM0 kM1 kM2 kM3 rlt req rgt q hlt heq hgt hE
  generalize W3.heap.size = b3 at *
  generalize W4.heap.size = b4 at *
  generalize W5.heap.size = b5 at *
  generalize W6.heap.size = b6 at *
  have hMd : (fun W' : World => Hid (Below W17.heap.size W17 W') ∧ W'.cell? ⟨b4, 0, none⟩ = some (.slice plt lt.length clt) ∧ W'.cell? ⟨b5, 0, none⟩ = some (.slice peq eq.length ceq) ∧ W'.cell? ⟨b6, 0, none⟩ = some (.slice pgt gt.length cgt) ∧ W'.cell? ⟨b3, 2, none⟩ = some (.slice pE bb.ex.length cE)) W17.drew := ⟨Lib.hid (Below.refl _ W17).drew, a0, a1, a2, a3⟩
  clear a0 a1 a2 a3
  refine region_late (S := (fun W' : World => Hid (Below W17.heap.size W17 W') ∧ W'.cell? ⟨b4, 0, none⟩ = some (.slice plt lt.length clt) ∧ W'.cell? ⟨b5, 0, none⟩ = some (.slice peq eq.length ceq) ∧ W'.cell? ⟨b6, 0, none⟩ = some (.slice pgt gt.length cgt) ∧ W'.cell? ⟨b3, 2, none⟩ = some (.slice pE bb.ex.length cE))) (fun n => n == 999) (by kernel_rfl) hMd (fun hHeld => ?_)
  clear hMd
  generalize World.drew W17 = Wd at *
  refine wpAnyL_take (i := 0) (oi := { dst := some 123, op := _, type := _, pos := _, after := _, guard := _ }) (v := ?v1) rfl (by kernel_rfl) (by kernel_rfl) (by kernel_rfl) (by kernel_rfl) (fun _ _ _ h => h) (Or.inl ⟨by kernel_rfl, ?y1⟩) hHeld ?r1
  case y1 =>
    intro w hSw
    try dsimp only at hSw
    try simp only [List.getElem_toArray, List.getElem_cons_zero, List.getElem_cons_succ]
    go_simp
    try with_reducible rfl
  try simp only [List.getElem_toArray, List.getElem_cons_zero, List.getElem_cons_succ, Act.put, List.setIfInBounds_toArray, List.set_cons_zero, List.set_cons_succ]
  refine wpAnyL_take (i := 1) (oi := { dst := some 124, op := _, type := _, pos := _, after := _, guard := _ }) (v := ?v2) rfl (by kernel_rfl) (by kernel_rfl) (by kernel_rfl) (by kernel_rfl) (fun _ _ _ h => h) (Or.inl ⟨by kernel_rfl, ?y2⟩) hHeld ?r2
  case y2 =>
    intro w hSw
    try dsimp only at hSw
    try simp only [List.getElem_toArray, List.getElem_cons_zero, List.getElem_cons_succ]
    go_simp
    try with_reducible rfl
  try simp only [List.getElem_toArray, List.getElem_cons_zero, List.getElem_cons_succ, Act.put, List.setIfInBounds_toArray, List.set_cons_zero, List.set_cons_succ]
  refine wpAnyL_take (i := 2) (oi := { dst := some 125, op := _, type := _, pos := _, after := _, guard := _ }) (v := ?v3) rfl (by kernel_rfl) (by kernel_rfl) (by kernel_rfl) (by kernel_rfl) (fun _ _ _ h => h) (Or.inl ⟨by kernel_rfl, ?y3⟩) hHeld ?r3
  case y3 =>
    intro w hSw
    try dsimp only at hSw
    try simp only [List.getElem_toArray, List.getElem_cons_zero, List.getElem_cons_succ]
    go_simp
    try with_reducible rfl
  try simp only [List.getElem_toArray, List.getElem_cons_zero, List.getElem_cons_succ, Act.put, List.setIfInBounds_toArray, List.set_cons_zero, List.set_cons_succ]
  refine wpAnyL_take (i := 3) (oi := { dst := some 126, op := _, type := _, pos := _, after := _, guard := _ }) (v := ?v4) rfl (by kernel_rfl) (by kernel_rfl) (by kernel_rfl) (by kernel_rfl) (fun _ _ _ h => h) (Or.inl ⟨by kernel_rfl, ?y4⟩) hHeld ?r4
  case y4 =>
    intro w hSw
    try dsimp only at hSw
    try simp only [List.getElem_toArray, List.getElem_cons_zero, List.getElem_cons_succ]
    go_simp
    try with_reducible rfl
  try simp only [List.getElem_toArray, List.getElem_cons_zero, List.getElem_cons_succ, Act.put, List.setIfInBounds_toArray, List.set_cons_zero, List.set_cons_succ]
  refine wpAnyL_take (i := 4) (oi := { dst := some 127, op := _, type := _, pos := _, after := _, guard := _ }) (v := ?v5) rfl (by kernel_rfl) (by kernel_rfl) (by kernel_rfl) (by kernel_rfl) (fun _ _ _ h => h) (Or.inl ⟨by kernel_rfl, ?y5⟩) hHeld ?r5
  case y5 =>
    intro w hSw
    try dsimp only at hSw
    try simp only [List.getElem_toArray, List.getElem_cons_zero, List.getElem_cons_succ]
    go_simp
    try with_reducible rfl
  try simp only [List.getElem_toArray, List.getElem_cons_zero, List.getElem_cons_succ, Act.put, List.setIfInBounds_toArray, List.set_cons_zero, List.set_cons_succ]
  refine wpAnyL_take (i := 5) (oi := { dst := some 128, op := _, type := _, pos := _, after := _, guard := _ }) (v := ?v6) rfl (by kernel_rfl) (by kernel_rfl) (by kernel_rfl) (by kernel_rfl) (fun _ _ _ h => h) (Or.inl ⟨by kernel_rfl, ?y6⟩) hHeld ?r6
  case y6 =>
    intro w hSw
    try dsimp only at hSw
    try simp only [List.getElem_toArray, List.getElem_cons_zero, List.getElem_cons_succ]
    go_simp
    try with_reducible rfl
  try simp only [List.getElem_toArray, List.getElem_cons_zero, List.getElem_cons_succ, Act.put, List.setIfInBounds_toArray, List.set_cons_zero, List.set_cons_succ]
  refine wpAnyL_take (i := 6) (oi := { dst := some 129, op := _, type := _, pos := _, after := _, guard := _ }) (v := ?v7) rfl (by kernel_rfl) (by kernel_rfl) (by kernel_rfl) (by kernel_rfl) (fun _ _ _ h => h) (Or.inl ⟨by kernel_rfl, ?y7⟩) hHeld ?r7
  case y7 =>
    intro w hSw
    try dsimp only at hSw
    try simp only [List.getElem_toArray, List.getElem_cons_zero, List.getElem_cons_succ]
    go_simp
    try with_reducible rfl
  try simp only [List.getElem_toArray, List.getElem_cons_zero, List.getElem_cons_succ, Act.put, List.setIfInBounds_toArray, List.set_cons_zero, List.set_cons_succ]
  refine wpAnyL_take (i := 7) (oi := { dst := some 130, op := _, type := _, pos := _, after := _, guard := _ }) (v := ?v8) rfl (by kernel_rfl) (by kernel_rfl) (by kernel_rfl) (by kernel_rfl) (fun _ _ _ h => h) (Or.inl ⟨by kernel_rfl, ?y8⟩) hHeld ?r8
  case y8 =>
    intro w hSw
    try dsimp only at hSw
    try simp only [List.getElem_toArray, List.getElem_cons_zero, List.getElem_cons_succ]
    go_simp
    try with_reducible rfl
  try simp only [List.getElem_toArray, List.getElem_cons_zero, List.getElem_cons_succ, Act.put, List.setIfInBounds_toArray, List.set_cons_zero, List.set_cons_succ]
  refine wpAnyL_take (i := 8) (oi := { dst := some 131, op := _, type := _, pos := _, after := _, guard := _ }) (v := ?v9) rfl (by kernel_rfl) (by kernel_rfl) (by kernel_rfl) (by kernel_rfl) (fun _ _ _ h => h) (Or.inl ⟨by kernel_rfl, ?y9⟩) hHeld ?r9
  case y9 =>
    intro w hSw
    try dsimp only at hSw
    try simp only [List.getElem_toArray, List.getElem_cons_zero, List.getElem_cons_succ]
    go_simp
    try with_reducible rfl
  try simp only [List.getElem_toArray, List.getElem_cons_zero, List.getElem_cons_succ, Act.put, List.setIfInBounds_toArray, List.set_cons_zero, List.set_cons_succ]
  refine wpAnyL_take (i := 9) (oi := { dst := some 132, op := _, type := _, pos := _, after := _, guard := _ }) (v := ?v10) rfl (by kernel_rfl) (by kernel_rfl) (by kernel_rfl) (by kernel_rfl) (fun _ _ _ h => h) (Or.inl ⟨by kernel_rfl, ?y10⟩) hHeld ?r10
  case y10 =>
    intro w hSw
    try dsimp only at hSw
    try simp only [List.getElem_toArray, List.getElem_cons_zero, List.getElem_cons_succ]
    go_simp
    try with_reducible rfl
  try simp only [List.getElem_toArray, List.getElem_cons_zero, List.getElem_cons_succ, Act.put, List.setIfInBounds_toArray, List.set_cons_zero, List.set_cons_succ]
  refine wpAnyL_take (i := 10) (oi := { dst := some 133, op := _, type := _, pos := _, after := _, guard := _ }) (v := ?v11) rfl (by kernel_rfl) (by kernel_rfl) (by kernel_rfl) (by kernel_rfl) (fun _ _ _ h => h) (Or.inl ⟨by kernel_rfl, ?y11⟩) hHeld ?r11
  case y11 =>
    intro w hSw
    try dsimp only at hSw
    try simp only [List.getElem_toArray, List.getElem_cons_zero, List.getElem_cons_succ]
    go_simp
    try with_reducible rfl
  try simp only [List.getElem_toArray, List.getElem_cons_zero, List.getElem_cons_succ, Act.put, List.setIfInBounds_toArray, List.set_cons_zero, List.set_cons_succ]
  refine wpAnyL_take (i := 11) (oi := { dst := some 134, op := _, type := _, pos := _, after := _, guard := _ }) (v := ?v12) rfl (by kernel_rfl) (by kernel_rfl) (by kernel_rfl) (by kernel_rfl) (fun _ _ _ h => h) (Or.inl ⟨by kernel_rfl, ?y12⟩) hHeld ?r12
  case y12 =>
    intro w hSw
    try dsimp only at hSw
    try simp only [List.getElem_toArray, List.getElem_cons_zero, List.getElem_cons_succ]
    go_simp
    try with_reducible rfl
  try simp only [List.getElem_toArray, List.getElem_cons_zero, List.getElem_cons_succ, Act.put, List.setIfInBounds_toArray, List.set_cons_zero, List.set_cons_succ]
  refine wpAnyL_take (i := 12) (oi := { dst := some 135, op := _, type := _, pos := _, after := _, guard := _ }) (v := ?v13) rfl (by kernel_rfl) (by kernel_rfl) (by kernel_rfl) (by kernel_rfl) (fun _ _ _ h => h) (Or.inl ⟨by kernel_rfl, ?y13⟩) hHeld ?r13
  case y13 =>
    intro w hSw
    try dsimp only at hSw
    try simp only [List.getElem_toArray, List.getElem_cons_zero, List.getElem_cons_succ]
    go_simp
    try with_reducible rfl
  try simp only [List.getElem_toArray, List.getElem_cons_zero, List.getElem_cons_succ, Act.put, List.setIfInBounds_toArray, List.set_cons_zero, List.set_cons_succ]
  refine wpAnyL_take (i := 13) (oi := { dst := some 136, op := _, type := _, pos := _, after := _, guard := _ }) (v := ?v14) rfl (by kernel_rfl) (by kernel_rfl) (by kernel_rfl) (by kernel_rfl) (fun _ _ _ h => h) (Or.inl ⟨by kernel_rfl, ?y14⟩) hHeld ?r14
  case y14 =>
    intro w hSw
    try dsimp only at hSw
    try simp only [List.getElem_toArray, List.getElem_cons_zero, List.getElem_cons_succ]
    go_simp
    try with_reducible rfl
  try simp only [List.getElem_toArray, List.getElem_cons_zero, List.getElem_cons_succ, Act.put, List.setIfInBounds_toArray, List.set_cons_zero, List.set_cons_succ]
  refine wpAnyL_take (i := 14) (oi := { dst := some 137, op := _, type := _, pos := _, after := _, guard := _ }) (v := ?v15) rfl (by kernel_rfl) (by kernel_rfl) (by kernel_rfl) (by kernel_rfl) (fun _ _ _ h => h) (Or.inl ⟨by kernel_rfl, ?y15⟩) hHeld ?r15
  case y15 =>
    intro w hSw
    try dsimp only at hSw
    try simp only [List.getElem_toArray, List.getElem_cons_zero, List.getElem_cons_succ]
    go_simp
    try with_reducible rfl
  try simp only [List.getElem_toArray, List.getElem_cons_zero, List.getElem_cons_succ, Act.put, List.setIfInBounds_toArray, List.set_cons_zero, List.set_cons_succ]
  refine wpAnyL_take (i := 15) (oi := { dst := some 138, op := _, type := _, pos := _, after := _, guard := _ }) (v := ?v16) rfl (by kernel_rfl) (by kernel_rfl) (by kernel_rfl) (by kernel_rfl) (fun _ _ _ h => h) (Or.inl ⟨by kernel_rfl, ?y16⟩) hHeld ?r16
  case y16 =>
    intro w hSw
    try dsimp only at hSw
    try simp only [List.getElem_toArray, List.getElem_cons_zero, List.getElem_cons_succ]
    go_simp
    try with_reducible rfl
  try simp only [List.getElem_toArray, List.getElem_cons_zero, List.getElem_cons_succ, Act.put, List.setIfInBounds_toArray, List.set_cons_zero, List.set_cons_succ]
  refine wpAnyL_take (i := 16) (oi := { dst := some 139, op := _, type := _, pos := _, after := _, guard := _ }) (v := ?v17) rfl (by kernel_rfl) (by kernel_rfl) (by kernel_rfl) (by kernel_rfl) (fun _ _ _ h => h) (Or.inl ⟨by kernel_rfl, ?y17⟩) hHeld ?r17
  case y17 =>
    intro w hSw
    try dsimp only at hSw
    try simp only [List.getElem_toArray, List.getElem_cons_zero, List.getElem_cons_succ]
    go_simp
    try with_reducible rfl
  try simp only [List.getElem_toArray, List.getElem_cons_zero, List.getElem_cons_succ, Act.put, List.setIfInBounds_toArray, List.set_cons_zero, List.set_cons_succ]
  refine wpAnyL_take (i := 17) (oi := { dst := some 140, op := _, type := _, pos := _, after := _, guard := _ }) (v := ?v18) rfl (by kernel_rfl) (by kernel_rfl) (by kernel_rfl) (by kernel_rfl) (fun _ _ _ h => h) (Or.inl ⟨by kernel_rfl, ?y18⟩) hHeld ?r18
  case y18 =>
    intro w hSw
    try dsimp only at hSw
    try simp only [List.getElem_toArray, List.getElem_cons_zero, List.getElem_cons_succ]
    go_simp
    try with_reducible rfl
  try simp only [List.getElem_toArray, List.getElem_cons_zero, List.getElem_cons_succ, Act.put, List.setIfInBounds_toArray, List.set_cons_zero, List.set_cons_succ]
  refine wpAnyL_take (i := 19) (oi := { dst := some 142, op := _, type := _, pos := _, after := _, guard := _ }) (v := ?v19) rfl (by kernel_rfl) (by kernel_rfl) (by kernel_rfl) (by kernel_rfl) (fun _ _ _ h => h) (Or.inl ⟨by kernel_rfl, ?y19⟩) hHeld ?r19
  case y19 =>
    intro w hSw
    try dsimp only at hSw
    try simp only [List.getElem_toArray, List.getElem_cons_zero, List.getElem_cons_succ]
    go_simp
    try with_reducible rfl
  try simp only [List.getElem_toArray, List.getElem_cons_zero, List.getElem_cons_succ, Act.put, List.setIfInBounds_toArray, List.set_cons_zero, List.set_cons_succ]
  refine wpAnyL_take (i := 22) (oi := { dst := some 145, op := _, type := _, pos := _, after := _, guard := _ }) (v := ?v20) rfl (by kernel_rfl) (by kernel_rfl) (by kernel_rfl) (by kernel_rfl) (fun _ _ _ h => h) (Or.inl ⟨by kernel_rfl, ?y20⟩) hHeld ?r20
  case y20 =>
    intro w hSw
    try dsimp only at hSw
    try simp only [List.getElem_toArray, List.getElem_cons_zero, List.getElem_cons_succ]
    go_simp
    try with_reducible rfl
  try simp only [List.getElem_toArray, List.getElem_cons_zero, List.getElem_cons_succ, Act.put, List.setIfInBounds_toArray, List.set_cons_zero, List.set_cons_succ]
  refine wpAnyL_take (i := 25) (oi := { dst := some 148, op := _, type := _, pos := _, after := _, guard := _ }) (v := ?v21) rfl (by kernel_rfl) (by kernel_rfl) (by kernel_rfl) (by kernel_rfl) (fun _ _ _ h => h) (Or.inl ⟨by kernel_rfl, ?y21⟩) hHeld ?r21
  case y21 =>
    intro w hSw
    try dsimp only at hSw
    try simp only [List.getElem_toArray, List.getElem_cons_zero, List.getElem_cons_succ]
    go_simp
    try with_reducible rfl
  try simp only [List.getElem_toArray, List.getElem_cons_zero, List.getElem_cons_succ, Act.put, List.setIfInBounds_toArray, List.set_cons_zero, List.set_cons_succ]
  refine wpAnyL_take (i := 26) (oi := { dst := some 149, op := _, type := _, pos := _, after := _, guard := _ }) (v := ?v22) rfl (by kernel_rfl) (by kernel_rfl) (by kernel_rfl) (by kernel_rfl) (fun _ _ _ h => h) (Or.inl ⟨by kernel_rfl, ?y22⟩) hHeld ?r22
  case y22 =>
    intro w hSw
    try dsimp only at hSw
    try simp only [List.getElem_toArray, List.getElem_cons_zero, List.getElem_cons_succ]
    go_simp
    try with_reducible rfl
  try simp only [List.getElem_toArray, List.getElem_cons_zero, List.getElem_cons_succ, Act.put, List.setIfInBounds_toArray, List.set_cons_zero, List.set_cons_succ]
  refine wpAnyL_one (i := 18) (by kernel_rfl) rfl (fun K hK => ?_)
  try simp only [List.getElem_toArray, List.getElem_cons_zero, List.getElem_cons_succ]
  go_simp
  go_at_call 18
  refine (m0.out _ hHeld.1.out).mono ?_
  rintro e Wn18 ⟨rfl, hbn⟩
  have hnew := Lib.hid (keep5 hbn hHeld)
  refine hK.out _ _ (fun _ => hnew.out) ?_
  have hHeld' := hnew.out
  clear hHeld hnew hK K hbn
  have hHeld := hHeld'
  clear hHeld'
  try simp only [List.getElem_toArray, List.getElem_cons_zero, List.getElem_cons_succ, Act.put, List.setIfInBounds_toArray, List.set_cons_zero, List.set_cons_succ]
  refine wpAnyL_one (i := 20) (by kernel_rfl) rfl (fun K hK => ?_)
  try simp only [List.getElem_toArray, List.getElem_cons_zero, List.getElem_cons_succ]
  go_simp
  go_at_call 18
  refine (m1.out _ hHeld.1.out).mono ?_
  rintro e Wn20 ⟨rfl, hbn⟩
  have hnew := Lib.hid (keep5 hbn hHeld)
  refine hK.out _ _ (fun _ => hnew.out) ?_
  have hHeld' := hnew.out
  clear hHeld hnew hK K hbn
  have hHeld := hHeld'
  clear hHeld'
  try simp only [List.getElem_toArray, List.getElem_cons_zero, List.getElem_cons_succ, Act.put, List.setIfInBounds_toArray, List.set_cons_zero, List.set_cons_succ]
  refine wpAnyL_take (i := 21) (oi := { dst := some 144, op := _, type := _, pos := _, after := _, guard := _ }) (v := ?v23) rfl (by kernel_rfl) (by kernel_rfl) (by kernel_rfl) (by kernel_rfl) (fun _ _ _ h => h) (Or.inl ⟨by kernel_rfl, ?y23⟩) hHeld ?r23
  case y23 =>
    intro w hSw
    try dsimp only at hSw
    try simp only [List.getElem_toArray, List.getElem_cons_zero, List.getElem_cons_succ]
    go_simp
    try with_reducible rfl
  try simp only [List.getElem_toArray, List.getElem_cons_zero, List.getElem_cons_succ, Act.put, List.setIfInBounds_toArray, List.set_cons_zero, List.set_cons_succ]
  refine wpAnyL_one (i := 23) (by kernel_rfl) rfl (fun K hK => ?_)
  try simp only [List.getElem_toArray, List.getElem_cons_zero, List.getElem_cons_succ]
  go_simp
  go_at_call 18
  refine (m2.out _ hHeld.1.out).mono ?_
  rintro e Wn23 ⟨rfl, hbn⟩
  have hnew := Lib.hid (keep5 hbn hHeld)
  refine hK.out _ _ (fun _ => hnew.out) ?_
  have hHeld' := hnew.out
  clear hHeld hnew hK K hbn
  have hHeld := hHeld'
  clear hHeld'
  try simp only [List.getElem_toArray, List.getElem_cons_zero, List.getElem_cons_succ, Act.put, List.setIfInBounds_toArray, List.set_cons_zero, List.set_cons_succ]
  refine wpAnyL_take (i := 24) (oi := { dst := some 147, op := _, type := _, pos := _, after := _, guard := _ }) (v := ?v24) rfl (by kernel_rfl) (by kernel_rfl) (by kernel_rfl) (by kernel_rfl) (fun _ _ _ h => h) (Or.inl ⟨by kernel_rfl, ?y24⟩) hHeld ?r24
  case y24 =>
    intro w hSw
    try dsimp only at hSw
    try simp only [List.getElem_toArray, List.getElem_cons_zero, List.getElem_cons_succ]
    go_simp
    try with_reducible rfl
  try simp only [List.getElem_toArray, List.getElem_cons_zero, List.getElem_cons_succ, Act.put, List.setIfInBounds_toArray, List.set_cons_zero, List.set_cons_succ]
  refine wpAnyL_one (i := 27) (by kernel_rfl) rfl (fun K hK => ?_)
  try simp only [List.getElem_toArray, List.getElem_cons_zero, List.getElem_cons_succ]
  go_simp
  go_at_call 18
  refine (m3.out _ hHeld.1.out).mono ?_
  rintro e Wn27 ⟨rfl, hbn⟩
  have hnew := Lib.hid (keep5 hbn hHeld)
  refine hK.out _ _ (fun _ => hnew.out) ?_
  have hHeld' := hnew.out
  clear hHeld hnew hK K hbn
  have hHeld := hHeld'
  clear hHeld'
  try simp only [List.getElem_toArray, List.getElem_cons_zero, List.getElem_cons_succ, Act.put, List.setIfInBounds_toArray, List.set_cons_zero, List.set_cons_succ]
  refine wpAnyL_take (i := 28) (oi := { dst := some 151, op := _, type := _, pos := _, after := _, guard := _ }) (v := ?v25) rfl (by kernel_rfl) (by kernel_rfl) (by kernel_rfl) (by kernel_rfl) (fun _ _ _ h => h) (Or.inl ⟨by kernel_rfl, ?y25⟩) hHeld ?r25
  case y25 =>
    intro w hSw
    try dsimp only at hSw
    try simp only [List.getElem_toArray, List.getElem_cons_zero, List.getElem_cons_succ]
    go_simp
    try with_reducible rfl
  try simp only [List.getElem_toArray, List.getElem_cons_zero, List.getElem_cons_succ, Act.put, List.setIfInBounds_toArray, List.set_cons_zero, List.set_cons_succ]
  refine wpAnyL_take (i := 29) (oi := { dst := some 152, op := _, type := _, pos := _, after := _, guard := _ }) (v := ?v26) rfl (by kernel_rfl) (by kernel_rfl) (by kernel_rfl) (by kernel_rfl) (fun _ _ _ h => h) (Or.inl ⟨by kernel_rfl, ?y26⟩) hHeld ?r26
  case y26 =>
    intro w hSw
    try dsimp only at hSw
    try simp only [List.getElem_toArray, List.getElem_cons_zero, List.getElem_cons_succ]
    go_simp
    try with_reducible rfl
  try simp only [List.getElem_toArray, List.getElem_cons_zero, List.getElem_cons_succ, Act.put, List.setIfInBounds_toArray, List.set_cons_zero, List.set_cons_succ]
  refine wpAnyL_take (i := 30) (oi := { dst := some 6, op := _, type := _, pos := _, after := _, guard := _ }) (v := ?v27) rfl (by kernel_rfl) (by kernel_rfl) (by kernel_rfl) (by kernel_rfl) (fun _ _ _ h => h) (Or.inl ⟨by kernel_rfl, ?y27⟩) hHeld ?r27
  case y27 =>
    intro w hSw
    try dsimp only at hSw
    try simp only [List.getElem_toArray, List.getElem_cons_zero, List.getElem_cons_succ]
    go_simp
    try with_reducible rfl
  try simp only [List.getElem_toArray, List.getElem_cons_zero, List.getElem_cons_succ, Act.put, List.setIfInBounds_toArray, List.set_cons_zero, List.set_cons_succ]
  refine wpAnyL_done (by kernel_rfl) (OnlyN.normal ?_) _
  go_wp2
  exact bodyPost_ret (v := .bool true) (by simp [results, Tryd.results7, go_sem]) rfl ⟨rfl, hB.out.trans (hHeld.1.out.mono hB.out.size)⟩
end Go.Proofs.YtnigpmbpipmgfaaDoor
