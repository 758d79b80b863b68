/-
  BsiOrders: whatever the input, true.
-/
import Derived.Test.YtnigpmbpipmgfaaDoorBsOw
namespace Go.Proofs.YtnigpmbpipmgfaaDoor
open Go.RowKit Tess

theorem orders8_any {p ph ps : Option Addr} {c ch cs : Nat} {l : List Int} {hs : List Bool} {zs : List Int} {w : World} (hl : Ints w.heap.size w (.slice p l.length c) l) (hb : BoolsAt w.heap.size w (.slice ph hs.length ch) hs) (hz : Ints w.heap.size w (.slice ps zs.length cs) zs)
    (hp : l.length ≤ c) (hh : hs.length ≤ ch) (hc : zs.length ≤ cs) (p0 : p = none → l.length = 0 ∧ c = 0) (h0 : ph = none → hs.length = 0 ∧ ch = 0) (s0 : ps = none → zs.length = 0 ∧ cs = 0) (hrg : ∀ i, -9223372036854775808 ≤ vI l i ∧ vI l i ≤ 9223372036854775807) (hT : Tab w) :
    Calls Tryd.prog 9 #[.slice p l.length c, .slice ph hs.length ch, .slice ps zs.length cs] w fun e W' => e = .returned (.bool true) ∧ Below w.heap.size w W' := by
  have hl' := ints_take hl 200
  have hb' := bools_take hb 200
  have hz' := ints_take hz 300
  have hrg' := vI_take hrg 200
  have hzl : (zs.take 300).length ≤ 1000000 := by rw [List.length_take]; omega
  obtain ⟨m, hm⟩ : ∃ m, min zs.length 300 = m := ⟨_, rfl⟩
  rw [hm] at hz'
  generalize hlq : l.take 200 = lq at *
  generalize hhq : hs.take 200 = hq at *
  generalize hzq : zs.take 300 = zq at *
  have kS := Lib.hid (shown8_any w hT)
  have kB : Hid (∀ W : World, Below w.heap.size w W → Calls Tryd.prog 11 #[.slice p (min l.length 200) c, .slice ph (min hs.length 200) ch] W fun e W' => ∃ vE vB, e = .returned (.tuple #[.agg #[.int .i64 (buildB lq hq).1.n, .int .i64 (buildB lq hq).1.least, vE, vB], .int .i64 (buildB lq hq).2]) ∧ HC W' vE (buildB lq hq).1.ex ∧ HR W' vB (buildB lq hq).1.bits ∧ Below W.heap.size W W') := fun W h =>
    build_any ((hl'.below h (Nat.le_refl _)).more h.size) ((hb'.below h (Nat.le_refl _)).more h.size) hrg' (hT.below h hT.lt)
  have kM : Hid (∀ W : World, Below w.heap.size w W → Calls Tryd.prog 13 #[.slice ps m cs] W fun e W' => ∃ v', e = .returned (.tuple #[.agg #[v'], .int .i64 (mkL zq).2]) ∧ HC W' v' (mkL zq).1 ∧ Below W.heap.size W W') := fun W h =>
    make7_any ((hz'.below h (Nat.le_refl _)).more h.size) hzl (hT.below h hT.lt)
  obtain ⟨rr, em, hmk, hrr, hem⟩ := mkL_ex zq
  rw [hmk] at kM
  dsimp only at kM
  clear hl hb hz hl' hb' hz'
  by_cases hcond : lq.length ≤ 1000 ∧ lq.length = hq.length
  · have okc : ColOk lq hq := ⟨hcond.1, hcond.2, hrg'⟩
    have eB : buildB lq hq = (mkB lq hq, 0) := if_pos hcond
    rw [eB] at kB
    dsimp only at kB
    rcases hem with rfl | rfl
    · have hsm := mkB_small okc
      have hri := mkB_right okc
      have hic := mkB_col okc
      generalize mkB lq hq = bb at *
      have hls : -9223372036854775808 ≤ bb.least ∧ bb.least ≤ 9223372036854775807 := ⟨hsm.lo, hsm.hi⟩
      have hrs := small_right hrr
      have a := and_some hic.rex hrr
      have e0 := and_comm_L hrr hic.rex
      have ko : ∀ (op : Int) {la lb lc : List Ch}, rightL la = true → rightL lb = true → opL op la lb = (lc, 0) → ∀ (v1 v2 : Value) (W : World), Below w.heap.size w W → HC W v1 la → HC W v2 lb → Calls Tryd.prog 33 #[.int .i64 op, .agg #[v1], .agg #[v2]] W fun e W' => ∃ v, e = .returned (.tuple #[.agg #[v], .int .i64 0]) ∧ HC W' v lc ∧ Below W.heap.size W W' := fun op {_ _ _} ha hb e v1 v2 W h h1 h2 => by
        have := op7_any op h1 h2 (small_right ha) (small_right hb) (hT.below h hT.lt)
        rw [e] at this
        exact this
      have kA := ko 1 (lc := andL bb.ex rr) hrr hic.rex (by rw [(and_some hrr hic.rex).1, e0])
      have kI : ∀ x y : Int, (-9223372036854775808 ≤ x ∧ x ≤ 9223372036854775807) → (-9223372036854775808 ≤ y ∧ y ≤ 9223372036854775807) → ∀ (vE vB : Value) (W : World), Below w.heap.size w W → HC W vE bb.ex → HR W vB bb.bits → Calls Tryd.prog 36 #[.agg #[.int .i64 bb.n, .int .i64 bb.least, vE, vB], .int .i64 x, .int .i64 y] W fun e W' => ∃ v, e = .returned (.tuple #[.agg #[v], .int .i64 0]) ∧ HC W' v (btwB bb x y).1 ∧ Below W.heap.size W W' := fun x y hx hy vE vB W h h1 h2 => by
        have := between_any x y h1 h2 hsm hx hy (hT.below h hT.lt)
        rw [(btw_spec hic hri x y).1] at this
        exact this
      have kC : ∀ x : Int, (-9223372036854775808 ≤ x ∧ x ≤ 9223372036854775807) → ∀ (vE vB : Value) (W : World), Below w.heap.size w W → HC W vE bb.ex → HR W vB bb.bits → Calls Tryd.prog 32 #[.agg #[.int .i64 bb.n, .int .i64 bb.least, vE, vB], .int .i64 1, .int .i64 x] W fun e W' => ∃ v, e = .returned (.tuple #[.agg #[v], .int .i64 0]) ∧ HC W' v (findB bb 1 x) ∧ Below W.heap.size W W' := fun x hx vE vB W h h1 h2 => by
        have := compare_any 1 x h1 h2 hsm hx (hT.below h hT.lt)
        rw [cmpB_yes (by decide) hri] at this
        exact this
      have kL : ∀ {x : Int} {ok : Bool}, lstB bb rr = (x, ok) → ∀ (vE vB vr : Value) (W : World), Below w.heap.size w W → HC W vE bb.ex → HR W vB bb.bits → HC W vr rr → Calls Tryd.prog 28 #[.agg #[.int .i64 bb.n, .int .i64 bb.least, vE, vB], .agg #[vr]] W fun e W' => e = .returned (.tuple #[.int .i64 x, .bool ok]) ∧ Below W.heap.size W W' := fun {x ok} e vE vB vr W h h1 h2 h3 => by
        have := leastB_any h1 h2 h3 hsm hrs (hT.below h hT.lt)
        rw [e] at this
        exact this
      have kG : ∀ {x : Int} {ok : Bool}, mstB bb rr = (x, ok) → ∀ (vE vB vr : Value) (W : World), Below w.heap.size w W → HC W vE bb.ex → HR W vB bb.bits → HC W vr rr → Calls Tryd.prog 30 #[.agg #[.int .i64 bb.n, .int .i64 bb.least, vE, vB], .agg #[vr]] W fun e W' => e = .returned (.tuple #[.int .i64 x, .bool ok]) ∧ Below W.heap.size W W' := fun {x ok} e vE vB vr W h h1 h2 h3 => by
        have := mostB_any h1 h2 h3 hsm hrs (hT.below h hT.lt)
        rw [e] at this
        exact this
      by_cases hA : andL bb.ex rr = []
      · obtain ⟨e1, e2⟩ := orders_none hA
        exact ordersNone_any (bb := bb) (zl := rr) (il := (btwB bb 0 0).1) (al := andL bb.ex rr) (x := 0) (y := 0) hp hh p0 h0 s0 hm hc kS kB kM (kL e1) (kG e2) (kI 0 0 (by decide) (by decide)) kA (by rw [hA]; rfl)
      · obtain ⟨x, y, e1, e2, hxy, rx, ry, P1, P2, P3⟩ := orders_some hls hri hrr hA
        have B := btw_spec hic hri x y
        have f := fun x => (findB_spec hic 1 x).1
        exact ordersSome_any (bb := bb) (zl := rr) (il := (btwB bb x y).1) (al := andL bb.ex rr) (ol := []) (el := findB bb 1 x) (ul := findB bb 1 y) (ll := andL (findB bb 1 x) (andL bb.ex rr)) (gl := andL (findB bb 1 y) (andL bb.ex rr)) (x := x) (y := y) hp hh p0 h0 s0 hm hc kS kB kM (kL e1) (kG e2) (kI x y rx ry) kA
          (ko 4 a.2.1 B.2.1 (by rw [(wi_some a.2.1 B.2.1).1, P1])) (kC x rx) (kC y ry) (ko 1 (f x) a.2.1 (and_some (f x) a.2.1).1) (ko 1 (f y) a.2.1 (and_some (f y) a.2.1).1)
          hxy rfl (List.length_pos_iff.2 P2) (List.length_pos_iff.2 P3)
    · exact ordersBad_any (Lib.hid (.inr rfl)) (Lib.hid (.inl rfl)) (Lib.hid (.inr rfl)) hp hh p0 h0 s0 hm hc kS kB kM
  · have eB : buildB lq hq = (⟨0, 0, [], []⟩, 80) := if_neg hcond
    rw [eB] at kB
    exact ordersBad_any (bb := ⟨0, 0, [], []⟩) (Lib.hid (.inl rfl)) (Lib.hid (.inr rfl)) (Lib.hid hem) hp hh p0 h0 s0 hm hc kS kB kM
end Go.Proofs.YtnigpmbpipmgfaaDoor
