/-
  BsiParts: whatever the input, true.
-/
import Derived.Test.YtnigpmbpipmgfaaDoorBsPw
namespace Go.Proofs.YtnigpmbpipmgfaaDoor
open Go.RowKit Tess

theorem parts8_any {p ph : Option Addr} {c ch : Nat} {l : List Int} {hs : List Bool} {x : Int} {w : World} (hl : Ints w.heap.size w (.slice p l.length c) l) (hb : BoolsAt w.heap.size w (.slice ph hs.length ch) hs)
    (hp : l.length ≤ c) (hh : hs.length ≤ ch) (p0 : p = none → l.length = 0 ∧ c = 0) (h0 : ph = none → hs.length = 0 ∧ ch = 0) (hrg : ∀ i, -9223372036854775808 ≤ vI l i ∧ vI l i ≤ 9223372036854775807) (hx : -9223372036854775808 ≤ x ∧ x ≤ 9223372036854775807) (hT : Tab w) :
    Calls Tryd.prog 7 #[.slice p l.length c, .slice ph hs.length ch, .int .i64 x] w fun e W' => e = .returned (.bool true) ∧ Below w.heap.size w W' := by
  have hl' := ints_take hl 200
  have hb' := bools_take hb 200
  have hrg' := vI_take hrg 200
  generalize hlq : l.take 200 = lq at *
  generalize hhq : hs.take 200 = hq at *
  have kS := Lib.hid (shown8_any w hT)
  have kB : Hid (∀ W : World, Below w.heap.size w W → Calls Tryd.prog 11 #[.slice p (min l.length 200) c, .slice ph (min hs.length 200) ch] W fun e W' => ∃ vE vB, e = .returned (.tuple #[.agg #[.int .i64 (buildB lq hq).1.n, .int .i64 (buildB lq hq).1.least, vE, vB], .int .i64 (buildB lq hq).2]) ∧ HC W' vE (buildB lq hq).1.ex ∧ HR W' vB (buildB lq hq).1.bits ∧ Below W.heap.size W W') := fun W h =>
    build_any ((hl'.below h (Nat.le_refl _)).more h.size) ((hb'.below h (Nat.le_refl _)).more h.size) hrg' (hT.below h hT.lt)
  by_cases hcond : lq.length ≤ 1000 ∧ lq.length = hq.length
  · have okc : ColOk lq hq := ⟨hcond.1, hcond.2, hrg'⟩
    have eB : buildB lq hq = (mkB lq hq, 0) := if_pos hcond
    rw [eB] at kB
    dsimp only at kB
    have hsm := mkB_small okc
    have hri := mkB_right okc
    have hic := mkB_col okc
    generalize mkB lq hq = bb at *
    have P := parts_plain hic x
    have hcn := parts_cnt hic x
    have hsr := fun op => small_right (P.r op)
    have kc : ∀ op : Int, 1 ≤ op ∧ op ≤ 6 → ∀ (vE vB : Value) (W : World), Below w.heap.size w W → HC W vE bb.ex → HR W vB bb.bits → Calls Tryd.prog 32 #[.agg #[.int .i64 bb.n, .int .i64 bb.least, vE, vB], .int .i64 op, .int .i64 x] W fun e W' => ∃ v, e = .returned (.tuple #[.agg #[v], .int .i64 0]) ∧ HC W' v (findB bb op x) ∧ Below W.heap.size W W' := fun op ho vE vB W h h1 h2 => by
      have := compare_any op x h1 h2 hsm hx (hT.below h hT.lt)
      rw [cmpB_yes ho hri] at this
      exact this
    have ko : ∀ {la lb lc : List Ch}, rightL la = true → rightL lb = true → orL la lb = lc → ∀ (v1 v2 : Value) (W : World), Below w.heap.size w W → HC W v1 la → HC W v2 lb → Calls Tryd.prog 33 #[.int .i64 2, .agg #[v1], .agg #[v2]] W fun e W' => ∃ v, e = .returned (.tuple #[.agg #[v], .int .i64 0]) ∧ HC W' v lc ∧ Below W.heap.size W W' := fun ha hb e v1 v2 W h h1 h2 => by
      have := op7_any 2 h1 h2 (small_right ha) (small_right hb) (hT.below h hT.lt)
      rw [(or_some ha hb).1, e] at this
      exact this
    have km : ∀ {la : List Ch}, rightL la = true → ∀ (v1 v2 : Value) (W : World), HC W v1 la → HC W v2 la → Calls Tryd.prog 34 #[.agg #[v1], .agg #[v2]] W fun e W' => e = .returned (.bool true) ∧ Below W.heap.size W W' := fun ha v1 v2 W h1 h2 => by
      have := same7_any h1 h2 (small_right ha).1
      rw [decide_eq_true rfl] at this
      exact this
    have kn : ∀ {la : List Ch}, rightL la = true → ∀ (v : Value) (W : World), Below w.heap.size w W → HC W v la → Calls Tryd.prog 18 #[.agg #[v]] W fun e W' => e = .returned (.int .i64 (cntL la)) ∧ Below W.heap.size W W' := fun ha v W h h1 =>
      count7_any h1 (small_right ha) (hT.below h hT.lt)
    clear hl hb hl' hb'
    exact partsGood_any (bb := bb) (lt := findB bb 3 x) (eq := findB bb 1 x) (gt := findB bb 5 x) (le := findB bb 4 x) (ge := findB bb 6 x) (ne := findB bb 2 x) hp hh p0 h0 rfl rfl kS kB (kc 3 (by decide)) (kc 1 (by decide)) (kc 5 (by decide)) (kc 4 (by decide)) (kc 6 (by decide)) (kc 2 (by decide))
      (ko (P.r 3) (P.r 1) P.le) (km (P.r 4)) (ko (P.r 5) (P.r 1) P.ge) (km (P.r 6)) (ko (P.r 3) (P.r 5) P.ne) (km (P.r 2)) (ko (P.r 4) (P.r 5) P.all) (km hic.rex)
      (kn (P.r 3)) (kn (P.r 1)) (kn (P.r 5)) (kn hic.rex) hcn
  · have eB : buildB lq hq = (⟨0, 0, [], []⟩, 80) := if_neg hcond
    rw [eB] at kB
    exact partsBad_any (bb := ⟨0, 0, [], []⟩) hp hh p0 h0 rfl rfl kS kB
end Go.Proofs.YtnigpmbpipmgfaaDoor
