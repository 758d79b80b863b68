/-
  BsiBack: whatever the input, true.
-/
import Derived.Test.YtnigpmbpipmgfaaDoorBsBa
namespace Go.Proofs.YtnigpmbpipmgfaaDoor
open Go.RowKit Tess

theorem back8_any {p ph : Option Addr} {c ch : Nat} {l : List Int} {hs : List Bool} {w : World} (hl : Ints w.heap.size w (.slice p l.length c) l) (hb : BoolsAt w.heap.size w (.slice ph hs.length ch) hs)
    (hp : l.length ≤ c) (hh : hs.length ≤ ch) (p0 : p = none → l.length = 0 ∧ c = 0) (h0 : ph = none → hs.length = 0 ∧ ch = 0) (hrg : ∀ i, -9223372036854775808 ≤ vI l i ∧ vI l i ≤ 9223372036854775807) (hT : Tab w) :
    Calls Tryd.prog 5 #[.slice p l.length c, .slice ph hs.length ch] w fun e W' => e = .returned (.bool true) ∧ Below w.heap.size w W' := by
  have hl' := ints_take hl 200
  have hb' := bools_take hb 200
  have hrg' := vI_take hrg 200
  have hn1 : (l.take 200).length = min l.length 200 := by rw [List.length_take]; omega
  have hn2 : (hs.take 200).length = min hs.length 200 := by rw [List.length_take]; omega
  generalize hlq : l.take 200 = lq at *
  generalize hhq : hs.take 200 = hq at *
  have kS := Lib.hid (shown8_any w hT)
  have kB : Hid (∀ W : World, Below w.heap.size w W → Calls Tryd.prog 11 #[.slice p (min l.length 200) c, .slice ph (min hs.length 200) ch] W fun e W' => ∃ vE vB, e = .returned (.tuple #[.agg #[.int .i64 (buildB lq hq).1.n, .int .i64 (buildB lq hq).1.least, vE, vB], .int .i64 (buildB lq hq).2]) ∧ HC W' vE (buildB lq hq).1.ex ∧ HR W' vB (buildB lq hq).1.bits ∧ Below W.heap.size W W') := fun W h =>
    build_any ((hl'.below h (Nat.le_refl _)).more h.size) ((hb'.below h (Nat.le_refl _)).more h.size) hrg' (hT.below h hT.lt)
  have hle : lq.length ≤ 1000 := by omega
  rw [← hn1, ← hn2] at kB
  by_cases heq : lq.length = hq.length
  · have okc : ColOk lq hq := ⟨hle, heq, hrg'⟩
    have eB : buildB lq hq = (mkB lq hq, 0) := if_pos ⟨hle, heq⟩
    rw [eB] at kB
    dsimp only at kB
    have hsm := mkB_small okc
    have hri := mkB_right okc
    have hg := getB_at okc
    have hn : (mkB lq hq).n = (lq.length : Int) := rfl
    generalize mkB lq hq = bb at *
    rw [← heq, hn] at kB
    refine backGood_any (m := lq.length) (bb := bb) (lq := lq) (hq := hq) hp hh p0 h0 hn1.symm (by rw [heq, hn2]) (fun j hj => ints_cell hl' j hj) (fun j hj => bools_cell hb' j (by rw [← heq]; exact hj)) kS kB ?_ (by rw [heq, List.getElem?_eq_none (Nat.le_refl _)]; rfl) ?_
    · intro vE vB j W h h1 h2
      have := getB_any (j : Int) h1 h2 hsm (hT.below h hT.lt)
      rw [hg j, hn] at this
      exact this
    · intro vE vB W h h1 h2
      have := rightB_any h1 h2 hsm (hT.below h hT.lt)
      rw [hri, hn] at this
      exact this
  · have eB : buildB lq hq = (⟨0, 0, [], []⟩, 80) := if_neg fun h => heq h.2
    rw [eB] at kB
    exact backBad_any (bb := ⟨0, 0, [], []⟩) (m := lq.length) (q := hq.length) hp hh p0 h0 hn1.symm hn2.symm heq kS kB
end Go.Proofs.YtnigpmbpipmgfaaDoor
