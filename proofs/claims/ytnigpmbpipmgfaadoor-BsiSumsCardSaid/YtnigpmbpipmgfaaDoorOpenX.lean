/-
  OpenR7, OpenS8: several texts in one (merge.py).
-/
import Derived.Test.YtnigpmbpipmgfaaDoorFrameX
import Derived.Test.YtnigpmbpipmgfaaDoorBmB
import Derived.Deep.Slices
import Derived.Deep.Fields
import Derived.ChangeSame
import Derived.Lib.SmallJoins
import Derived.Test.YtnigpmbpipmgfaaDoorBsM

/-
  A bitmap that came in, as the walks want it.
-/
namespace Go.Proofs.YtnigpmbpipmgfaaDoor
open Go.ChangeShapes Go.WideShapes Go.ChangeAt Go.RowKit Go.Deep Tess

section
variable {H : Type} {enc : TypeId × Value → H} {W : World} {spare : Nat → Bool} {held : Bool}
theorem cont_trod {n : Nat} {cs : List Value} {y : DataW H × List MemPlace} (hl : cs.length = 2) (h : DataW.trod enc Tryd.prog W 0 spare held n 75 cs = some y) : ∃ (f : Int) (D : ByteArray), cs = [.int .i64 f, .string D] := by
  obtain ⟨a, b, rfl⟩ : ∃ a b, cs = [a, b] := by
    match cs, hl with
    | [a, b], _ => exact ⟨a, b, rfl⟩
  obtain ⟨xs, m, _, _, _, hxl, hf⟩ := DataW.trod_struct Tryd.underlying75 h
  have h0 : DataW.trod enc Tryd.prog W 0 spare held m 3 (([a, b].drop 0).take (Tryd.prog.cellsOf 3)) = xs[0]? := hf 0 _ rfl
  have h1 : DataW.trod enc Tryd.prog W 0 spare held m 9 (([a, b].drop 1).take (Tryd.prog.cellsOf 9)) = xs[1]? := hf 1 _ rfl
  obtain ⟨y0, e0⟩ : ∃ y0, xs[0]? = some y0 := ⟨xs[0]'(by rw [hxl]; decide), List.getElem?_eq_getElem _⟩
  obtain ⟨y1, e1⟩ : ∃ y1, xs[1]? = some y1 := ⟨xs[1]'(by rw [hxl]; decide), List.getElem?_eq_getElem _⟩
  rw [e0] at h0
  rw [e1] at h1
  have c0 : Tryd.prog.cellsOf 3 = 1 := by kernel_rfl
  have c1 : Tryd.prog.cellsOf 9 = 1 := by kernel_rfl
  simp only [c0, c1, List.drop_zero, List.drop_succ_cons, List.take_succ_cons, List.take_zero] at h0 h1
  obtain ⟨f, hfv, _, _⟩ := DataW.trod_int Tryd.underlying3 h0
  obtain ⟨D, hD, _, _⟩ := DataW.trod_string Tryd.underlying9 h1
  simp only [List.cons.injEq, and_true] at hfv hD
  subst hfv; subst hD
  exact ⟨f, D, rfl⟩
theorem chunk_trod {n : Nat} {cs : List Value} {y : DataW H × List MemPlace} (hl : cs.length = 3) (h : DataW.trod enc Tryd.prog W 0 spare held n 91 cs = some y) : ∃ x : Ch, cs = chv x := by
  obtain ⟨a, b, c, rfl⟩ : ∃ a b c, cs = [a, b, c] := by
    match cs, hl with
    | [a, b, c], _ => exact ⟨a, b, c, rfl⟩
  obtain ⟨xs, m, _, _, _, hxl, hf⟩ := DataW.trod_struct Tryd.underlying91 h
  have h0 : DataW.trod enc Tryd.prog W 0 spare held m 3 (([a, b, c].drop 0).take (Tryd.prog.cellsOf 3)) = xs[0]? := hf 0 _ rfl
  have h1 : DataW.trod enc Tryd.prog W 0 spare held m 75 (([a, b, c].drop 1).take (Tryd.prog.cellsOf 75)) = xs[1]? := hf 1 _ rfl
  obtain ⟨y0, e0⟩ : ∃ y0, xs[0]? = some y0 := ⟨xs[0]'(by rw [hxl]; decide), List.getElem?_eq_getElem _⟩
  obtain ⟨y1, e1⟩ : ∃ y1, xs[1]? = some y1 := ⟨xs[1]'(by rw [hxl]; decide), List.getElem?_eq_getElem _⟩
  rw [e0] at h0
  rw [e1] at h1
  have c0 : Tryd.prog.cellsOf 3 = 1 := by kernel_rfl
  have c1 : Tryd.prog.cellsOf 75 = 2 := by kernel_rfl
  simp only [c0, c1, List.drop_zero, List.drop_succ_cons, List.take_succ_cons, List.take_zero] at h0 h1
  obtain ⟨k, hk, _, _⟩ := DataW.trod_int Tryd.underlying3 h0
  obtain ⟨f, D, hc⟩ := cont_trod rfl h1
  simp only [List.cons.injEq, and_true] at hk hc
  obtain ⟨rfl, rfl⟩ := hc
  subst hk
  exact ⟨⟨k, f, D⟩, rfl⟩
end
theorem ex_list {P : Nat → Ch → Prop} : ∀ n, (∀ i, i < n → ∃ x, P i x) → ∃ l : List Ch, l.length = n ∧ ∀ i (h : i < l.length), P i l[i]
  | 0, _ => ⟨[], rfl, fun i hi => by cases hi⟩
  | n + 1, key => by
    obtain ⟨l, hll, hlx⟩ := ex_list n (fun i hi => key i (by omega))
    obtain ⟨x, hx⟩ := key n (by omega)
    refine ⟨l ++ [x], by rw [List.length_append, hll]; rfl, fun i hi => ?_⟩
    by_cases h : i < l.length
    · rw [List.getElem_append_left h]
      exact hlx i h
    · have hie : i = n := by rw [List.length_append] at hi; simp at hi; omega
      subst hie
      rw [List.getElem_append_right (by omega)]
      simp only [hll, Nat.sub_self, List.getElem_cons_zero]
      exact hx
theorem add_spot {a : Addr} (h : ((a.add (0 * 3)).add 0).spot = none) : a.spot = none := by
  obtain ⟨b, off, sp⟩ := a
  simpa [Addr.add] using h
theorem add_none (b off j : Nat) : ((⟨b, off, none⟩ : Addr).add j) = ⟨b, off + j, none⟩ := by cases j <;> simp [Addr.add]

set_option maxRecDepth 100000 in
theorem roar_open {H : Type} {enc : TypeId × Value → H} {W : World} {r : Reach} {b0 : Nat} {v : Value} {d : DataW H} {p : List MemPlace} (hv : Value.okWide Tryd.prog W r b0 28 v)
    (h : DataW.Trod enc Tryd.prog W 0 (fun _ => true) true 28 v d p) : ∃ (u : Value) (l : List Ch), v = .agg #[u] ∧ HC W u l := by
  obtain ⟨cs, rfl, hsz⟩ := okWide_struct Tryd.underlying28 hv
  have hC : Tryd.prog.cellsOf 28 = 1 := by kernel_rfl
  rw [hC] at hsz
  obtain ⟨u, rfl⟩ : ∃ u, cs = #[u] := by
    obtain ⟨l⟩ := cs
    match l, hsz with
    | [u], _ => exact ⟨u, rfl⟩
  obtain ⟨fuel, hf⟩ := h
  obtain ⟨xs, m, _, _, _, hxl, hf⟩ := DataW.trod_struct Tryd.underlying28 hf
  have h0 : DataW.trod enc Tryd.prog W 0 (fun _ => true) true m 26 (((Value.agg #[u]).cells.toList.drop 0).take (Tryd.prog.cellsOf 26)) = xs[0]? := hf 0 _ rfl
  obtain ⟨y0, e0⟩ : ∃ y0, xs[0]? = some y0 := ⟨xs[0]'(by rw [hxl]; decide), List.getElem?_eq_getElem _⟩
  rw [e0] at h0
  have c0 : Tryd.prog.cellsOf 26 = 1 := by kernel_rfl
  simp only [c0, Value.cells, List.drop_zero, List.take_succ_cons, List.take_zero] at h0
  refine ⟨u, ?_⟩
  have cc : Tryd.prog.cellsOf 91 = 3 := by kernel_rfl
  rcases open_slice Tryd.underlying26 h0 with ⟨hu, _⟩ | ⟨a, len, cap, m', n', D, Pl, hu, _, hlc, _, hm, _, hi⟩
  · simp only [List.cons.injEq, and_true] at hu
    subst hu
    exact ⟨[], rfl, HC.nil _ _ _⟩
  · simp only [List.cons.injEq, and_true] at hu
    subst hu
    have hmle : len ≤ m' := by rw [hm]; split <;> omega
    rw [cc] at hi
    have hsp0 : 0 < len → a.spot = none := by
      intro hil
      obtain ⟨cs', hcs, ht⟩ := hi 0 (by omega)
      obtain ⟨_, hcl, hat⟩ := World.cells?_some hcs
      obtain ⟨x, rfl⟩ := chunk_trod hcl ht
      exact add_spot (World.cell?_spot (hat 0 (by omega)))
    have key : ∀ i, i < len → ∃ x : Ch, ∃ b off, a = ⟨b, off, none⟩ ∧ b < W.heap.size ∧ W.cell? ⟨b, off + i * 3, none⟩ = some (.int .i64 x.key) ∧ W.cell? ⟨b, off + i * 3 + 1, none⟩ = some (.int .i64 x.form) ∧ W.cell? ⟨b, off + i * 3 + 2, none⟩ = some (.string x.data) := by
      intro i hil
      obtain ⟨cs', hcs, ht⟩ := hi i (by omega)
      obtain ⟨_, hcl, hat⟩ := World.cells?_some hcs
      obtain ⟨x, rfl⟩ := chunk_trod hcl ht
      have g0 := hat 0 (by omega)
      have g1 := hat 1 (by omega)
      have g2 := hat 2 (by omega)
      have hsp := hsp0 (by omega)
      obtain ⟨b, off, sp⟩ := a
      subst hsp
      rw [add_none, add_none] at g0 g1 g2
      exact ⟨x, b, off, rfl, World.block_lt_of_cell? W _ g0, g0, g1, g2⟩
    obtain ⟨l, hll, hlx⟩ := ex_list len key
    subst hll
    refine ⟨l, rfl, Lib.hid ⟨some a, cap, rfl, hlc, fun j hj => ?_⟩⟩
    obtain ⟨b, off, rfl, r⟩ := hlx j hj
    exact ⟨b, off, rfl, r⟩
end Go.Proofs.YtnigpmbpipmgfaaDoor

/-
  Slices that came in, as the walks want them.
-/
namespace Go.Proofs.YtnigpmbpipmgfaaDoor
open Go.ChangeShapes Go.WideShapes Go.ChangeAt Go.RowKit Go.Deep Tess

section
variable {H : Type} {enc : TypeId × Value → H} {W : World}
set_option maxRecDepth 100000 in
/-- A slice of chunks. -/
theorem chs_trod {n : Nat} {u : Value} {y : DataW H × List MemPlace} (h0 : DataW.trod enc Tryd.prog W 0 (fun _ => true) true n 26 [u] = some y) : ∃ l : List Ch, HC W u l := by
  have cc : Tryd.prog.cellsOf 91 = 3 := by kernel_rfl
  rcases open_slice Tryd.underlying26 h0 with ⟨hu, _⟩ | ⟨a, len, cap, m', n', D, Pl, hu, _, hlc, _, hm, _, hi⟩
  · simp only [List.cons.injEq, and_true] at hu
    subst hu
    exact ⟨[], HC.nil _ _ _⟩
  · simp only [List.cons.injEq, and_true] at hu
    subst hu
    have hmle : len ≤ m' := by rw [hm]; split <;> omega
    rw [cc] at hi
    have hsp0 : 0 < len → a.spot = none := by
      intro hil
      obtain ⟨cs', hcs, ht⟩ := hi 0 (by omega)
      obtain ⟨_, hcl, hat⟩ := World.cells?_some hcs
      obtain ⟨x, rfl⟩ := chunk_trod hcl ht
      exact add_spot (World.cell?_spot (hat 0 (by omega)))
    have key : ∀ i, i < len → ∃ x : Ch, ∃ b off, a = ⟨b, off, none⟩ ∧ b < W.heap.size ∧ W.cell? ⟨b, off + i * 3, none⟩ = some (.int .i64 x.key) ∧ W.cell? ⟨b, off + i * 3 + 1, none⟩ = some (.int .i64 x.form) ∧ W.cell? ⟨b, off + i * 3 + 2, none⟩ = some (.string x.data) := by
      intro i hil
      obtain ⟨cs', hcs, ht⟩ := hi i (by omega)
      obtain ⟨_, hcl, hat⟩ := World.cells?_some hcs
      obtain ⟨x, rfl⟩ := chunk_trod hcl ht
      have g0 := hat 0 (by omega)
      have g1 := hat 1 (by omega)
      have g2 := hat 2 (by omega)
      have hsp := hsp0 (by omega)
      obtain ⟨b, off, sp⟩ := a
      subst hsp
      rw [add_none, add_none] at g0 g1 g2
      exact ⟨x, b, off, rfl, World.block_lt_of_cell? W _ g0, g0, g1, g2⟩
    obtain ⟨l, hll, hlx⟩ := ex_list len key
    subst hll
    refine ⟨l, Lib.hid ⟨some a, cap, rfl, hlc, fun j hj => ?_⟩⟩
    obtain ⟨b, off, rfl, r⟩ := hlx j hj
    exact ⟨b, off, rfl, r⟩
set_option maxRecDepth 100000 in
/-- A bitmap's one cell. -/
theorem roar_trod {n : Nat} {cs : List Value} {y : DataW H × List MemPlace} (hl : cs.length = 1) (h : DataW.trod enc Tryd.prog W 0 (fun _ => true) true n 28 cs = some y) : ∃ (u : Value) (l : List Ch), cs = [u] ∧ HC W u l := by
  obtain ⟨u, rfl⟩ : ∃ u, cs = [u] := by
    match cs, hl with
    | [u], _ => exact ⟨u, rfl⟩
  obtain ⟨xs, m, _, _, _, hxl, hf⟩ := DataW.trod_struct Tryd.underlying28 h
  have h0 : DataW.trod enc Tryd.prog W 0 (fun _ => true) true m 26 (([u].drop 0).take (Tryd.prog.cellsOf 26)) = xs[0]? := hf 0 _ rfl
  obtain ⟨y0, e0⟩ : ∃ y0, xs[0]? = some y0 := ⟨xs[0]'(by rw [hxl]; decide), List.getElem?_eq_getElem _⟩
  rw [e0] at h0
  have c0 : Tryd.prog.cellsOf 26 = 1 := by kernel_rfl
  simp only [c0, List.drop_zero, List.take_succ_cons, List.take_zero] at h0
  obtain ⟨l, hl⟩ := chs_trod h0
  exact ⟨u, l, rfl, hl⟩
theorem ex_lists {P : Nat → List Ch → Prop} : ∀ n, (∀ i, i < n → ∃ x, P i x) → ∃ l : List (List Ch), l.length = n ∧ ∀ i (h : i < l.length), P i l[i]
  | 0, _ => ⟨[], rfl, fun i hi => by cases hi⟩
  | n + 1, key => by
    obtain ⟨l, hll, hlx⟩ := ex_lists n (fun i hi => key i (by omega))
    obtain ⟨x, hx⟩ := key n (by omega)
    refine ⟨l ++ [x], by rw [List.length_append, hll]; rfl, fun i hi => ?_⟩
    by_cases h : i < l.length
    · rw [List.getElem_append_left h]
      exact hlx i h
    · have hie : i = n := by rw [List.length_append] at hi; simp at hi; omega
      subst hie
      rw [List.getElem_append_right (by omega)]
      simp only [hll, Nat.sub_self, List.getElem_cons_zero]
      exact hx
theorem add_spot1 {a : Addr} (h : ((a.add (0 * 1)).add 0).spot = none) : a.spot = none := by
  obtain ⟨b, off, sp⟩ := a
  simpa [Addr.add] using h
set_option maxRecDepth 100000 in
/-- A slice of bitmaps. -/
theorem roars_trod {n : Nat} {u : Value} {y : DataW H × List MemPlace} (h0 : DataW.trod enc Tryd.prog W 0 (fun _ => true) true n 29 [u] = some y) : ∃ ls : List (List Ch), HR W u ls := by
  have cc : Tryd.prog.cellsOf 28 = 1 := by kernel_rfl
  rcases open_slice Tryd.underlying29 h0 with ⟨hu, _⟩ | ⟨a, len, cap, m', n', D, Pl, hu, _, hlc, _, hm, _, hi⟩
  · simp only [List.cons.injEq, and_true] at hu
    subst hu
    exact ⟨[], HR.nil _ _ _⟩
  · simp only [List.cons.injEq, and_true] at hu
    subst hu
    have hmle : len ≤ m' := by rw [hm]; split <;> omega
    rw [cc] at hi
    have hsp0 : 0 < len → a.spot = none := by
      intro hil
      obtain ⟨cs', hcs, ht⟩ := hi 0 (by omega)
      obtain ⟨_, hcl, hat⟩ := World.cells?_some hcs
      obtain ⟨x, l, rfl, -⟩ := roar_trod hcl ht
      exact add_spot1 (World.cell?_spot (hat 0 (by omega)))
    have key : ∀ i, i < len → ∃ l : List Ch, ∃ b off u, a = ⟨b, off, none⟩ ∧ b < W.heap.size ∧ W.cell? ⟨b, off + i, none⟩ = some u ∧ HC W u l := by
      intro i hil
      obtain ⟨cs', hcs, ht⟩ := hi i (by omega)
      obtain ⟨_, hcl, hat⟩ := World.cells?_some hcs
      obtain ⟨x, l, rfl, hx⟩ := roar_trod hcl ht
      have g0 := hat 0 (by omega)
      have hsp := hsp0 (by omega)
      obtain ⟨b, off, sp⟩ := a
      subst hsp
      rw [add_none, add_none, Nat.mul_one, Nat.add_zero] at g0
      exact ⟨l, b, off, x, rfl, World.block_lt_of_cell? W _ g0, g0, hx⟩
    obtain ⟨ls, hll, hlx⟩ := ex_lists len key
    subst hll
    refine ⟨ls, Lib.hid ⟨some a, cap, rfl, hlc, fun j hj => ?_⟩⟩
    obtain ⟨b, off, u, rfl, h1, h2, h3⟩ := hlx j hj
    exact ⟨b, off, u, rfl, h1, h2, Hid.out h3⟩
end
set_option maxRecDepth 100000 in
theorem slices_open {H : Type} {enc : TypeId × Value → H} {W : World} {r : Reach} {b0 : Nat} {v : Value} {d : DataW H} {p : List MemPlace} (hv : Value.okWide Tryd.prog W r b0 31 v)
    (h : DataW.Trod enc Tryd.prog W 0 (fun _ => true) true 31 v d p) : ∃ (n least : Int) (vE vB : Value) (ex : List Ch) (bits : List (List Ch)), v = .agg #[.int .i64 n, .int .i64 least, vE, vB] ∧ HC W vE ex ∧ HR W vB bits ∧ (Lit.int .i64 least).wf = true := by
  obtain ⟨cs, rfl, hsz⟩ := okWide_struct Tryd.underlying31 hv
  have hC : Tryd.prog.cellsOf 31 = 4 := by kernel_rfl
  rw [hC] at hsz
  obtain ⟨u0, u1, u2, u3, rfl⟩ : ∃ u0 u1 u2 u3, cs = #[u0, u1, u2, u3] := by
    obtain ⟨l⟩ := cs
    match l, hsz with
    | [u0, u1, u2, u3], _ => exact ⟨u0, u1, u2, u3, rfl⟩
  obtain ⟨fuel, hf⟩ := h
  obtain ⟨xs, m, _, _, _, hxl, hf⟩ := DataW.trod_struct Tryd.underlying31 hf
  have h0 : DataW.trod enc Tryd.prog W 0 (fun _ => true) true m 3 (((Value.agg #[u0, u1, u2, u3]).cells.toList.drop 0).take (Tryd.prog.cellsOf 3)) = xs[0]? := hf 0 _ rfl
  have h1 : DataW.trod enc Tryd.prog W 0 (fun _ => true) true m 2 (((Value.agg #[u0, u1, u2, u3]).cells.toList.drop 1).take (Tryd.prog.cellsOf 2)) = xs[1]? := hf 1 _ rfl
  have h2 : DataW.trod enc Tryd.prog W 0 (fun _ => true) true m 28 (((Value.agg #[u0, u1, u2, u3]).cells.toList.drop 2).take (Tryd.prog.cellsOf 28)) = xs[2]? := hf 2 _ rfl
  have h3 : DataW.trod enc Tryd.prog W 0 (fun _ => true) true m 29 (((Value.agg #[u0, u1, u2, u3]).cells.toList.drop 3).take (Tryd.prog.cellsOf 29)) = xs[3]? := hf 3 _ rfl
  obtain ⟨y0, e0⟩ : ∃ y0, xs[0]? = some y0 := ⟨xs[0]'(by rw [hxl]; decide), List.getElem?_eq_getElem _⟩
  obtain ⟨y1, e1⟩ : ∃ y1, xs[1]? = some y1 := ⟨xs[1]'(by rw [hxl]; decide), List.getElem?_eq_getElem _⟩
  obtain ⟨y2, e2⟩ : ∃ y2, xs[2]? = some y2 := ⟨xs[2]'(by rw [hxl]; decide), List.getElem?_eq_getElem _⟩
  obtain ⟨y3, e3⟩ : ∃ y3, xs[3]? = some y3 := ⟨xs[3]'(by rw [hxl]; decide), List.getElem?_eq_getElem _⟩
  rw [e0] at h0
  rw [e1] at h1
  rw [e2] at h2
  rw [e3] at h3
  have c0 : Tryd.prog.cellsOf 3 = 1 := by kernel_rfl
  have c1 : Tryd.prog.cellsOf 2 = 1 := by kernel_rfl
  have c2 : Tryd.prog.cellsOf 28 = 1 := by kernel_rfl
  have c3 : Tryd.prog.cellsOf 29 = 1 := by kernel_rfl
  simp only [c0, c1, c2, c3, Value.cells, List.drop_zero, List.drop_succ_cons, List.take_succ_cons, List.take_zero] at h0 h1 h2 h3
  obtain ⟨n, hn, -, -⟩ := DataW.trod_int Tryd.underlying3 h0
  obtain ⟨least, hl, -, hw⟩ := DataW.trod_int Tryd.underlying2 h1
  obtain ⟨vE, ex, he, hE⟩ := roar_trod rfl h2
  obtain ⟨bits, hB⟩ := roars_trod h3
  simp only [List.cons.injEq, and_true] at hn hl he
  subst hn hl he
  exact ⟨n, least, _, u3, ex, bits, rfl, hE, hB, hw⟩
end Go.Proofs.YtnigpmbpipmgfaaDoor
