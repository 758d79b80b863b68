/-
  column.parted.
-/
import Derived.Test.YtnigpmbpipmgfaaDoorBsJ
import Derived.Test.YtnigpmbpipmgfaaDoorBsWV
namespace Go.Proofs.YtnigpmbpipmgfaaDoor
open Go.RowKit Go.Shelf Tess

attribute [local go_sem] Oper.semAt_some

theorem postM_ret {F : Fence} {n : Nat} {P : Program} {fn : Func} {R : Ending → World → Prop} {tmps : Array Value} {w : World} (v : Value) (h : (results fn tmps).run P w = .ok v w) (hR : R (.returned v) w) : bodyPostM F n P fn R .ret { tmps := tmps, defers := [] } w := ⟨v, h, hR⟩
theorem postM_mark {F : Fence} {n : Nat} {P : Program} {fn : Func} {R : Ending → World → Prop} {tmps : Array Value} {w : World} {D : Nat} (hK : w.heap[D]? = some (.deferred (some []))) (v : Value) (h : (results fn tmps).run P (w.putObj D (.deferred none)) = .ok v (w.putObj D (.deferred none))) (hR : R (.returned v) (w.putObj D (.deferred none))) :
    bodyPostM F n P fn R .ret { tmps := tmps, defers := [{ target := .collected D, args := #[] }] } w := ⟨by simp, .inl ⟨_, _, rfl, run_takeDeferred hK, v, h, hR⟩⟩

def stepP (one : Bool) (b : List Ch) (p : List Ch × List Ch × List Ch) : List Ch × List Ch × List Ch :=
  if one = true then (orL p.1 (wiL p.2.1 b), andL p.2.1 b, p.2.2) else (p.1, wiL p.2.1 b, orL p.2.2 (andL p.2.1 b))
theorem partF_cons (one : Bool) (b : List Ch) (ds : List (Bool × List Ch)) (p : List Ch × List Ch × List Ch) : partF ((one, b) :: ds) p = if (stepP one b p).2.1 = [] then stepP one b p else partF ds (stepP one b p) := by
  obtain ⟨L, S, G⟩ := p
  cases one <;> simp [partF, stepP]
def RightP (p : List Ch × List Ch × List Ch) : Prop := rightL p.1 = true ∧ rightL p.2.1 = true ∧ rightL p.2.2 = true
theorem stepP_right {one : Bool} {b : List Ch} {p : List Ch × List Ch × List Ch} (h : RightP p) (hb : rightL b = true) : RightP (stepP one b p) := by
  obtain ⟨h1, h2, h3⟩ := h
  have w1 := (wi_some h2 hb).2.1
  have a1 := (and_some h2 hb).2.1
  cases one
  · exact ⟨h1, w1, (or_some h3 a1).2.1⟩
  · exact ⟨(or_some h1 w1).2.1, a1, h3⟩

theorem RBox.set3 {W : World} {s : Nat} {a1 a2 a3 : Value} (h1 : RBox W s a1) (h2 : RBox W (s + 1) a2) (h3 : RBox W (s + 1 + 1) a3) (v1 v2 v3 : Value) :
    RBox (((W.setCell ⟨s, 0, none⟩ v1).setCell ⟨s + 1, 0, none⟩ v2).setCell ⟨s + 1 + 1, 0, none⟩ v3) s v1 ∧ RBox (((W.setCell ⟨s, 0, none⟩ v1).setCell ⟨s + 1, 0, none⟩ v2).setCell ⟨s + 1 + 1, 0, none⟩ v3) (s + 1) v2 ∧ RBox (((W.setCell ⟨s, 0, none⟩ v1).setCell ⟨s + 1, 0, none⟩ v2).setCell ⟨s + 1 + 1, 0, none⟩ v3) (s + 1 + 1) v3 ∧
    ∀ v l, HC W v l → HC (((W.setCell ⟨s, 0, none⟩ v1).setCell ⟨s + 1, 0, none⟩ v2).setCell ⟨s + 1 + 1, 0, none⟩ v3) v l := by
  have k2 := h2.far (p := ⟨s, 0, none⟩) (by simp) v1
  have k3 := (h3.far (p := ⟨s, 0, none⟩) (by simp; omega) v1).far (p := ⟨s + 1, 0, none⟩) (by simp) v2
  refine ⟨((h1.set v1).far (p := ⟨s + 1, 0, none⟩) (by simp) v2).far (p := ⟨s + 1 + 1, 0, none⟩) (by simp; omega) v3, (k2.set v2).far (p := ⟨s + 1 + 1, 0, none⟩) (by simp) v3, k3.set v3, fun v l h => ?_⟩
  exact ((h.setR h1 v1).setR k2 v2).setR k3 v3

/-- The boxes of parted: results, less, greater, same. -/
structure PB (c : Nat) (W : World) (v1 v2 v3 : Value) (p : List Ch × List Ch × List Ch) : Prop where
  r1 : RBox W c (.slice none 0 0)
  r2 : RBox W (c + 1) (.slice none 0 0)
  r3 : RBox W (c + 1 + 1) (.slice none 0 0)
  b1 : RBox W (c + 1 + 1 + 1) v1
  b3 : RBox W (c + 1 + 1 + 1 + 1) v3
  b2 : RBox W (c + 1 + 1 + 1 + 1 + 1) v2
  h1 : HC W v1 p.1
  h2 : HC W v2 p.2.1
  h3 : HC W v3 p.2.2
theorem PB.later {c : Nat} {W W' : World} {v1 v2 v3 : Value} {p : List Ch × List Ch × List Ch} (h : PB c W v1 v2 v3 p) (hb : Below W.heap.size W W') : PB c W' v1 v2 v3 p :=
  ⟨h.r1.later hb, h.r2.later hb, h.r3.later hb, h.b1.later hb, h.b3.later hb, h.b2.later hb, h.h1.later hb, h.h2.later hb, h.h3.later hb⟩
theorem PB.own {c : Nat} {W W' : World} {row : Option Nat} {v1 v2 v3 : Value} {p : List Ch × List Ch × List Ch} (h : PB c W v1 v2 v3 p) (hg : W.grownBy W' row) (hr : ∀ r, row = some r → ∃ o : Obj, W.heap[r]? = some o ∧ o.isCells = false) : PB c W' v1 v2 v3 p :=
  ⟨h.r1.own hg hr, h.r2.own hg hr, h.r3.own hg hr, h.b1.own hg hr, h.b3.own hg hr, h.b2.own hg hr, h.h1.grown hg hr, h.h2.grown hg hr, h.h3.grown hg hr⟩
theorem PB.set1 {c : Nat} {W : World} {v1 v2 v3 u1 u2 : Value} {p : List Ch × List Ch × List Ch} {X Y : List Ch} (h : PB c W v1 v2 v3 p) (k1 : HC W u1 X) (k2 : HC W u2 Y) : PB c ((W.setCell ⟨c + 1 + 1 + 1, 0, none⟩ u1).setCell ⟨c + 1 + 1 + 1 + 1 + 1, 0, none⟩ u2) u1 u2 v3 (X, Y, p.2.2) := by
  have d {b : Nat} {v : Value} (hb : RBox W b v) (h1 : b ≠ c + 1 + 1 + 1) (h2 : b ≠ c + 1 + 1 + 1 + 1 + 1) : RBox ((W.setCell ⟨c + 1 + 1 + 1, 0, none⟩ u1).setCell ⟨c + 1 + 1 + 1 + 1 + 1, 0, none⟩ u2) b v := (hb.far (p := ⟨c + 1 + 1 + 1, 0, none⟩) h1 u1).far (p := ⟨c + 1 + 1 + 1 + 1 + 1, 0, none⟩) h2 u2
  have e2 := h.b2.far (p := ⟨c + 1 + 1 + 1, 0, none⟩) (by dsimp only; omega) u1
  exact ⟨d h.r1 (by omega) (by omega), d h.r2 (by omega) (by omega), d h.r3 (by omega) (by omega), (h.b1.set u1).far (p := ⟨c + 1 + 1 + 1 + 1 + 1, 0, none⟩) (by dsimp only; omega) u2, d h.b3 (by omega) (by omega), e2.set u2,
    (k1.setR h.b1 u1).setR e2 u2, (k2.setR h.b1 u1).setR e2 u2, (h.h3.setR h.b1 u1).setR e2 u2⟩
theorem PB.set3 {c : Nat} {W : World} {v1 v2 v3 u3 u2 : Value} {p : List Ch × List Ch × List Ch} {X Y : List Ch} (h : PB c W v1 v2 v3 p) (k3 : HC W u3 X) (k2 : HC W u2 Y) : PB c ((W.setCell ⟨c + 1 + 1 + 1 + 1, 0, none⟩ u3).setCell ⟨c + 1 + 1 + 1 + 1 + 1, 0, none⟩ u2) v1 u2 u3 (p.1, Y, X) := by
  have d {b : Nat} {v : Value} (hb : RBox W b v) (h1 : b ≠ c + 1 + 1 + 1 + 1) (h2 : b ≠ c + 1 + 1 + 1 + 1 + 1) : RBox ((W.setCell ⟨c + 1 + 1 + 1 + 1, 0, none⟩ u3).setCell ⟨c + 1 + 1 + 1 + 1 + 1, 0, none⟩ u2) b v := (hb.far (p := ⟨c + 1 + 1 + 1 + 1, 0, none⟩) h1 u3).far (p := ⟨c + 1 + 1 + 1 + 1 + 1, 0, none⟩) h2 u2
  have e2 := h.b2.far (p := ⟨c + 1 + 1 + 1 + 1, 0, none⟩) (by dsimp only; omega) u3
  exact ⟨d h.r1 (by omega) (by omega), d h.r2 (by omega) (by omega), d h.r3 (by omega) (by omega), d h.b1 (by omega) (by omega), (h.b3.set u3).far (p := ⟨c + 1 + 1 + 1 + 1 + 1, 0, none⟩) (by dsimp only; omega) u2, e2.set u2,
    (h.h1.setR h.b3 u3).setR e2 u2, (k2.setR h.b3 u3).setR e2 u2, (k3.setR h.b3 u3).setR e2 u2⟩
/-- What parted's end leaves. -/
def FinP (c : Nat) (v1 v2 v3 : Value) (p : List Ch × List Ch × List Ch) (_ : Unit) (W : World) : Prop := RBox W c v1 ∧ RBox W (c + 1) v2 ∧ RBox W (c + 1 + 1) v3 ∧ HC W v1 p.1 ∧ HC W v2 p.2.1 ∧ HC W v3 p.2.2
theorem FinP.own (c : Nat) (v1 v2 v3 : Value) (p : List Ch × List Ch × List Ch) (B : Nat) : OwnFrom B (FinP c v1 v2 v3 p) := by
  rintro _ W W' row ⟨h1, h2, h3, h4, h5, h6⟩ hg hr
  have hr' := fun r e => (hr r e).2
  exact ⟨h1.own hg hr', h2.own hg hr', h3.own hg hr', h4.grown hg hr', h5.grown hg hr', h6.grown hg hr'⟩
theorem PB.fin {c : Nat} {W : World} {v1 v2 v3 : Value} {p : List Ch × List Ch × List Ch} (h : PB c W v1 v2 v3 p) : FinP c v1 v2 v3 p () ((((W.setCell ⟨c, 0, none⟩ v1).setCell ⟨c + 1, 0, none⟩ v2).setCell ⟨c + 1 + 1, 0, none⟩ v3)).drew := by
  obtain ⟨q1, q2, q3, q4⟩ := RBox.set3 h.r1 h.r2 h.r3 v1 v2 v3
  exact ⟨q1, q2, q3, (q4 _ _ h.h1).later (Below.refl _ _).drew, (q4 _ _ h.h2).later (Below.refl _ _).drew, (q4 _ _ h.h3).later (Below.refl _ _).drew⟩
def toD {w : World} (pre : List (DX w)) : List (Bool × List Ch) := pre.map fun d => (d.1.1, d.1.2.2)
/-- What the rounds of parted leave behind. -/
def PW {w : World} (stop : Bool) (p0 : List Ch × List Ch × List Ch) (pre : List (DX w)) (W : World) : Prop :=
  ∃ v1 v2 v3 p, PB (w.heap.size + 1) W v1 v2 v3 p ∧ RightP p ∧ Below w.heap.size w W ∧ w.heap.size + 9 ≤ W.heap.size ∧ ∀ rest, partF (toD pre ++ rest) p0 = if stop = true then p else partF rest p
theorem PW.later {w : World} {stop : Bool} {p0 : List Ch × List Ch × List Ch} {pre : List (DX w)} {W W' : World} (h : PW stop p0 pre W) (hb : Below W.heap.size W W') : PW stop p0 pre W' := by
  obtain ⟨v1, v2, v3, p, h1, h2, h3, h4, h5⟩ := h
  exact ⟨v1, v2, v3, p, h1.later hb, h2, h3.trans (hb.mono h3.size), Nat.le_trans h4 hb.size, h5⟩
theorem PW.own {w : World} {stop : Bool} {p0 : List Ch × List Ch × List Ch} {B : Nat} (hB : w.heap.size ≤ B) : OwnFrom B (PW (w := w) stop p0) := by
  rintro pre W W' row ⟨v1, v2, v3, p, h1, h2, h3, h4, h5⟩ hg hr
  exact ⟨v1, v2, v3, p, h1.own hg (fun r e => (hr r e).2), h2, h3.grown hg h3.size (fun k e => Nat.le_trans hB (hr k e).1), Nat.le_trans h4 hg.size, h5⟩
theorem step_eq {w : World} {p0 p : List Ch × List Ch × List Ch} {pre : List (DX w)} (y : DX w) (h : ∀ rest, partF (toD pre ++ rest) p0 = partF rest p) : ∀ rest, partF (toD (pre ++ [y]) ++ rest) p0 = if (stepP y.1.1 y.1.2.2 p).2.1 = [] then stepP y.1.1 y.1.2.2 p else partF rest (stepP y.1.1 y.1.2.2 p) := fun rest => by
  rw [← partF_cons, ← h]
  unfold toD
  rw [List.map_append, List.append_assoc]; rfl

/-- Five cells stay. -/
def Five (W : World) (a1 a2 a3 a4 : Addr) (x1 x2 x3 x4 : Value) (W' : World) : Prop := Hid (Below W.heap.size W W') ∧ W'.cell? a1 = some x1 ∧ W'.cell? a2 = some x2 ∧ W'.cell? a3 = some x3 ∧ W'.cell? a4 = some x4
theorem keep5 {W W1 W2 : World} {a1 a2 a3 a4 : Addr} {x1 x2 x3 x4 : Value} (hb : Below W1.heap.size W1 W2) (h : Hid (Below W.heap.size W W1) ∧ W1.cell? a1 = some x1 ∧ W1.cell? a2 = some x2 ∧ W1.cell? a3 = some x3 ∧ W1.cell? a4 = some x4) :
    Hid (Below W.heap.size W W2) ∧ W2.cell? a1 = some x1 ∧ W2.cell? a2 = some x2 ∧ W2.cell? a3 = some x3 ∧ W2.cell? a4 = some x4 := by
  have d {a : Addr} {x : Value} (k : W1.cell? a = some x) : W2.cell? a = some x := (hb.cell (World.block_lt_of_cell? W1 a k)).trans k
  exact ⟨Lib.hid (h.1.out.trans (hb.mono h.1.out.size)), d h.2.1, d h.2.2.1, d h.2.2.2.1, d h.2.2.2.2⟩
theorem keep5a {W W1 : World} {a1 a2 a3 a4 : Addr} {x1 x2 x3 x4 : Value} {o : Obj} (h : Hid (Below W.heap.size W W1) ∧ W1.cell? a1 = some x1 ∧ W1.cell? a2 = some x2 ∧ W1.cell? a3 = some x3 ∧ W1.cell? a4 = some x4) :
    Hid (Below W.heap.size W (W1.alloc o)) ∧ (W1.alloc o).cell? a1 = some x1 ∧ (W1.alloc o).cell? a2 = some x2 ∧ (W1.alloc o).cell? a3 = some x3 ∧ (W1.alloc o).cell? a4 = some x4 := keep5 ((Below.refl _ W1).alloc (Nat.le_refl _) o) h

theorem row_new {W W1 : World} {q : Prop} (_ : Hid (Below W.heap.size W W1) ∧ q) (v : Value) : RBox (W1.alloc (.cells #[v] 28)) W1.heap.size v := RBox.new W1 v

set_option linter.unusedSimpArgs false in
set_option maxRecDepth 100000 in
set_option maxHeartbeats 2000000 in
theorem parted_any {b : Sl} {vE vB : Value} (n : Int) {w : World} (hE : HC w vE b.ex) (hB : HR w vB b.bits) (hs : SmallB b) (hc : IsCol b) (hn : -9223372036854775808 ≤ n ∧ n ≤ 9223372036854775807) (hT : Tab w) :
    Calls Tryd.prog 95 #[.agg #[.int .i64 b.n, .int .i64 b.least, vE, vB], .int .i64 n] w fun e W' => ∃ v1 v2 v3, e = .returned (.tuple #[.agg #[v1], .agg #[v2], .agg #[v3]]) ∧ HC W' v1 (partB b n).1 ∧ HC W' v2 (partB b n).2.1 ∧ HC W' v3 (partB b n).2.2 ∧ Below w.heap.size w W' := by
  obtain ⟨xs, hxs, hm⟩ := digits_ex hB hc.rbits (n - b.least).toNat
  have hvB : ∃ p c, vB = .slice p b.bits.length c := by obtain ⟨p, c, h, -, -⟩ := Hid.out hB; exact ⟨p, c, h⟩
  obtain ⟨pE, cE, rfl, -, -⟩ := Hid.out hE
  obtain ⟨pB, cB, rfl⟩ := hvB
  have hpB : Hid (partB b n = if n < b.least then ([], [], b.ex) else if b.bits.length < lenB ((n - b.least).toNat) then (b.ex, [], []) else partF (digD b.bits (n - b.least).toNat) ([], b.ex, [])) := rfl
  generalize partB b n = pb at *
  obtain ⟨N, least, ex, bs⟩ := b
  obtain ⟨hsx, hsb, hsl, hlo, hhi⟩ := hs
  dsimp only at *
  obtain ⟨-, -, hl64, hrx, -, hrb, -, -, -, -, -⟩ := hc
  dsimp only at hl64 hrx hrb
  refine (callsIn_wide (n := 9)).1 ?_
  refine callsIn_of_wp_marks Tryd.func95 rfl trivial ?_ rfl
  simp only [Tryd.ntmps95, List.size_toArray, List.length_cons, List.length_nil, Nat.reduceAdd, Nat.reduceSub, Array.replicate_succ, Array.replicate_zero, List.push_toArray, List.append_toArray, List.nil_append, List.cons_append]
  refine wpIn_wide.2 ?_
  have b0 : SBox (((((((w.alloc (.cells #[.int .i64 N, .int .i64 least, .slice pE ex.length cE, .slice pB bs.length cB] 83)).alloc (.cells #[.slice none 0 0] 28)).alloc (.cells #[.slice none 0 0] 28)).alloc (.cells #[.slice none 0 0] 28)).alloc (.cells #[.slice none 0 0] 28)).alloc (.cells #[.slice none 0 0] 28)).alloc (.cells #[.slice pE ex.length cE] 28)) 83 w.heap.size N least (.slice pE ex.length cE) (.slice pB bs.length cB) := ((((((SBox.new w 83 N least (.slice pE ex.length cE) (.slice pB bs.length cB)).alloc _).alloc _).alloc _).alloc _).alloc _).alloc _
  have r1 := (((((RBox.new (w.alloc (.cells #[.int .i64 N, .int .i64 least, .slice pE ex.length cE, .slice pB bs.length cB] 83)) (.slice none 0 0)).alloc (.cells #[.slice none 0 0] 28)).alloc (.cells #[.slice none 0 0] 28)).alloc (.cells #[.slice none 0 0] 28)).alloc (.cells #[.slice none 0 0] 28)).alloc (.cells #[.slice pE ex.length cE] 28)
  have r2 := ((((RBox.new ((w.alloc (.cells #[.int .i64 N, .int .i64 least, .slice pE ex.length cE, .slice pB bs.length cB] 83)).alloc (.cells #[.slice none 0 0] 28)) (.slice none 0 0)).alloc (.cells #[.slice none 0 0] 28)).alloc (.cells #[.slice none 0 0] 28)).alloc (.cells #[.slice none 0 0] 28)).alloc (.cells #[.slice pE ex.length cE] 28)
  have r3 := (((RBox.new (((w.alloc (.cells #[.int .i64 N, .int .i64 least, .slice pE ex.length cE, .slice pB bs.length cB] 83)).alloc (.cells #[.slice none 0 0] 28)).alloc (.cells #[.slice none 0 0] 28)) (.slice none 0 0)).alloc (.cells #[.slice none 0 0] 28)).alloc (.cells #[.slice none 0 0] 28)).alloc (.cells #[.slice pE ex.length cE] 28)
  have r4 := ((RBox.new ((((w.alloc (.cells #[.int .i64 N, .int .i64 least, .slice pE ex.length cE, .slice pB bs.length cB] 83)).alloc (.cells #[.slice none 0 0] 28)).alloc (.cells #[.slice none 0 0] 28)).alloc (.cells #[.slice none 0 0] 28)) (.slice none 0 0)).alloc (.cells #[.slice none 0 0] 28)).alloc (.cells #[.slice pE ex.length cE] 28)
  have r5 := (RBox.new (((((w.alloc (.cells #[.int .i64 N, .int .i64 least, .slice pE ex.length cE, .slice pB bs.length cB] 83)).alloc (.cells #[.slice none 0 0] 28)).alloc (.cells #[.slice none 0 0] 28)).alloc (.cells #[.slice none 0 0] 28)).alloc (.cells #[.slice none 0 0] 28)) (.slice none 0 0)).alloc (.cells #[.slice pE ex.length cE] 28)
  have r6 := RBox.new ((((((w.alloc (.cells #[.int .i64 N, .int .i64 least, .slice pE ex.length cE, .slice pB bs.length cB] 83)).alloc (.cells #[.slice none 0 0] 28)).alloc (.cells #[.slice none 0 0] 28)).alloc (.cells #[.slice none 0 0] 28)).alloc (.cells #[.slice none 0 0] 28)).alloc (.cells #[.slice none 0 0] 28)) (.slice pE ex.length cE)
  have hB7 : Below w.heap.size w (((((((w.alloc (.cells #[.int .i64 N, .int .i64 least, .slice pE ex.length cE, .slice pB bs.length cB] 83)).alloc (.cells #[.slice none 0 0] 28)).alloc (.cells #[.slice none 0 0] 28)).alloc (.cells #[.slice none 0 0] 28)).alloc (.cells #[.slice none 0 0] 28)).alloc (.cells #[.slice none 0 0] 28)).alloc (.cells #[.slice pE ex.length cE] 28)) := (((((((Below.refl w.heap.size w).alloc (Nat.le_refl _) _).alloc (by simp) _).alloc (by simp; omega) _).alloc (by simp; omega) _).alloc (by simp; omega) _).alloc (by simp; omega) _).alloc (by simp; omega) _
  have hz7 : ((((((((w.alloc (.cells #[.int .i64 N, .int .i64 least, .slice pE ex.length cE, .slice pB bs.length cB] 83)).alloc (.cells #[.slice none 0 0] 28)).alloc (.cells #[.slice none 0 0] 28)).alloc (.cells #[.slice none 0 0] 28)).alloc (.cells #[.slice none 0 0] 28)).alloc (.cells #[.slice none 0 0] 28)).alloc (.cells #[.slice pE ex.length cE] 28))).heap.size = w.heap.size + 1 + 1 + 1 + 1 + 1 + 1 + 1 := by simp
  simp only [World.size_alloc] at r1 r2 r3 r4 r5 r6
  by_cases h1 : n < least
  · have h1' : decide (n < least) = true := decide_eq_true h1
    have hpb : Hid (pb = ([], [], ex)) := by show _ = _; rw [hpB.out, if_pos h1]
    go_wp2
    refine wp_scope_straight ?_
    go_wp2
    generalize (((((((w.alloc (.cells #[.int .i64 N, .int .i64 least, .slice pE ex.length cE, .slice pB bs.length cB] 83)).alloc (.cells #[.slice none 0 0] 28)).alloc (.cells #[.slice none 0 0] 28)).alloc (.cells #[.slice none 0 0] 28)).alloc (.cells #[.slice none 0 0] 28)).alloc (.cells #[.slice none 0 0] 28)).alloc (.cells #[.slice pE ex.length cE] 28)) = w7 at *
    have hMd : (fun W' : World => W'.cell? ⟨w.heap.size + 1 + 1 + 1 + 1, 0, none⟩ = some (.slice none 0 0) ∧ W'.cell? ⟨w.heap.size, 2, none⟩ = some (.slice pE ex.length cE)) w7.drew := ⟨r4.cell, b0.c2⟩
    have f1 := r1.frozen; have f2 := r2.frozen; have f3 := r3.frozen
    have c1 := r1.cell; have c2 := r2.cell; have c3 := r3.cell
    have hS := Lib.hid (RBox.set3 (W := w7) (s := w.heap.size + 1) r1 r2 r3 (.slice none 0 0) (.slice none 0 0) (.slice pE ex.length cE))
    have hE7 := Lib.hid (hE.later hB7)
    have hBf := Lib.hid (((hB7.setCell (p := ⟨w.heap.size + 1, 0, none⟩) (by simp) (.slice none 0 0)).setCell (p := ⟨w.heap.size + 1 + 1, 0, none⟩) (by simp; omega) (.slice none 0 0)).setCell (p := ⟨w.heap.size + 1 + 1 + 1, 0, none⟩) (by simp; omega) (.slice pE ex.length cE)).drew
    clear r1 r2 r3 r4 r5 r6 b0 hB7 hxs hm hE hB hT hsb hsl hlo hhi hrb hsx hl64 hn hpB xs
    refine region_late (S := (fun W' : World => W'.cell? ⟨w.heap.size + 1 + 1 + 1 + 1, 0, none⟩ = some (.slice none 0 0) ∧ W'.cell? ⟨w.heap.size, 2, none⟩ = some (.slice pE ex.length cE))) (fun n => n == 999) (by kernel_rfl) hMd (fun hHeld => ?_)
    clear hMd
    refine wpAnyL_take (i := 0) (oi := { dst := some 29, op := _, type := _, pos := _, after := _, guard := _ }) (v := ?v1) rfl (by kernel_rfl) (by kernel_rfl) (by kernel_rfl) (by kernel_rfl) (fun _ _ _ h => h) (Or.inl ⟨by kernel_rfl, ?y1⟩) hHeld ?r1
    case y1 =>
      intro w hSw
      try dsimp only at hSw
      try simp only [List.getElem_toArray, List.getElem_cons_zero, List.getElem_cons_succ]
      go_simp
      try with_reducible rfl
    try simp only [List.getElem_toArray, List.getElem_cons_zero, List.getElem_cons_succ, Act.put, List.setIfInBounds_toArray, List.set_cons_zero, List.set_cons_succ]
    refine wpAnyL_take (i := 1) (oi := { dst := some 30, op := _, type := _, pos := _, after := _, guard := _ }) (v := ?v2) rfl (by kernel_rfl) (by kernel_rfl) (by kernel_rfl) (by kernel_rfl) (fun _ _ _ h => h) (Or.inl ⟨by kernel_rfl, ?y2⟩) hHeld ?r2
    case y2 =>
      intro w hSw
      try dsimp only at hSw
      try simp only [List.getElem_toArray, List.getElem_cons_zero, List.getElem_cons_succ]
      go_simp
      try with_reducible rfl
    try simp only [List.getElem_toArray, List.getElem_cons_zero, List.getElem_cons_succ, Act.put, List.setIfInBounds_toArray, List.set_cons_zero, List.set_cons_succ]
    refine wpAnyL_take (i := 2) (oi := { dst := some 31, op := _, type := _, pos := _, after := _, guard := _ }) (v := ?v3) rfl (by kernel_rfl) (by kernel_rfl) (by kernel_rfl) (by kernel_rfl) (fun _ _ _ h => h) (Or.inl ⟨by kernel_rfl, ?y3⟩) hHeld ?r3
    case y3 =>
      intro w hSw
      try dsimp only at hSw
      try simp only [List.getElem_toArray, List.getElem_cons_zero, List.getElem_cons_succ]
      go_simp
      try with_reducible rfl
    try simp only [List.getElem_toArray, List.getElem_cons_zero, List.getElem_cons_succ, Act.put, List.setIfInBounds_toArray, List.set_cons_zero, List.set_cons_succ]
    refine wpAnyL_take (i := 3) (oi := { dst := some 32, op := _, type := _, pos := _, after := _, guard := _ }) (v := ?v4) rfl (by kernel_rfl) (by kernel_rfl) (by kernel_rfl) (by kernel_rfl) (fun _ _ _ h => h) (Or.inl ⟨by kernel_rfl, ?y4⟩) hHeld ?r4
    case y4 =>
      intro w hSw
      try dsimp only at hSw
      try simp only [List.getElem_toArray, List.getElem_cons_zero, List.getElem_cons_succ]
      go_simp
      try with_reducible rfl
    try simp only [List.getElem_toArray, List.getElem_cons_zero, List.getElem_cons_succ, Act.put, List.setIfInBounds_toArray, List.set_cons_zero, List.set_cons_succ]
    refine wpAnyL_take (i := 4) (oi := { dst := some 33, op := _, type := _, pos := _, after := _, guard := _ }) (v := ?v5) rfl (by kernel_rfl) (by kernel_rfl) (by kernel_rfl) (by kernel_rfl) (fun _ _ _ h => h) (Or.inl ⟨by kernel_rfl, ?y5⟩) hHeld ?r5
    case y5 =>
      intro w hSw
      try dsimp only at hSw
      try simp only [List.getElem_toArray, List.getElem_cons_zero, List.getElem_cons_succ]
      go_simp
      try with_reducible rfl
    try simp only [List.getElem_toArray, List.getElem_cons_zero, List.getElem_cons_succ, Act.put, List.setIfInBounds_toArray, List.set_cons_zero, List.set_cons_succ]
    refine wpAnyL_one (i := 5) (by kernel_rfl) rfl (fun K hK => ?_)
    try simp only [List.getElem_toArray, List.getElem_cons_zero, List.getElem_cons_succ]
    go_simp
    refine (fun (hnew : (fun W' : World => W'.cell? ⟨w.heap.size + 1 + 1 + 1 + 1, 0, none⟩ = some (.slice none 0 0) ∧ W'.cell? ⟨w.heap.size, 2, none⟩ = some (.slice pE ex.length cE)) _) => hK.out _ _ (fun _ => hnew) ?_) ?keep6
    case keep6 => exact (⟨by simpa [go_sem] using hHeld.1, by simpa [go_sem] using hHeld.2⟩)
    have hHeld' := hnew
    dsimp only at hHeld'
    clear hHeld hnew hK K
    have hHeld := hHeld'
    clear hHeld'
    try simp only [List.getElem_toArray, List.getElem_cons_zero, List.getElem_cons_succ, Act.put, List.setIfInBounds_toArray, List.set_cons_zero, List.set_cons_succ]
    refine wpAnyL_one (i := 6) (by kernel_rfl) rfl (fun K hK => ?_)
    try simp only [List.getElem_toArray, List.getElem_cons_zero, List.getElem_cons_succ]
    go_simp
    refine (fun (hnew : (fun W' : World => W'.cell? ⟨w.heap.size + 1 + 1 + 1 + 1, 0, none⟩ = some (.slice none 0 0) ∧ W'.cell? ⟨w.heap.size, 2, none⟩ = some (.slice pE ex.length cE)) _) => hK.out _ _ (fun _ => hnew) ?_) ?keep7
    case keep7 => exact (⟨by simpa [go_sem] using hHeld.1, by simpa [go_sem] using hHeld.2⟩)
    have hHeld' := hnew
    dsimp only at hHeld'
    clear hHeld hnew hK K
    have hHeld := hHeld'
    clear hHeld'
    try simp only [List.getElem_toArray, List.getElem_cons_zero, List.getElem_cons_succ, Act.put, List.setIfInBounds_toArray, List.set_cons_zero, List.set_cons_succ]
    refine wpAnyL_one (i := 7) (by kernel_rfl) rfl (fun K hK => ?_)
    try simp only [List.getElem_toArray, List.getElem_cons_zero, List.getElem_cons_succ]
    go_simp
    refine (fun (hnew : (fun W' : World => W'.cell? ⟨w.heap.size + 1 + 1 + 1 + 1, 0, none⟩ = some (.slice none 0 0) ∧ W'.cell? ⟨w.heap.size, 2, none⟩ = some (.slice pE ex.length cE)) _) => hK.out _ _ (fun _ => hnew) ?_) ?keep8
    case keep8 => exact (⟨by simpa [go_sem] using hHeld.1, by simpa [go_sem] using hHeld.2⟩)
    have hHeld' := hnew
    dsimp only at hHeld'
    clear hHeld hnew hK K
    have hHeld := hHeld'
    clear hHeld'
    try simp only [List.getElem_toArray, List.getElem_cons_zero, List.getElem_cons_succ, Act.put, List.setIfInBounds_toArray, List.set_cons_zero, List.set_cons_succ]
    refine wpAnyL_done (by kernel_rfl) (OnlyN.normal ?_) _
    clear f1 c1 f2 c2 f3 c3 hHeld
    obtain ⟨q1, q2, q3, q4⟩ := hS.out
    have d1 := q1.cell; have d2 := q2.cell; have d3 := q3.cell
    go_wp2
    refine postM_ret (.tuple #[.agg #[.slice none 0 0], .agg #[.slice none 0 0], .agg #[.slice pE ex.length cE]]) ?_ ⟨_, _, _, rfl, ?_⟩
    · simp [results, Tryd.results95, go_sem, d1, d2, d3]
    · rw [hpb.out]
      exact ⟨HC.nil _ _ _, HC.nil _ _ _, q4 _ _ hE7.out, hBf.out⟩
  · have h1' : decide (n < least) = false := decide_eq_false h1
    obtain ⟨X, hX⟩ : ∃ X : Nat, (n - least).toNat = X := ⟨_, rfl⟩
    have hXi : (X : Int) = n - least := by omega
    have hby : IntKind.u64.wrap (IntKind.u64.wrap n - IntKind.u64.wrap least) = (X : Int) := by
      rw [IntKind.wrap_u64, IntKind.wrap_u64, IntKind.wrap_u64]; omega
    have hX64 : X < 18446744073709551616 := by omega
    have hpB2 : Hid (pb = if bs.length < lenB X then (ex, [], []) else partF (digD bs X) ([], ex, [])) := by show _ = _; rw [hpB.out, if_neg h1, hX]
    rw [hX] at hxs
    have hlen : Hid (∀ W, Calls Tryd.prog 41 #[.int .u64 (X : Int)] W fun e w' => e = .returned (.int .i64 (lenB X : Nat)) ∧ w' = W) := fun W => len64_any (X : Int) W (by omega) (by omega)
    obtain ⟨lx, hlx⟩ : ∃ lx, lenB X = lx := ⟨_, rfl⟩
    rw [hlx] at hlen hpB2
    have hXi' := Lib.hid hXi
    have hX64' := Lib.hid hX64
    have hby' := Lib.hid hby
    have hn' := Lib.hid hn
    have hm' := Lib.hid hm
    have hxs' := Lib.hid hxs
    clear hlx hX hXi hX64 h1 hn hm hxs
    go_wp2
    refine wp_scope_straight ?_
    go_wp2
    generalize (((((((w.alloc (.cells #[.int .i64 N, .int .i64 least, .slice pE ex.length cE, .slice pB bs.length cB] 83)).alloc (.cells #[.slice none 0 0] 28)).alloc (.cells #[.slice none 0 0] 28)).alloc (.cells #[.slice none 0 0] 28)).alloc (.cells #[.slice none 0 0] 28)).alloc (.cells #[.slice none 0 0] 28)).alloc (.cells #[.slice pE ex.length cE] 28)) = w7 at *
    by_cases h2 : bs.length < lx
    · have h2' : decide ((bs.length : Int) < (lx : Int)) = true := decide_eq_true (by omega)
      have h2n : decide (bs.length < lx) = true := decide_eq_true h2
      have hpb : Hid (pb = (ex, [], [])) := by show _ = _; rw [hpB2.out, if_pos h2]
      clear h2
      have hMd : (fun W' : World => W' = w7.drew ∧ W'.cell? ⟨w.heap.size, 3, none⟩ = some (.slice pB bs.length cB)) w7.drew := ⟨rfl, b0.c3⟩
      refine region_late (S := (fun W' : World => W' = w7.drew ∧ W'.cell? ⟨w.heap.size, 3, none⟩ = some (.slice pB bs.length cB))) (fun n => n == 999) (by kernel_rfl) hMd (fun hHeld => ?_)
      clear hMd
      refine wpAnyL_take (i := 0) (oi := { dst := some 35, op := _, type := _, pos := _, after := _, guard := _ }) (v := ?v9) rfl (by kernel_rfl) (by kernel_rfl) (by kernel_rfl) (by kernel_rfl) (fun _ _ _ h => h) (Or.inl ⟨by kernel_rfl, ?y9⟩) hHeld ?r9
      case y9 =>
        intro w hSw
        try dsimp only at hSw
        try simp only [List.getElem_toArray, List.getElem_cons_zero, List.getElem_cons_succ]
        go_simp
        try with_reducible rfl
      try simp only [List.getElem_toArray, List.getElem_cons_zero, List.getElem_cons_succ, Act.put, List.setIfInBounds_toArray, List.set_cons_zero, List.set_cons_succ]
      refine wpAnyL_take (i := 2) (oi := { dst := some 37, op := _, type := _, pos := _, after := _, guard := _ }) (v := ?v10) rfl (by kernel_rfl) (by kernel_rfl) (by kernel_rfl) (by kernel_rfl) (fun _ _ _ h => h) (Or.inl ⟨by kernel_rfl, ?y10⟩) hHeld ?r10
      case y10 =>
        intro w hSw
        try dsimp only at hSw
        try simp only [List.getElem_toArray, List.getElem_cons_zero, List.getElem_cons_succ]
        go_simp
        try with_reducible rfl
      try simp only [List.getElem_toArray, List.getElem_cons_zero, List.getElem_cons_succ, Act.put, List.setIfInBounds_toArray, List.set_cons_zero, List.set_cons_succ]
      refine wpAnyL_take (i := 3) (oi := { dst := some 38, op := _, type := _, pos := _, after := _, guard := _ }) (v := ?v11) rfl (by kernel_rfl) (by kernel_rfl) (by kernel_rfl) (by kernel_rfl) (fun _ _ _ h => h) (Or.inl ⟨by kernel_rfl, ?y11⟩) hHeld ?r11
      case y11 =>
        intro w hSw
        try dsimp only at hSw
        try simp only [List.getElem_toArray, List.getElem_cons_zero, List.getElem_cons_succ]
        go_simp
        try with_reducible rfl
      try simp only [List.getElem_toArray, List.getElem_cons_zero, List.getElem_cons_succ, Act.put, List.setIfInBounds_toArray, List.set_cons_zero, List.set_cons_succ]
      refine wpAnyL_take (i := 4) (oi := { dst := some 39, op := _, type := _, pos := _, after := _, guard := _ }) (v := ?v12) rfl (by kernel_rfl) (by kernel_rfl) (by kernel_rfl) (by kernel_rfl) (fun _ _ _ h => h) (Or.inl ⟨by kernel_rfl, ?y12⟩) hHeld ?r12
      case y12 =>
        intro w hSw
        try dsimp only at hSw
        try simp only [List.getElem_toArray, List.getElem_cons_zero, List.getElem_cons_succ]
        go_simp
        try with_reducible rfl
      try simp only [List.getElem_toArray, List.getElem_cons_zero, List.getElem_cons_succ, Act.put, List.setIfInBounds_toArray, List.set_cons_zero, List.set_cons_succ]
      refine wpAnyL_take (i := 5) (oi := { dst := some 40, op := _, type := _, pos := _, after := _, guard := _ }) (v := ?v13) rfl (by kernel_rfl) (by kernel_rfl) (by kernel_rfl) (by kernel_rfl) (fun _ _ _ h => h) (Or.inl ⟨by kernel_rfl, ?y13⟩) hHeld ?r13
      case y13 =>
        intro w hSw
        try dsimp only at hSw
        try simp only [List.getElem_toArray, List.getElem_cons_zero, List.getElem_cons_succ]
        go_simp
        try with_reducible rfl
      try simp only [List.getElem_toArray, List.getElem_cons_zero, List.getElem_cons_succ, Act.put, List.setIfInBounds_toArray, List.set_cons_zero, List.set_cons_succ]
      refine wpAnyL_one (i := 1) (by kernel_rfl) rfl (fun K hK => ?_)
      try simp only [List.getElem_toArray, List.getElem_cons_zero, List.getElem_cons_succ]
      go_simp
      go_at_call 41
      refine (hlen.out _).mono ?_
      rintro e Wn1 ⟨rfl, rfl⟩
      have hnew := Lib.hid (hHeld)
      refine hK.out _ _ (fun _ => hnew.out) ?_
      have hHeld' := hnew.out
      clear hHeld hnew hK K
      have hHeld := hHeld'
      clear hHeld'
      try simp only [List.getElem_toArray, List.getElem_cons_zero, List.getElem_cons_succ, Act.put, List.setIfInBounds_toArray, List.set_cons_zero, List.set_cons_succ]
      refine wpAnyL_take (i := 6) (oi := { dst := some 41, op := _, type := _, pos := _, after := _, guard := _ }) (v := ?v14) rfl (by kernel_rfl) (by kernel_rfl) (by kernel_rfl) (by kernel_rfl) (fun _ _ _ h => h) (Or.inl ⟨by kernel_rfl, ?y14⟩) hHeld ?r14
      case y14 =>
        intro w hSw
        try dsimp only at hSw
        try simp only [List.getElem_toArray, List.getElem_cons_zero, List.getElem_cons_succ]
        go_simp
        try with_reducible rfl
      try simp only [List.getElem_toArray, List.getElem_cons_zero, List.getElem_cons_succ, Act.put, List.setIfInBounds_toArray, List.set_cons_zero, List.set_cons_succ]
      refine wpAnyL_take (i := 7) (oi := { dst := some 34, op := _, type := _, pos := _, after := _, guard := _ }) (v := ?v15) rfl (by kernel_rfl) (by kernel_rfl) (by kernel_rfl) (by kernel_rfl) (fun _ _ _ h => h) (Or.inl ⟨by kernel_rfl, ?y15⟩) hHeld ?r15
      case y15 =>
        intro w hSw
        try dsimp only at hSw
        try simp only [List.getElem_toArray, List.getElem_cons_zero, List.getElem_cons_succ]
        go_simp
        try with_reducible rfl
      try simp only [List.getElem_toArray, List.getElem_cons_zero, List.getElem_cons_succ, Act.put, List.setIfInBounds_toArray, List.set_cons_zero, List.set_cons_succ]
      refine wpAnyL_done (by kernel_rfl) (OnlyN.normal ?_) _
      obtain ⟨-, hc3⟩ := hHeld
      clear hby hlen
      go_wp2
      have hMd : (fun W' : World => W'.cell? ⟨w.heap.size + 1 + 1 + 1 + 1 + 1, 0, none⟩ = some (.slice none 0 0) ∧ W'.cell? ⟨w.heap.size, 2, none⟩ = some (.slice pE ex.length cE)) w7.drew.drew := ⟨r5.cell, b0.c2⟩
      have f1 := r1.frozen; have f2 := r2.frozen; have f3 := r3.frozen
      have c1 := r1.cell; have c2 := r2.cell; have c3 := r3.cell
      have hS := Lib.hid (RBox.set3 (W := w7) (s := w.heap.size + 1) r1 r2 r3 (.slice pE ex.length cE) (.slice none 0 0) (.slice none 0 0))
      have hE7 := Lib.hid (hE.later hB7)
      have hBf := Lib.hid (((hB7.setCell (p := ⟨w.heap.size + 1, 0, none⟩) (by simp) (.slice pE ex.length cE)).setCell (p := ⟨w.heap.size + 1 + 1, 0, none⟩) (by simp; omega) (.slice none 0 0)).setCell (p := ⟨w.heap.size + 1 + 1 + 1, 0, none⟩) (by simp; omega) (.slice none 0 0)).drew.drew
      clear r1 r2 r3 r4 r5 r6 b0 hB7 hxs' hm' hE hB hT hsb hsl hlo hhi hrb hsx hl64 hn' hpB xs hpB2 hX64' hXi' hby'
      refine region_late (S := (fun W' : World => W'.cell? ⟨w.heap.size + 1 + 1 + 1 + 1 + 1, 0, none⟩ = some (.slice none 0 0) ∧ W'.cell? ⟨w.heap.size, 2, none⟩ = some (.slice pE ex.length cE))) (fun n => n == 999) (by kernel_rfl) hMd (fun hHeld => ?_)
      clear hMd
      refine wpAnyL_take (i := 0) (oi := { dst := some 42, op := _, type := _, pos := _, after := _, guard := _ }) (v := ?v16) rfl (by kernel_rfl) (by kernel_rfl) (by kernel_rfl) (by kernel_rfl) (fun _ _ _ h => h) (Or.inl ⟨by kernel_rfl, ?y16⟩) hHeld ?r16
      case y16 =>
        intro w hSw
        try dsimp only at hSw
        try simp only [List.getElem_toArray, List.getElem_cons_zero, List.getElem_cons_succ]
        go_simp
        try with_reducible rfl
      try simp only [List.getElem_toArray, List.getElem_cons_zero, List.getElem_cons_succ, Act.put, List.setIfInBounds_toArray, List.set_cons_zero, List.set_cons_succ]
      refine wpAnyL_take (i := 1) (oi := { dst := some 43, op := _, type := _, pos := _, after := _, guard := _ }) (v := ?v17) rfl (by kernel_rfl) (by kernel_rfl) (by kernel_rfl) (by kernel_rfl) (fun _ _ _ h => h) (Or.inl ⟨by kernel_rfl, ?y17⟩) hHeld ?r17
      case y17 =>
        intro w hSw
        try dsimp only at hSw
        try simp only [List.getElem_toArray, List.getElem_cons_zero, List.getElem_cons_succ]
        go_simp
        try with_reducible rfl
      try simp only [List.getElem_toArray, List.getElem_cons_zero, List.getElem_cons_succ, Act.put, List.setIfInBounds_toArray, List.set_cons_zero, List.set_cons_succ]
      refine wpAnyL_take (i := 2) (oi := { dst := some 44, op := _, type := _, pos := _, after := _, guard := _ }) (v := ?v18) rfl (by kernel_rfl) (by kernel_rfl) (by kernel_rfl) (by kernel_rfl) (fun _ _ _ h => h) (Or.inl ⟨by kernel_rfl, ?y18⟩) hHeld ?r18
      case y18 =>
        intro w hSw
        try dsimp only at hSw
        try simp only [List.getElem_toArray, List.getElem_cons_zero, List.getElem_cons_succ]
        go_simp
        try with_reducible rfl
      try simp only [List.getElem_toArray, List.getElem_cons_zero, List.getElem_cons_succ, Act.put, List.setIfInBounds_toArray, List.set_cons_zero, List.set_cons_succ]
      refine wpAnyL_take (i := 3) (oi := { dst := some 45, op := _, type := _, pos := _, after := _, guard := _ }) (v := ?v19) rfl (by kernel_rfl) (by kernel_rfl) (by kernel_rfl) (by kernel_rfl) (fun _ _ _ h => h) (Or.inl ⟨by kernel_rfl, ?y19⟩) hHeld ?r19
      case y19 =>
        intro w hSw
        try dsimp only at hSw
        try simp only [List.getElem_toArray, List.getElem_cons_zero, List.getElem_cons_succ]
        go_simp
        try with_reducible rfl
      try simp only [List.getElem_toArray, List.getElem_cons_zero, List.getElem_cons_succ, Act.put, List.setIfInBounds_toArray, List.set_cons_zero, List.set_cons_succ]
      refine wpAnyL_take (i := 4) (oi := { dst := some 46, op := _, type := _, pos := _, after := _, guard := _ }) (v := ?v20) rfl (by kernel_rfl) (by kernel_rfl) (by kernel_rfl) (by kernel_rfl) (fun _ _ _ h => h) (Or.inl ⟨by kernel_rfl, ?y20⟩) hHeld ?r20
      case y20 =>
        intro w hSw
        try dsimp only at hSw
        try simp only [List.getElem_toArray, List.getElem_cons_zero, List.getElem_cons_succ]
        go_simp
        try with_reducible rfl
      try simp only [List.getElem_toArray, List.getElem_cons_zero, List.getElem_cons_succ, Act.put, List.setIfInBounds_toArray, List.set_cons_zero, List.set_cons_succ]
      refine wpAnyL_one (i := 5) (by kernel_rfl) rfl (fun K hK => ?_)
      try simp only [List.getElem_toArray, List.getElem_cons_zero, List.getElem_cons_succ]
      go_simp
      refine (fun (hnew : (fun W' : World => W'.cell? ⟨w.heap.size + 1 + 1 + 1 + 1 + 1, 0, none⟩ = some (.slice none 0 0) ∧ W'.cell? ⟨w.heap.size, 2, none⟩ = some (.slice pE ex.length cE)) _) => hK.out _ _ (fun _ => hnew) ?_) ?keep21
      case keep21 => exact (⟨by simpa [go_sem] using hHeld.1, by simpa [go_sem] using hHeld.2⟩)
      have hHeld' := hnew
      dsimp only at hHeld'
      clear hHeld hnew hK K
      have hHeld := hHeld'
      clear hHeld'
      try simp only [List.getElem_toArray, List.getElem_cons_zero, List.getElem_cons_succ, Act.put, List.setIfInBounds_toArray, List.set_cons_zero, List.set_cons_succ]
      refine wpAnyL_one (i := 6) (by kernel_rfl) rfl (fun K hK => ?_)
      try simp only [List.getElem_toArray, List.getElem_cons_zero, List.getElem_cons_succ]
      go_simp
      refine (fun (hnew : (fun W' : World => W'.cell? ⟨w.heap.size + 1 + 1 + 1 + 1 + 1, 0, none⟩ = some (.slice none 0 0) ∧ W'.cell? ⟨w.heap.size, 2, none⟩ = some (.slice pE ex.length cE)) _) => hK.out _ _ (fun _ => hnew) ?_) ?keep22
      case keep22 => exact (⟨by simpa [go_sem] using hHeld.1, by simpa [go_sem] using hHeld.2⟩)
      have hHeld' := hnew
      dsimp only at hHeld'
      clear hHeld hnew hK K
      have hHeld := hHeld'
      clear hHeld'
      try simp only [List.getElem_toArray, List.getElem_cons_zero, List.getElem_cons_succ, Act.put, List.setIfInBounds_toArray, List.set_cons_zero, List.set_cons_succ]
      refine wpAnyL_one (i := 7) (by kernel_rfl) rfl (fun K hK => ?_)
      try simp only [List.getElem_toArray, List.getElem_cons_zero, List.getElem_cons_succ]
      go_simp
      refine (fun (hnew : (fun W' : World => W'.cell? ⟨w.heap.size + 1 + 1 + 1 + 1 + 1, 0, none⟩ = some (.slice none 0 0) ∧ W'.cell? ⟨w.heap.size, 2, none⟩ = some (.slice pE ex.length cE)) _) => hK.out _ _ (fun _ => hnew) ?_) ?keep23
      case keep23 => exact (⟨by simpa [go_sem] using hHeld.1, by simpa [go_sem] using hHeld.2⟩)
      have hHeld' := hnew
      dsimp only at hHeld'
      clear hHeld hnew hK K
      have hHeld := hHeld'
      clear hHeld'
      try simp only [List.getElem_toArray, List.getElem_cons_zero, List.getElem_cons_succ, Act.put, List.setIfInBounds_toArray, List.set_cons_zero, List.set_cons_succ]
      refine wpAnyL_done (by kernel_rfl) (OnlyN.normal ?_) _
      clear f1 c1 f2 c2 f3 c3 hHeld hc3
      obtain ⟨q1, q2, q3, q4⟩ := hS.out
      have d1 := q1.cell; have d2 := q2.cell; have d3 := q3.cell
      go_wp2
      refine postM_ret (.tuple #[.agg #[.slice pE ex.length cE], .agg #[.slice none 0 0], .agg #[.slice none 0 0]]) ?_ ⟨_, _, _, rfl, ?_⟩
      · simp [results, Tryd.results95, go_sem, d1, d2, d3]
      · rw [hpb.out]
        exact ⟨q4 _ _ hE7.out, HC.nil _ _ _, HC.nil _ _ _, hBf.out⟩
    · have h2' : decide ((bs.length : Int) < (lx : Int)) = false := decide_eq_false (by omega)
      have h2n : decide (bs.length < lx) = false := decide_eq_false h2
      have hpb : Hid (pb = partF (digD bs X) ([], ex, [])) := by show _ = _; rw [hpB2.out, if_neg h2]
      have a0 := b0.c0; have a1 := b0.c1; have a2 := b0.c2; have a3 := b0.c3
      clear h2 hpB2 hpB
      have hMd : (fun W' : World => W' = w7.drew ∧ W'.cell? ⟨w.heap.size, 3, none⟩ = some (.slice pB bs.length cB)) w7.drew := ⟨rfl, b0.c3⟩
      refine region_late (S := (fun W' : World => W' = w7.drew ∧ W'.cell? ⟨w.heap.size, 3, none⟩ = some (.slice pB bs.length cB))) (fun n => n == 999) (by kernel_rfl) hMd (fun hHeld => ?_)
      clear hMd
      refine wpAnyL_take (i := 0) (oi := { dst := some 35, op := _, type := _, pos := _, after := _, guard := _ }) (v := ?v24) rfl (by kernel_rfl) (by kernel_rfl) (by kernel_rfl) (by kernel_rfl) (fun _ _ _ h => h) (Or.inl ⟨by kernel_rfl, ?y24⟩) hHeld ?r24
      case y24 =>
        intro w hSw
        try dsimp only at hSw
        try simp only [List.getElem_toArray, List.getElem_cons_zero, List.getElem_cons_succ]
        go_simp
        try with_reducible rfl
      try simp only [List.getElem_toArray, List.getElem_cons_zero, List.getElem_cons_succ, Act.put, List.setIfInBounds_toArray, List.set_cons_zero, List.set_cons_succ]
      refine wpAnyL_take (i := 2) (oi := { dst := some 37, op := _, type := _, pos := _, after := _, guard := _ }) (v := ?v25) rfl (by kernel_rfl) (by kernel_rfl) (by kernel_rfl) (by kernel_rfl) (fun _ _ _ h => h) (Or.inl ⟨by kernel_rfl, ?y25⟩) hHeld ?r25
      case y25 =>
        intro w hSw
        try dsimp only at hSw
        try simp only [List.getElem_toArray, List.getElem_cons_zero, List.getElem_cons_succ]
        go_simp
        try with_reducible rfl
      try simp only [List.getElem_toArray, List.getElem_cons_zero, List.getElem_cons_succ, Act.put, List.setIfInBounds_toArray, List.set_cons_zero, List.set_cons_succ]
      refine wpAnyL_take (i := 3) (oi := { dst := some 38, op := _, type := _, pos := _, after := _, guard := _ }) (v := ?v26) rfl (by kernel_rfl) (by kernel_rfl) (by kernel_rfl) (by kernel_rfl) (fun _ _ _ h => h) (Or.inl ⟨by kernel_rfl, ?y26⟩) hHeld ?r26
      case y26 =>
        intro w hSw
        try dsimp only at hSw
        try simp only [List.getElem_toArray, List.getElem_cons_zero, List.getElem_cons_succ]
        go_simp
        try with_reducible rfl
      try simp only [List.getElem_toArray, List.getElem_cons_zero, List.getElem_cons_succ, Act.put, List.setIfInBounds_toArray, List.set_cons_zero, List.set_cons_succ]
      refine wpAnyL_take (i := 4) (oi := { dst := some 39, op := _, type := _, pos := _, after := _, guard := _ }) (v := ?v27) rfl (by kernel_rfl) (by kernel_rfl) (by kernel_rfl) (by kernel_rfl) (fun _ _ _ h => h) (Or.inl ⟨by kernel_rfl, ?y27⟩) hHeld ?r27
      case y27 =>
        intro w hSw
        try dsimp only at hSw
        try simp only [List.getElem_toArray, List.getElem_cons_zero, List.getElem_cons_succ]
        go_simp
        try with_reducible rfl
      try simp only [List.getElem_toArray, List.getElem_cons_zero, List.getElem_cons_succ, Act.put, List.setIfInBounds_toArray, List.set_cons_zero, List.set_cons_succ]
      refine wpAnyL_take (i := 5) (oi := { dst := some 40, op := _, type := _, pos := _, after := _, guard := _ }) (v := ?v28) rfl (by kernel_rfl) (by kernel_rfl) (by kernel_rfl) (by kernel_rfl) (fun _ _ _ h => h) (Or.inl ⟨by kernel_rfl, ?y28⟩) hHeld ?r28
      case y28 =>
        intro w hSw
        try dsimp only at hSw
        try simp only [List.getElem_toArray, List.getElem_cons_zero, List.getElem_cons_succ]
        go_simp
        try with_reducible rfl
      try simp only [List.getElem_toArray, List.getElem_cons_zero, List.getElem_cons_succ, Act.put, List.setIfInBounds_toArray, List.set_cons_zero, List.set_cons_succ]
      refine wpAnyL_one (i := 1) (by kernel_rfl) rfl (fun K hK => ?_)
      try simp only [List.getElem_toArray, List.getElem_cons_zero, List.getElem_cons_succ]
      go_simp
      go_at_call 41
      refine (hlen.out _).mono ?_
      rintro e Wn1 ⟨rfl, rfl⟩
      have hnew := Lib.hid (hHeld)
      refine hK.out _ _ (fun _ => hnew.out) ?_
      have hHeld' := hnew.out
      clear hHeld hnew hK K
      have hHeld := hHeld'
      clear hHeld'
      try simp only [List.getElem_toArray, List.getElem_cons_zero, List.getElem_cons_succ, Act.put, List.setIfInBounds_toArray, List.set_cons_zero, List.set_cons_succ]
      refine wpAnyL_take (i := 6) (oi := { dst := some 41, op := _, type := _, pos := _, after := _, guard := _ }) (v := ?v29) rfl (by kernel_rfl) (by kernel_rfl) (by kernel_rfl) (by kernel_rfl) (fun _ _ _ h => h) (Or.inl ⟨by kernel_rfl, ?y29⟩) hHeld ?r29
      case y29 =>
        intro w hSw
        try dsimp only at hSw
        try simp only [List.getElem_toArray, List.getElem_cons_zero, List.getElem_cons_succ]
        go_simp
        try with_reducible rfl
      try simp only [List.getElem_toArray, List.getElem_cons_zero, List.getElem_cons_succ, Act.put, List.setIfInBounds_toArray, List.set_cons_zero, List.set_cons_succ]
      refine wpAnyL_take (i := 7) (oi := { dst := some 34, op := _, type := _, pos := _, after := _, guard := _ }) (v := ?v30) rfl (by kernel_rfl) (by kernel_rfl) (by kernel_rfl) (by kernel_rfl) (fun _ _ _ h => h) (Or.inl ⟨by kernel_rfl, ?y30⟩) hHeld ?r30
      case y30 =>
        intro w hSw
        try dsimp only at hSw
        try simp only [List.getElem_toArray, List.getElem_cons_zero, List.getElem_cons_succ]
        go_simp
        try with_reducible rfl
      try simp only [List.getElem_toArray, List.getElem_cons_zero, List.getElem_cons_succ, Act.put, List.setIfInBounds_toArray, List.set_cons_zero, List.set_cons_succ]
      refine wpAnyL_done (by kernel_rfl) (OnlyN.normal ?_) _
      obtain ⟨-, hc3⟩ := hHeld
      clear hby hlen
      go_wp2
      refine wp_label ?_
      go_wp2_with (go_at_call 93; refine ((callsIn_wide (n := 9)).1 (digits_in 9 N least (.slice pE ex.length cE) (.slice pB bs.length cB) X w7.drew)).mono ?_; rintro e w' ⟨rfl, rfl⟩)
      have rL := (SBox.new w7 83 N least (.slice pE ex.length cE) (.slice pB bs.length cB)).alloc (.cells #[.int .u64 X] 41)
      have r9 := UBox.new (w7.alloc (.cells #[.int .i64 N, .int .i64 least, .slice pE ex.length cE, .slice pB bs.length cB] 83)) X
      have h9 : Below w7.heap.size w7 ((w7.alloc (.cells #[.int .i64 N, .int .i64 least, .slice pE ex.length cE, .slice pB bs.length cB] 83)).alloc (.cells #[.int .u64 X] 41)) := ((Below.refl w7.heap.size w7).alloc (Nat.le_refl _) _).alloc (by simp) _
      have z9 : ((w7.alloc (.cells #[.int .i64 N, .int .i64 least, .slice pE ex.length cE, .slice pB bs.length cB] 83)).alloc (.cells #[.int .u64 X] 41)).heap.size = w.heap.size + 1 + 1 + 1 + 1 + 1 + 1 + 1 + 1 + 1 := by simp; omega
      simp only [World.size_alloc] at r9
      rw [hz7] at rL r9
      have pb0 : PB (w.heap.size + 1) w7 (.slice none 0 0) (.slice pE ex.length cE) (.slice none 0 0) ([], ex, []) := ⟨r1, r2, r3, r4, r5, r6, HC.nil _ _ _, hE.later hB7, HC.nil _ _ _⟩
      have pb9 := pb0.later h9
      have hB9 := (hB7.trans (h9.mono hB7.size)).drew
      have z9' : (((w7.alloc (.cells #[.int .i64 N, .int .i64 least, .slice pE ex.length cE, .slice pB bs.length cB] 83)).alloc (.cells #[.int .u64 X] 41)).drew).heap.size = w.heap.size + 1 + 1 + 1 + 1 + 1 + 1 + 1 + 1 + 1 := z9
      have hT9 := hT.below hB9 hT.lt
      have pb9' : PB (w.heap.size + 1) ((w7.alloc (.cells #[.int .i64 N, .int .i64 least, .slice pE ex.length cE, .slice pB bs.length cB] 83)).alloc (.cells #[.int .u64 X] 41)).drew (.slice none 0 0) (.slice pE ex.length cE) (.slice none 0 0) ([], ex, []) := pb9.later (Below.refl _ _).drew
      have rL' : SBox ((w7.alloc (.cells #[.int .i64 N, .int .i64 least, .slice pE ex.length cE, .slice pB bs.length cB] 83)).alloc (.cells #[.int .u64 X] 41)).drew 83 (w.heap.size + 1 + 1 + 1 + 1 + 1 + 1 + 1) N least (.slice pE ex.length cE) (.slice pB bs.length cB) := rL
      have r9' : UBox ((w7.alloc (.cells #[.int .i64 N, .int .i64 least, .slice pE ex.length cE, .slice pB bs.length cB] 83)).alloc (.cells #[.int .u64 X] 41)).drew (w.heap.size + 1 + 1 + 1 + 1 + 1 + 1 + 1 + 1) X := r9
      clear r1 r2 r3 r4 r5 r6 rL r9 pb0 pb9 h9 z9 a0 a1 a2 a3 hc3 b0 hz7
      generalize ((w7.alloc (.cells #[.int .i64 N, .int .i64 least, .slice pE ex.length cE, .slice pB bs.length cB] 83)).alloc (.cells #[.int .u64 X] 41)).drew = w9 at *
      have hm := hm'.out
      have hxs := hxs'.out
      have hX64 := hX64'.out
      refine (wpIn_wide (n := 9)).1 ?_
      refine wpIn_rangeFunc_ownH rfl (by omega) (gf := 110) (lb := #[.pointer (some ⟨w.heap.size + 1 + 1 + 1 + 1 + 1 + 1 + 1, 0, none⟩), .pointer (some ⟨w.heap.size + 1 + 1 + 1 + 1 + 1 + 1 + 1 + 1, 0, none⟩)]) rfl trivial (enters_of Tryd.func110 (by kernel_rfl) rfl)
        (digits_stops _ (by omega) (w.heap.size + 1 + 1 + 1 + 1 + 1 + 1 + 1) (w.heap.size + 1 + 1 + 1 + 1 + 1 + 1 + 1 + 1) w.heap.size (N := N) (least := least) (vE := .slice pE ex.length cE) (vB := .slice pB bs.length cB) (bits := bs) w w9 xs X hX64 hl64 hxs rL' r9'.cell r9'.lt (by omega) ⟨_, _, rfl⟩
          (fun j hj => by obtain ⟨b, off, h1, h2, h3⟩ := hm j hj; exact ⟨b, off, h1, h2, (hB9.cell (p := ⟨b, _, none⟩) h2).trans h3⟩))
        (fun h k => KeepB.trans h k) (keepB_b (by omega) (by rintro b (rfl | rfl) <;> omega)) (Below.refl _ _) (fun _ => rfl)
        (PW false ([], ex, [])) (fun c pre W => c = .exit 1 ∧ PW true ([], ex, []) pre W) (PW.own (by omega)) (fun c pre W W' row h hg hr => ⟨h.1, PW.own (by omega) pre W W' row h.2 hg hr⟩)
        ⟨_, _, _, _, pb9', ⟨rfl, hrx, rfl⟩, hB9, by omega, fun rest => rfl⟩
        (fun y a' W => ∃ b, RBox W b y.1.2.1 ∧ w.heap.size + 9 ≤ b ∧ a' = { tmps := #[.agg #[.int .i64 N, .int .i64 least, .slice pE ex.length cE, .slice pB bs.length cB], .int .i64 n, .pointer (some ⟨w.heap.size, 0, none⟩), undef, .pointer (some ⟨w.heap.size + 1, 0, none⟩), .pointer (some ⟨w.heap.size + 1 + 1, 0, none⟩), .pointer (some ⟨w.heap.size + 1 + 1 + 1, 0, none⟩), .pointer (some ⟨w.heap.size + 1 + 1 + 1 + 1, 0, none⟩), .pointer (some ⟨w.heap.size + 1 + 1 + 1 + 1 + 1, 0, none⟩), .pointer (some ⟨w.heap.size + 1 + 1 + 1 + 1 + 1 + 1, 0, none⟩), .int .u64 (X : Int), .bool y.1.1, .pointer (some ⟨b, 0, none⟩), .pointer (some ⟨w.heap.size, 0, none⟩), .pointer (some ⟨w.heap.size, 2, none⟩), .agg #[.slice pE ex.length cE], .int .i64 n, .int .u64 (IntKind.u64.wrap n), .pointer (some ⟨w.heap.size, 0, none⟩), .pointer (some ⟨w.heap.size, 1, none⟩), .int .i64 least, .int .u64 (IntKind.u64.wrap least), .int .u64 (X : Int), .bool false, .int .i64 n, .pointer (some ⟨w.heap.size, 0, none⟩), .pointer (some ⟨w.heap.size, 1, none⟩), .int .i64 least, .bool false, undef, undef, undef, undef, undef, .bool false, .int .u64 (X : Int), .int .i64 (lx : Int), .pointer (some ⟨w.heap.size, 0, none⟩), .pointer (some ⟨w.heap.size, 3, none⟩), .slice pB bs.length cB, .int .i64 (bs.length : Int), .bool false, undef, undef, undef, undef, undef, .agg #[.int .i64 N, .int .i64 least, .slice pE ex.length cE, .slice pB bs.length cB], .int .u64 (X : Int), .func (.func 110) #[] #[.pointer (some ⟨w.heap.size + 1 + 1 + 1 + 1 + 1 + 1 + 1, 0, none⟩), .pointer (some ⟨w.heap.size + 1 + 1 + 1 + 1 + 1 + 1 + 1 + 1, 0, none⟩)], .bool y.1.1, .agg #[y.1.2.1], undef, undef, undef, undef, undef, undef, undef, undef, undef, undef, undef, undef, undef, undef, undef, undef, undef, undef, undef, undef, undef, undef, undef, undef, undef, undef], defers := [] })
        (fun y a' _ W W' row ⟨b, h1, h2, h3⟩ hg hr => ⟨b, h1.own hg (fun r e => (hr r e).2), h2, h3⟩) ?assign ?body ?done ?stop
      case assign =>
        rintro l pre ⟨⟨bb, u, lb⟩, hu, hrb⟩ W K hI hK
        dsimp only at hu hrb
        obtain ⟨p, c, rfl, -, -⟩ := Hid.out hu
        have hsz : w.heap.size + 9 ≤ W.heap.size := by obtain ⟨_, _, _, _, _, _, _, h, _⟩ := hI; exact h
        have hbl : Below W.heap.size W (W.alloc (.cells #[.slice p lb.length c] 28)) := (Below.refl _ W).alloc (Nat.le_refl _) _
        gi_wp2
        exact hK _ _ (keepsFrom_below hbl) (keepB_below hbl (by omega) (by rintro b (rfl | rfl) <;> omega)) (hI.later hbl) ⟨_, RBox.new W _, hsz, rfl⟩
      case body =>
        rintro l pre ⟨⟨bb, u, lb⟩, hu, hrb⟩ a' W hl - hI ⟨b, hb, hb9, rfl⟩ hlt
        have hst := fun p0 p h => step_eq (w := w) (p0 := p0) (p := p) (pre := pre) ⟨(bb, u, lb), hu, hrb⟩ h
        dsimp only at hu hrb hb hst ⊢
        obtain ⟨v1, v2, v3, p, hP, hR, hBW, hsz, he⟩ := hI
        have hst' := Lib.hid (hst _ _ (fun rest => he rest))
        obtain ⟨pu, cu, rfl, -, -⟩ := Hid.out hu
        obtain ⟨q1, c1, rfl, -, -⟩ := Hid.out hP.h1
        obtain ⟨q2, c2, rfl, -, -⟩ := Hid.out hP.h2
        obtain ⟨q3, c3, rfl, -, -⟩ := Hid.out hP.h3
        have huW := hu.later hBW
        have hTW := hT.below hBW hT.lt
        have hRs := Lib.hid (stepP_right (one := bb) hR hrb)
        have hwr := (wi_some hR.2.1 hrb).2.1
        have har := (and_some hR.2.1 hrb).2.1
        clear hst he hpb hm hxs hX64 hm' hxs' hX64' hXi' hby' hn' hlo hhi hsb hsl hsx hrx hl64 hE hB hB7 hB9 hT9 pb9' rL' r9' hlt
        cases bb with
        | true =>
          gi_wp2
          have hMd : (fun W' : World => Hid (Below W.heap.size W W') ∧ W'.cell? ⟨w.heap.size + 1 + 1 + 1 + 1, 0, none⟩ = some (.slice q1 p.1.length c1) ∧ W'.cell? ⟨w.heap.size + 1 + 1 + 1 + 1 + 1, 0, none⟩ = some (.slice q3 p.2.2.length c3) ∧ W'.cell? ⟨w.heap.size + 1 + 1 + 1 + 1 + 1 + 1, 0, none⟩ = some (.slice q2 p.2.1.length c2) ∧ W'.cell? ⟨b, 0, none⟩ = some (.slice pu lb.length cu)) W.drew := ⟨Lib.hid (Below.refl _ W).drew, hP.b1.cell, hP.b3.cell, hP.b2.cell, hb.cell⟩
          have kw : Hid (∀ W', Below W.heap.size W W' → Calls Tryd.prog 94 #[.agg #[.slice q2 p.2.1.length c2], .agg #[.slice pu lb.length cu]] W' fun e W'' => ∃ v', e = .returned (.agg #[v']) ∧ HC W'' v' (wiL p.2.1 lb) ∧ Below W'.heap.size W' W'') := fun W' h => without_any (hP.h2.later h) (huW.later h) (small_right hR.2.1) (small_right hrb) (hTW.below h hTW.lt)
          have ka : Hid (∀ W' v, Below W.heap.size W W' → HR W' v [lb] → Calls Tryd.prog 49 #[.agg #[.slice q2 p.2.1.length c2], v] W' fun e W'' => ∃ v', e = .returned (.agg #[v']) ∧ HC W'' v' (andL p.2.1 lb) ∧ Below W'.heap.size W' W'') := fun W' v h hv => and_any (hP.h2.later h) hv (small_right hR.2.1) (small_right hrb) (hTW.below h hTW.lt)
          have ko : Hid (∀ W' v, Below W.heap.size W W' → HC W' v (wiL p.2.1 lb) → Calls Tryd.prog 69 #[.agg #[.slice q1 p.1.length c1], .agg #[v]] W' fun e W'' => ∃ v', e = .returned (.agg #[v']) ∧ HC W'' v' (orL p.1 (wiL p.2.1 lb)) ∧ Below W'.heap.size W' W'') := fun W' v h hv => or_any (hP.h1.later h) hv (small_right hR.1) (small_right hwr) (hTW.below h hTW.lt)
          have huH := Lib.hid huW
          have hPH := Lib.hid hP
          have hbH := Lib.hid hb
          have hsz' := Lib.hid hsz
          have hBW' := Lib.hid hBW
          clear hTW hP hb huW hsz hBW hwr har hR
          refine region_lateIn (S := (fun W' : World => Hid (Below W.heap.size W W') ∧ W'.cell? ⟨w.heap.size + 1 + 1 + 1 + 1, 0, none⟩ = some (.slice q1 p.1.length c1) ∧ W'.cell? ⟨w.heap.size + 1 + 1 + 1 + 1 + 1, 0, none⟩ = some (.slice q3 p.2.2.length c3) ∧ W'.cell? ⟨w.heap.size + 1 + 1 + 1 + 1 + 1 + 1, 0, none⟩ = some (.slice q2 p.2.1.length c2) ∧ W'.cell? ⟨b, 0, none⟩ = some (.slice pu lb.length cu))) (fun n => n == 9 || n == 10) (by kernel_rfl) (by kernel_rfl) hMd (fun hHeld => ?_)
          clear hMd
          generalize World.drew W = Wd at *
          refine wpAnyL_take (i := 0) (oi := { dst := some 53, op := _, type := _, pos := _, after := _, guard := _ }) (v := ?v31) rfl (by kernel_rfl) (by kernel_rfl) (by kernel_rfl) (by kernel_rfl) (fun _ _ _ h => h) (Or.inl ⟨by kernel_rfl, ?y31⟩) hHeld ?r31
          case y31 =>
            intro w hSw
            try dsimp only at hSw
            try simp only [List.getElem_toArray, List.getElem_cons_zero, List.getElem_cons_succ]
            go_simp
            try with_reducible rfl
          try simp only [List.getElem_toArray, List.getElem_cons_zero, List.getElem_cons_succ, Act.put, List.setIfInBounds_toArray, List.set_cons_zero, List.set_cons_succ]
          refine wpAnyL_take (i := 1) (oi := { dst := some 54, op := _, type := _, pos := _, after := _, guard := _ }) (v := ?v32) rfl (by kernel_rfl) (by kernel_rfl) (by kernel_rfl) (by kernel_rfl) (fun _ _ _ h => h) (Or.inl ⟨by kernel_rfl, ?y32⟩) hHeld ?r32
          case y32 =>
            intro w hSw
            try dsimp only at hSw
            try simp only [List.getElem_toArray, List.getElem_cons_zero, List.getElem_cons_succ]
            go_simp
            try with_reducible rfl
          try simp only [List.getElem_toArray, List.getElem_cons_zero, List.getElem_cons_succ, Act.put, List.setIfInBounds_toArray, List.set_cons_zero, List.set_cons_succ]
          refine wpAnyL_take (i := 2) (oi := { dst := some 55, op := _, type := _, pos := _, after := _, guard := _ }) (v := ?v33) rfl (by kernel_rfl) (by kernel_rfl) (by kernel_rfl) (by kernel_rfl) (fun _ _ _ h => h) (Or.inl ⟨by kernel_rfl, ?y33⟩) hHeld ?r33
          case y33 =>
            intro w hSw
            try dsimp only at hSw
            try simp only [List.getElem_toArray, List.getElem_cons_zero, List.getElem_cons_succ]
            go_simp
            try with_reducible rfl
          try simp only [List.getElem_toArray, List.getElem_cons_zero, List.getElem_cons_succ, Act.put, List.setIfInBounds_toArray, List.set_cons_zero, List.set_cons_succ]
          refine wpAnyL_take (i := 5) (oi := { dst := some 58, op := _, type := _, pos := _, after := _, guard := _ }) (v := ?v34) rfl (by kernel_rfl) (by kernel_rfl) (by kernel_rfl) (by kernel_rfl) (fun _ _ _ h => h) (Or.inl ⟨by kernel_rfl, ?y34⟩) hHeld ?r34
          case y34 =>
            intro w hSw
            try dsimp only at hSw
            try simp only [List.getElem_toArray, List.getElem_cons_zero, List.getElem_cons_succ]
            go_simp
            try with_reducible rfl
          try simp only [List.getElem_toArray, List.getElem_cons_zero, List.getElem_cons_succ, Act.put, List.setIfInBounds_toArray, List.set_cons_zero, List.set_cons_succ]
          refine wpAnyL_take (i := 6) (oi := { dst := some 59, op := _, type := _, pos := _, after := _, guard := _ }) (v := ?v35) rfl (by kernel_rfl) (by kernel_rfl) (by kernel_rfl) (by kernel_rfl) (fun _ _ _ h => h) (Or.inl ⟨by kernel_rfl, ?y35⟩) hHeld ?r35
          case y35 =>
            intro w hSw
            try dsimp only at hSw
            try simp only [List.getElem_toArray, List.getElem_cons_zero, List.getElem_cons_succ]
            go_simp
            try with_reducible rfl
          try simp only [List.getElem_toArray, List.getElem_cons_zero, List.getElem_cons_succ, Act.put, List.setIfInBounds_toArray, List.set_cons_zero, List.set_cons_succ]
          refine wpAnyL_all (rs := [3, 7]) (by kernel_rfl) (by simp) ?_
          refine AllL.cons rfl (fun K hK => ?_) (AllL.cons rfl (fun K hK => ?_) AllL.nil)
          · try simp only [List.getElem_toArray, List.getElem_cons_zero, List.getElem_cons_succ]
            go_simp
            go_at_call 94
            refine (kw.out _ hHeld.1.out).mono ?_
            rintro e Wn3 ⟨vw, rfl, hvw, hbn⟩
            try replace hrow := RBox.later hrow hbn
            have hnew := Lib.hid (keep5 hbn hHeld)
            refine hK.out _ _ (fun _ => hnew.out) ?_
            have hHeld' := hnew.out
            clear hHeld hnew hK K hbn
            have hHeld := hHeld'
            clear hHeld'
            try simp only [List.getElem_toArray, List.getElem_cons_zero, List.getElem_cons_succ, Act.put, List.setIfInBounds_toArray, List.set_cons_zero, List.set_cons_succ]
            refine wpAnyL_all (rs := [4, 7]) (by kernel_rfl) (by simp) ?_
            refine AllL.cons rfl (fun K hK => ?_) (AllL.cons rfl (fun K hK => ?_) AllL.nil)
            · try simp only [List.getElem_toArray, List.getElem_cons_zero, List.getElem_cons_succ]
              go_simp
              go_at_call 69
              refine (ko.out _ _ hHeld.1.out hvw).mono ?_
              rintro e Wn4 ⟨vo, rfl, hvo, hbn⟩
              obtain ⟨po, co, rfl, -, -⟩ := Hid.out hvo
              try replace hrow := RBox.later hrow hbn
              have hnew := Lib.hid (keep5 hbn hHeld)
              refine hK.out _ _ (fun _ => hnew.out) ?_
              have hHeld' := hnew.out
              clear hHeld hnew hK K hbn
              have hHeld := hHeld'
              clear hHeld'
              try simp only [List.getElem_toArray, List.getElem_cons_zero, List.getElem_cons_succ, Act.put, List.setIfInBounds_toArray, List.set_cons_zero, List.set_cons_succ]
              refine wpAnyL_one (i := 7) (by kernel_rfl) rfl (fun K hK => ?_)
              try simp only [List.getElem_toArray, List.getElem_cons_zero, List.getElem_cons_succ]
              go_simp
              have hrow := row_new hHeld (.slice pu lb.length cu)
              try replace hvw := HC.alloc hvw (.cells #[.slice pu lb.length cu] 28)
              try replace hvo := HC.alloc hvo (.cells #[.slice pu lb.length cu] 28)
              refine (fun (hnew : (fun W' : World => Hid (Below W.heap.size W W') ∧ W'.cell? ⟨w.heap.size + 1 + 1 + 1 + 1, 0, none⟩ = some (.slice q1 p.1.length c1) ∧ W'.cell? ⟨w.heap.size + 1 + 1 + 1 + 1 + 1, 0, none⟩ = some (.slice q3 p.2.2.length c3) ∧ W'.cell? ⟨w.heap.size + 1 + 1 + 1 + 1 + 1 + 1, 0, none⟩ = some (.slice q2 p.2.1.length c2) ∧ W'.cell? ⟨b, 0, none⟩ = some (.slice pu lb.length cu)) _) => hK.out _ _ (fun _ => hnew) ?_) ?keep36
              case keep36 => exact (keep5a hHeld)
              have hHeld' := hnew
              dsimp only at hHeld'
              clear hHeld hnew hK K
              have hHeld := hHeld'
              clear hHeld'
              try simp only [List.getElem_toArray, List.getElem_cons_zero, List.getElem_cons_succ, Act.put, List.setIfInBounds_toArray, List.set_cons_zero, List.set_cons_succ]
              refine wpAnyL_one (i := 8) (by kernel_rfl) rfl (fun K hK => ?_)
              try simp only [List.getElem_toArray, List.getElem_cons_zero, List.getElem_cons_succ]
              go_simp
              go_at_call 49
              refine (ka.out _ _ hHeld.1.out (HR.one (huH.out.later hHeld.1.out) hrow)).mono ?_
              rintro e Wn8 ⟨va, rfl, hva, hbn⟩
              obtain ⟨pa, ca, rfl, -, -⟩ := Hid.out hva
              replace hvo := HC.later hvo hbn
              have hnew := Lib.hid (keep5 hbn hHeld)
              refine hK.out _ _ (fun _ => hnew.out) ?_
              have hHeld' := hnew.out
              clear hHeld hnew hK K hbn
              have hHeld := hHeld'
              clear hHeld'
              try simp only [List.getElem_toArray, List.getElem_cons_zero, List.getElem_cons_succ, Act.put, List.setIfInBounds_toArray, List.set_cons_zero, List.set_cons_succ]
              refine wpAnyL_one (i := 9) (by kernel_rfl) rfl (fun K hK => ?_)
              have hPk := Lib.hid (hPH.out.later hHeld.1.out)
              have f1 := hPk.out.b1.frozen
              have e1 := hPk.out.b1.cell
              have f2 := hPk.out.b2.frozen
              have e2 := hPk.out.b2.cell
              try simp only [List.getElem_toArray, List.getElem_cons_zero, List.getElem_cons_succ]
              go_simp
              refine hK.out _ _ (fun h => by cases h) ?_
              clear hK K
              try simp only [List.getElem_toArray, List.getElem_cons_zero, List.getElem_cons_succ, Act.put, List.setIfInBounds_toArray, List.set_cons_zero, List.set_cons_succ]
              refine wpAnyL_one (i := 10) (by kernel_rfl) rfl (fun K hK => ?_)
              try simp only [List.getElem_toArray, List.getElem_cons_zero, List.getElem_cons_succ]
              go_simp
              refine hK.out _ _ (fun h => by cases h) ?_
              clear hK K
              try simp only [List.getElem_toArray, List.getElem_cons_zero, List.getElem_cons_succ, Act.put, List.setIfInBounds_toArray, List.set_cons_zero, List.set_cons_succ]
              refine wpAnyL_done (by kernel_rfl) (OnlyN.normal ?_) _
              have hPn := Lib.hid (hPk.out.set1 hvo hva)
              have cS := hPn.out.b2.cell
              have kK := Lib.hid (((keepsFrom_below (B := w9.heap.size) hHeld.1.out).trans (keepsFrom_set (p := ⟨w.heap.size + 1 + 1 + 1 + 1, 0, none⟩) (by dsimp only; omega) (.slice po (orL p.1 (wiL p.2.1 lb)).length co))).trans (keepsFrom_set (p := ⟨w.heap.size + 1 + 1 + 1 + 1 + 1 + 1, 0, none⟩) (by dsimp only; omega) (.slice pa (andL p.2.1 lb).length ca)))
              have kB := Lib.hid (KeepB.trans (KeepB.trans (keepB_below (n₀ := w.heap.size) (S := fun b => b = w.heap.size + 1 + 1 + 1 + 1 + 1 + 1 + 1 ∨ b = w.heap.size + 1 + 1 + 1 + 1 + 1 + 1 + 1 + 1) hHeld.1.out hBW'.out.size (by have := hsz'.out; rintro b (rfl | rfl) <;> omega)) (keepB_set (p := ⟨w.heap.size + 1 + 1 + 1 + 1, 0, none⟩) (by dsimp only; omega) (by dsimp only; omega) (.slice po (orL p.1 (wiL p.2.1 lb)).length co))) (keepB_set (p := ⟨w.heap.size + 1 + 1 + 1 + 1 + 1 + 1, 0, none⟩) (by dsimp only; omega) (by dsimp only; omega) (.slice pa (andL p.2.1 lb).length ca)))
              have bW := Lib.hid (((hBW'.out.trans (hHeld.1.out.mono hBW'.out.size)).setCell (p := ⟨w.heap.size + 1 + 1 + 1 + 1, 0, none⟩) (by dsimp only; omega) (.slice po (orL p.1 (wiL p.2.1 lb)).length co)).setCell (p := ⟨w.heap.size + 1 + 1 + 1 + 1 + 1 + 1, 0, none⟩) (by dsimp only; omega) (.slice pa (andL p.2.1 lb).length ca))
              have sz : Hid (w.heap.size + 9 ≤ ((Wn8.setCell ⟨w.heap.size + 1 + 1 + 1 + 1, 0, none⟩ (.slice po (orL p.1 (wiL p.2.1 lb)).length co)).setCell ⟨w.heap.size + 1 + 1 + 1 + 1 + 1 + 1, 0, none⟩ (.slice pa (andL p.2.1 lb).length ca)).heap.size) := by
                have h1 := hHeld.1.out.size
                have h2 := hsz'.out
                show _ ≤ _
                simp only [World.size_setCell]
                omega
              have hst2 : Hid (∀ rest, partF (toD (pre ++ [⟨(true, .slice pu lb.length cu, lb), hu, hrb⟩]) ++ rest) ([], ex, []) = if andL p.2.1 lb = [] then (orL p.1 (wiL p.2.1 lb), andL p.2.1 lb, p.2.2) else partF rest (orL p.1 (wiL p.2.1 lb), andL p.2.1 lb, p.2.2)) := hst'.out
              generalize hla : (andL p.2.1 lb).length = la at *
              have hla' : Hid (la = 0 ↔ andL p.2.1 lb = []) := by
                show _ ↔ _
                rw [← hla, List.length_eq_zero_iff]
              clear hla hst' hPk f1 e1 f2 e2
              by_cases hz : la = 0
              · have hzi : ((la : Int) == 0) = true := by simpa using hz
                have he := hla'.out.1 hz
                clear hz
                gi_wp2
                exact ⟨kK.out, rfl, _, _, _, _, hPn.out, hRs.out, bW.out, sz.out, fun rest => by rw [hst2.out rest, if_pos he]; rfl⟩
              · have hzi : ((la : Int) == 0) = false := by simpa using hz
                have he : ¬ andL p.2.1 lb = [] := fun e => hz (hla'.out.2 e)
                clear hz
                gi_wp2
                exact ⟨kK.out, kB.out, _, _, _, _, hPn.out, hRs.out, bW.out, sz.out, fun rest => by rw [hst2.out rest, if_neg he]; rfl⟩
            · try simp only [List.getElem_toArray, List.getElem_cons_zero, List.getElem_cons_succ]
              go_simp
              have hrow := row_new hHeld (.slice pu lb.length cu)
              try replace hvw := HC.alloc hvw (.cells #[.slice pu lb.length cu] 28)
              try replace hvo := HC.alloc hvo (.cells #[.slice pu lb.length cu] 28)
              refine (fun (hnew : (fun W' : World => Hid (Below W.heap.size W W') ∧ W'.cell? ⟨w.heap.size + 1 + 1 + 1 + 1, 0, none⟩ = some (.slice q1 p.1.length c1) ∧ W'.cell? ⟨w.heap.size + 1 + 1 + 1 + 1 + 1, 0, none⟩ = some (.slice q3 p.2.2.length c3) ∧ W'.cell? ⟨w.heap.size + 1 + 1 + 1 + 1 + 1 + 1, 0, none⟩ = some (.slice q2 p.2.1.length c2) ∧ W'.cell? ⟨b, 0, none⟩ = some (.slice pu lb.length cu)) _) => hK.out _ _ (fun _ => hnew) ?_) ?keep37
              case keep37 => exact (keep5a hHeld)
              have hHeld' := hnew
              dsimp only at hHeld'
              clear hHeld hnew hK K
              have hHeld := hHeld'
              clear hHeld'
              try simp only [List.getElem_toArray, List.getElem_cons_zero, List.getElem_cons_succ, Act.put, List.setIfInBounds_toArray, List.set_cons_zero, List.set_cons_succ]
              refine wpAnyL_one (i := 4) (by kernel_rfl) rfl (fun K hK => ?_)
              try simp only [List.getElem_toArray, List.getElem_cons_zero, List.getElem_cons_succ]
              go_simp
              go_at_call 69
              refine (ko.out _ _ hHeld.1.out hvw).mono ?_
              rintro e Wn4 ⟨vo, rfl, hvo, hbn⟩
              obtain ⟨po, co, rfl, -, -⟩ := Hid.out hvo
              try replace hrow := RBox.later hrow hbn
              have hnew := Lib.hid (keep5 hbn hHeld)
              refine hK.out _ _ (fun _ => hnew.out) ?_
              have hHeld' := hnew.out
              clear hHeld hnew hK K hbn
              have hHeld := hHeld'
              clear hHeld'
              try simp only [List.getElem_toArray, List.getElem_cons_zero, List.getElem_cons_succ, Act.put, List.setIfInBounds_toArray, List.set_cons_zero, List.set_cons_succ]
              refine wpAnyL_one (i := 8) (by kernel_rfl) rfl (fun K hK => ?_)
              try simp only [List.getElem_toArray, List.getElem_cons_zero, List.getElem_cons_succ]
              go_simp
              go_at_call 49
              refine (ka.out _ _ hHeld.1.out (HR.one (huH.out.later hHeld.1.out) hrow)).mono ?_
              rintro e Wn8 ⟨va, rfl, hva, hbn⟩
              obtain ⟨pa, ca, rfl, -, -⟩ := Hid.out hva
              replace hvo := HC.later hvo hbn
              have hnew := Lib.hid (keep5 hbn hHeld)
              refine hK.out _ _ (fun _ => hnew.out) ?_
              have hHeld' := hnew.out
              clear hHeld hnew hK K hbn
              have hHeld := hHeld'
              clear hHeld'
              try simp only [List.getElem_toArray, List.getElem_cons_zero, List.getElem_cons_succ, Act.put, List.setIfInBounds_toArray, List.set_cons_zero, List.set_cons_succ]
              refine wpAnyL_one (i := 9) (by kernel_rfl) rfl (fun K hK => ?_)
              have hPk := Lib.hid (hPH.out.later hHeld.1.out)
              have f1 := hPk.out.b1.frozen
              have e1 := hPk.out.b1.cell
              have f2 := hPk.out.b2.frozen
              have e2 := hPk.out.b2.cell
              try simp only [List.getElem_toArray, List.getElem_cons_zero, List.getElem_cons_succ]
              go_simp
              refine hK.out _ _ (fun h => by cases h) ?_
              clear hK K
              try simp only [List.getElem_toArray, List.getElem_cons_zero, List.getElem_cons_succ, Act.put, List.setIfInBounds_toArray, List.set_cons_zero, List.set_cons_succ]
              refine wpAnyL_one (i := 10) (by kernel_rfl) rfl (fun K hK => ?_)
              try simp only [List.getElem_toArray, List.getElem_cons_zero, List.getElem_cons_succ]
              go_simp
              refine hK.out _ _ (fun h => by cases h) ?_
              clear hK K
              try simp only [List.getElem_toArray, List.getElem_cons_zero, List.getElem_cons_succ, Act.put, List.setIfInBounds_toArray, List.set_cons_zero, List.set_cons_succ]
              refine wpAnyL_done (by kernel_rfl) (OnlyN.normal ?_) _
              have hPn := Lib.hid (hPk.out.set1 hvo hva)
              have cS := hPn.out.b2.cell
              have kK := Lib.hid (((keepsFrom_below (B := w9.heap.size) hHeld.1.out).trans (keepsFrom_set (p := ⟨w.heap.size + 1 + 1 + 1 + 1, 0, none⟩) (by dsimp only; omega) (.slice po (orL p.1 (wiL p.2.1 lb)).length co))).trans (keepsFrom_set (p := ⟨w.heap.size + 1 + 1 + 1 + 1 + 1 + 1, 0, none⟩) (by dsimp only; omega) (.slice pa (andL p.2.1 lb).length ca)))
              have kB := Lib.hid (KeepB.trans (KeepB.trans (keepB_below (n₀ := w.heap.size) (S := fun b => b = w.heap.size + 1 + 1 + 1 + 1 + 1 + 1 + 1 ∨ b = w.heap.size + 1 + 1 + 1 + 1 + 1 + 1 + 1 + 1) hHeld.1.out hBW'.out.size (by have := hsz'.out; rintro b (rfl | rfl) <;> omega)) (keepB_set (p := ⟨w.heap.size + 1 + 1 + 1 + 1, 0, none⟩) (by dsimp only; omega) (by dsimp only; omega) (.slice po (orL p.1 (wiL p.2.1 lb)).length co))) (keepB_set (p := ⟨w.heap.size + 1 + 1 + 1 + 1 + 1 + 1, 0, none⟩) (by dsimp only; omega) (by dsimp only; omega) (.slice pa (andL p.2.1 lb).length ca)))
              have bW := Lib.hid (((hBW'.out.trans (hHeld.1.out.mono hBW'.out.size)).setCell (p := ⟨w.heap.size + 1 + 1 + 1 + 1, 0, none⟩) (by dsimp only; omega) (.slice po (orL p.1 (wiL p.2.1 lb)).length co)).setCell (p := ⟨w.heap.size + 1 + 1 + 1 + 1 + 1 + 1, 0, none⟩) (by dsimp only; omega) (.slice pa (andL p.2.1 lb).length ca))
              have sz : Hid (w.heap.size + 9 ≤ ((Wn8.setCell ⟨w.heap.size + 1 + 1 + 1 + 1, 0, none⟩ (.slice po (orL p.1 (wiL p.2.1 lb)).length co)).setCell ⟨w.heap.size + 1 + 1 + 1 + 1 + 1 + 1, 0, none⟩ (.slice pa (andL p.2.1 lb).length ca)).heap.size) := by
                have h1 := hHeld.1.out.size
                have h2 := hsz'.out
                show _ ≤ _
                simp only [World.size_setCell]
                omega
              have hst2 : Hid (∀ rest, partF (toD (pre ++ [⟨(true, .slice pu lb.length cu, lb), hu, hrb⟩]) ++ rest) ([], ex, []) = if andL p.2.1 lb = [] then (orL p.1 (wiL p.2.1 lb), andL p.2.1 lb, p.2.2) else partF rest (orL p.1 (wiL p.2.1 lb), andL p.2.1 lb, p.2.2)) := hst'.out
              generalize hla : (andL p.2.1 lb).length = la at *
              have hla' : Hid (la = 0 ↔ andL p.2.1 lb = []) := by
                show _ ↔ _
                rw [← hla, List.length_eq_zero_iff]
              clear hla hst' hPk f1 e1 f2 e2
              by_cases hz : la = 0
              · have hzi : ((la : Int) == 0) = true := by simpa using hz
                have he := hla'.out.1 hz
                clear hz
                gi_wp2
                exact ⟨kK.out, rfl, _, _, _, _, hPn.out, hRs.out, bW.out, sz.out, fun rest => by rw [hst2.out rest, if_pos he]; rfl⟩
              · have hzi : ((la : Int) == 0) = false := by simpa using hz
                have he : ¬ andL p.2.1 lb = [] := fun e => hz (hla'.out.2 e)
                clear hz
                gi_wp2
                exact ⟨kK.out, kB.out, _, _, _, _, hPn.out, hRs.out, bW.out, sz.out, fun rest => by rw [hst2.out rest, if_neg he]; rfl⟩
          · try simp only [List.getElem_toArray, List.getElem_cons_zero, List.getElem_cons_succ]
            go_simp
            have hrow := row_new hHeld (.slice pu lb.length cu)
            try replace hvw := HC.alloc hvw (.cells #[.slice pu lb.length cu] 28)
            try replace hvo := HC.alloc hvo (.cells #[.slice pu lb.length cu] 28)
            refine (fun (hnew : (fun W' : World => Hid (Below W.heap.size W W') ∧ W'.cell? ⟨w.heap.size + 1 + 1 + 1 + 1, 0, none⟩ = some (.slice q1 p.1.length c1) ∧ W'.cell? ⟨w.heap.size + 1 + 1 + 1 + 1 + 1, 0, none⟩ = some (.slice q3 p.2.2.length c3) ∧ W'.cell? ⟨w.heap.size + 1 + 1 + 1 + 1 + 1 + 1, 0, none⟩ = some (.slice q2 p.2.1.length c2) ∧ W'.cell? ⟨b, 0, none⟩ = some (.slice pu lb.length cu)) _) => hK.out _ _ (fun _ => hnew) ?_) ?keep38
            case keep38 => exact (keep5a hHeld)
            have hHeld' := hnew
            dsimp only at hHeld'
            clear hHeld hnew hK K
            have hHeld := hHeld'
            clear hHeld'
            try simp only [List.getElem_toArray, List.getElem_cons_zero, List.getElem_cons_succ, Act.put, List.setIfInBounds_toArray, List.set_cons_zero, List.set_cons_succ]
            refine wpAnyL_one (i := 3) (by kernel_rfl) rfl (fun K hK => ?_)
            try simp only [List.getElem_toArray, List.getElem_cons_zero, List.getElem_cons_succ]
            go_simp
            go_at_call 94
            refine (kw.out _ hHeld.1.out).mono ?_
            rintro e Wn3 ⟨vw, rfl, hvw, hbn⟩
            try replace hrow := RBox.later hrow hbn
            have hnew := Lib.hid (keep5 hbn hHeld)
            refine hK.out _ _ (fun _ => hnew.out) ?_
            have hHeld' := hnew.out
            clear hHeld hnew hK K hbn
            have hHeld := hHeld'
            clear hHeld'
            try simp only [List.getElem_toArray, List.getElem_cons_zero, List.getElem_cons_succ, Act.put, List.setIfInBounds_toArray, List.set_cons_zero, List.set_cons_succ]
            refine wpAnyL_one (i := 4) (by kernel_rfl) rfl (fun K hK => ?_)
            try simp only [List.getElem_toArray, List.getElem_cons_zero, List.getElem_cons_succ]
            go_simp
            go_at_call 69
            refine (ko.out _ _ hHeld.1.out hvw).mono ?_
            rintro e Wn4 ⟨vo, rfl, hvo, hbn⟩
            obtain ⟨po, co, rfl, -, -⟩ := Hid.out hvo
            try replace hrow := RBox.later hrow hbn
            have hnew := Lib.hid (keep5 hbn hHeld)
            refine hK.out _ _ (fun _ => hnew.out) ?_
            have hHeld' := hnew.out
            clear hHeld hnew hK K hbn
            have hHeld := hHeld'
            clear hHeld'
            try simp only [List.getElem_toArray, List.getElem_cons_zero, List.getElem_cons_succ, Act.put, List.setIfInBounds_toArray, List.set_cons_zero, List.set_cons_succ]
            refine wpAnyL_one (i := 8) (by kernel_rfl) rfl (fun K hK => ?_)
            try simp only [List.getElem_toArray, List.getElem_cons_zero, List.getElem_cons_succ]
            go_simp
            go_at_call 49
            refine (ka.out _ _ hHeld.1.out (HR.one (huH.out.later hHeld.1.out) hrow)).mono ?_
            rintro e Wn8 ⟨va, rfl, hva, hbn⟩
            obtain ⟨pa, ca, rfl, -, -⟩ := Hid.out hva
            replace hvo := HC.later hvo hbn
            have hnew := Lib.hid (keep5 hbn hHeld)
            refine hK.out _ _ (fun _ => hnew.out) ?_
            have hHeld' := hnew.out
            clear hHeld hnew hK K hbn
            have hHeld := hHeld'
            clear hHeld'
            try simp only [List.getElem_toArray, List.getElem_cons_zero, List.getElem_cons_succ, Act.put, List.setIfInBounds_toArray, List.set_cons_zero, List.set_cons_succ]
            refine wpAnyL_one (i := 9) (by kernel_rfl) rfl (fun K hK => ?_)
            have hPk := Lib.hid (hPH.out.later hHeld.1.out)
            have f1 := hPk.out.b1.frozen
            have e1 := hPk.out.b1.cell
            have f2 := hPk.out.b2.frozen
            have e2 := hPk.out.b2.cell
            try simp only [List.getElem_toArray, List.getElem_cons_zero, List.getElem_cons_succ]
            go_simp
            refine hK.out _ _ (fun h => by cases h) ?_
            clear hK K
            try simp only [List.getElem_toArray, List.getElem_cons_zero, List.getElem_cons_succ, Act.put, List.setIfInBounds_toArray, List.set_cons_zero, List.set_cons_succ]
            refine wpAnyL_one (i := 10) (by kernel_rfl) rfl (fun K hK => ?_)
            try simp only [List.getElem_toArray, List.getElem_cons_zero, List.getElem_cons_succ]
            go_simp
            refine hK.out _ _ (fun h => by cases h) ?_
            clear hK K
            try simp only [List.getElem_toArray, List.getElem_cons_zero, List.getElem_cons_succ, Act.put, List.setIfInBounds_toArray, List.set_cons_zero, List.set_cons_succ]
            refine wpAnyL_done (by kernel_rfl) (OnlyN.normal ?_) _
            have hPn := Lib.hid (hPk.out.set1 hvo hva)
            have cS := hPn.out.b2.cell
            have kK := Lib.hid (((keepsFrom_below (B := w9.heap.size) hHeld.1.out).trans (keepsFrom_set (p := ⟨w.heap.size + 1 + 1 + 1 + 1, 0, none⟩) (by dsimp only; omega) (.slice po (orL p.1 (wiL p.2.1 lb)).length co))).trans (keepsFrom_set (p := ⟨w.heap.size + 1 + 1 + 1 + 1 + 1 + 1, 0, none⟩) (by dsimp only; omega) (.slice pa (andL p.2.1 lb).length ca)))
            have kB := Lib.hid (KeepB.trans (KeepB.trans (keepB_below (n₀ := w.heap.size) (S := fun b => b = w.heap.size + 1 + 1 + 1 + 1 + 1 + 1 + 1 ∨ b = w.heap.size + 1 + 1 + 1 + 1 + 1 + 1 + 1 + 1) hHeld.1.out hBW'.out.size (by have := hsz'.out; rintro b (rfl | rfl) <;> omega)) (keepB_set (p := ⟨w.heap.size + 1 + 1 + 1 + 1, 0, none⟩) (by dsimp only; omega) (by dsimp only; omega) (.slice po (orL p.1 (wiL p.2.1 lb)).length co))) (keepB_set (p := ⟨w.heap.size + 1 + 1 + 1 + 1 + 1 + 1, 0, none⟩) (by dsimp only; omega) (by dsimp only; omega) (.slice pa (andL p.2.1 lb).length ca)))
            have bW := Lib.hid (((hBW'.out.trans (hHeld.1.out.mono hBW'.out.size)).setCell (p := ⟨w.heap.size + 1 + 1 + 1 + 1, 0, none⟩) (by dsimp only; omega) (.slice po (orL p.1 (wiL p.2.1 lb)).length co)).setCell (p := ⟨w.heap.size + 1 + 1 + 1 + 1 + 1 + 1, 0, none⟩) (by dsimp only; omega) (.slice pa (andL p.2.1 lb).length ca))
            have sz : Hid (w.heap.size + 9 ≤ ((Wn8.setCell ⟨w.heap.size + 1 + 1 + 1 + 1, 0, none⟩ (.slice po (orL p.1 (wiL p.2.1 lb)).length co)).setCell ⟨w.heap.size + 1 + 1 + 1 + 1 + 1 + 1, 0, none⟩ (.slice pa (andL p.2.1 lb).length ca)).heap.size) := by
              have h1 := hHeld.1.out.size
              have h2 := hsz'.out
              show _ ≤ _
              simp only [World.size_setCell]
              omega
            have hst2 : Hid (∀ rest, partF (toD (pre ++ [⟨(true, .slice pu lb.length cu, lb), hu, hrb⟩]) ++ rest) ([], ex, []) = if andL p.2.1 lb = [] then (orL p.1 (wiL p.2.1 lb), andL p.2.1 lb, p.2.2) else partF rest (orL p.1 (wiL p.2.1 lb), andL p.2.1 lb, p.2.2)) := hst'.out
            generalize hla : (andL p.2.1 lb).length = la at *
            have hla' : Hid (la = 0 ↔ andL p.2.1 lb = []) := by
              show _ ↔ _
              rw [← hla, List.length_eq_zero_iff]
            clear hla hst' hPk f1 e1 f2 e2
            by_cases hz : la = 0
            · have hzi : ((la : Int) == 0) = true := by simpa using hz
              have he := hla'.out.1 hz
              clear hz
              gi_wp2
              exact ⟨kK.out, rfl, _, _, _, _, hPn.out, hRs.out, bW.out, sz.out, fun rest => by rw [hst2.out rest, if_pos he]; rfl⟩
            · have hzi : ((la : Int) == 0) = false := by simpa using hz
              have he : ¬ andL p.2.1 lb = [] := fun e => hz (hla'.out.2 e)
              clear hz
              gi_wp2
              exact ⟨kK.out, kB.out, _, _, _, _, hPn.out, hRs.out, bW.out, sz.out, fun rest => by rw [hst2.out rest, if_neg he]; rfl⟩
        | false =>
          gi_wp2
          have hMd : (fun W' : World => Hid (Below W.heap.size W W') ∧ W'.cell? ⟨w.heap.size + 1 + 1 + 1 + 1, 0, none⟩ = some (.slice q1 p.1.length c1) ∧ W'.cell? ⟨w.heap.size + 1 + 1 + 1 + 1 + 1, 0, none⟩ = some (.slice q3 p.2.2.length c3) ∧ W'.cell? ⟨w.heap.size + 1 + 1 + 1 + 1 + 1 + 1, 0, none⟩ = some (.slice q2 p.2.1.length c2) ∧ W'.cell? ⟨b, 0, none⟩ = some (.slice pu lb.length cu)) W.drew := ⟨Lib.hid (Below.refl _ W).drew, hP.b1.cell, hP.b3.cell, hP.b2.cell, hb.cell⟩
          have kw : Hid (∀ W', Below W.heap.size W W' → Calls Tryd.prog 94 #[.agg #[.slice q2 p.2.1.length c2], .agg #[.slice pu lb.length cu]] W' fun e W'' => ∃ v', e = .returned (.agg #[v']) ∧ HC W'' v' (wiL p.2.1 lb) ∧ Below W'.heap.size W' W'') := fun W' h => without_any (hP.h2.later h) (huW.later h) (small_right hR.2.1) (small_right hrb) (hTW.below h hTW.lt)
          have ka : Hid (∀ W' v, Below W.heap.size W W' → HR W' v [lb] → Calls Tryd.prog 49 #[.agg #[.slice q2 p.2.1.length c2], v] W' fun e W'' => ∃ v', e = .returned (.agg #[v']) ∧ HC W'' v' (andL p.2.1 lb) ∧ Below W'.heap.size W' W'') := fun W' v h hv => and_any (hP.h2.later h) hv (small_right hR.2.1) (small_right hrb) (hTW.below h hTW.lt)
          have ko : Hid (∀ W' v, Below W.heap.size W W' → HC W' v (andL p.2.1 lb) → Calls Tryd.prog 69 #[.agg #[.slice q3 p.2.2.length c3], .agg #[v]] W' fun e W'' => ∃ v', e = .returned (.agg #[v']) ∧ HC W'' v' (orL p.2.2 (andL p.2.1 lb)) ∧ Below W'.heap.size W' W'') := fun W' v h hv => or_any (hP.h3.later h) hv (small_right hR.2.2) (small_right har) (hTW.below h hTW.lt)
          have huH := Lib.hid huW
          have hPH := Lib.hid hP
          have hbH := Lib.hid hb
          have hsz' := Lib.hid hsz
          have hBW' := Lib.hid hBW
          clear hTW hP hb huW hsz hBW hwr har hR
          refine region_lateIn (S := (fun W' : World => Hid (Below W.heap.size W W') ∧ W'.cell? ⟨w.heap.size + 1 + 1 + 1 + 1, 0, none⟩ = some (.slice q1 p.1.length c1) ∧ W'.cell? ⟨w.heap.size + 1 + 1 + 1 + 1 + 1, 0, none⟩ = some (.slice q3 p.2.2.length c3) ∧ W'.cell? ⟨w.heap.size + 1 + 1 + 1 + 1 + 1 + 1, 0, none⟩ = some (.slice q2 p.2.1.length c2) ∧ W'.cell? ⟨b, 0, none⟩ = some (.slice pu lb.length cu))) (fun n => n == 9 || n == 10) (by kernel_rfl) (by kernel_rfl) hMd (fun hHeld => ?_)
          clear hMd
          generalize World.drew W = Wd at *
          refine wpAnyL_take (i := 0) (oi := { dst := some 62, op := _, type := _, pos := _, after := _, guard := _ }) (v := ?v39) rfl (by kernel_rfl) (by kernel_rfl) (by kernel_rfl) (by kernel_rfl) (fun _ _ _ h => h) (Or.inl ⟨by kernel_rfl, ?y39⟩) hHeld ?r39
          case y39 =>
            intro w hSw
            try dsimp only at hSw
            try simp only [List.getElem_toArray, List.getElem_cons_zero, List.getElem_cons_succ]
            go_simp
            try with_reducible rfl
          try simp only [List.getElem_toArray, List.getElem_cons_zero, List.getElem_cons_succ, Act.put, List.setIfInBounds_toArray, List.set_cons_zero, List.set_cons_succ]
          refine wpAnyL_take (i := 1) (oi := { dst := some 63, op := _, type := _, pos := _, after := _, guard := _ }) (v := ?v40) rfl (by kernel_rfl) (by kernel_rfl) (by kernel_rfl) (by kernel_rfl) (fun _ _ _ h => h) (Or.inl ⟨by kernel_rfl, ?y40⟩) hHeld ?r40
          case y40 =>
            intro w hSw
            try dsimp only at hSw
            try simp only [List.getElem_toArray, List.getElem_cons_zero, List.getElem_cons_succ]
            go_simp
            try with_reducible rfl
          try simp only [List.getElem_toArray, List.getElem_cons_zero, List.getElem_cons_succ, Act.put, List.setIfInBounds_toArray, List.set_cons_zero, List.set_cons_succ]
          refine wpAnyL_take (i := 2) (oi := { dst := some 64, op := _, type := _, pos := _, after := _, guard := _ }) (v := ?v41) rfl (by kernel_rfl) (by kernel_rfl) (by kernel_rfl) (by kernel_rfl) (fun _ _ _ h => h) (Or.inl ⟨by kernel_rfl, ?y41⟩) hHeld ?r41
          case y41 =>
            intro w hSw
            try dsimp only at hSw
            try simp only [List.getElem_toArray, List.getElem_cons_zero, List.getElem_cons_succ]
            go_simp
            try with_reducible rfl
          try simp only [List.getElem_toArray, List.getElem_cons_zero, List.getElem_cons_succ, Act.put, List.setIfInBounds_toArray, List.set_cons_zero, List.set_cons_succ]
          refine wpAnyL_take (i := 6) (oi := { dst := some 68, op := _, type := _, pos := _, after := _, guard := _ }) (v := ?v42) rfl (by kernel_rfl) (by kernel_rfl) (by kernel_rfl) (by kernel_rfl) (fun _ _ _ h => h) (Or.inl ⟨by kernel_rfl, ?y42⟩) hHeld ?r42
          case y42 =>
            intro w hSw
            try dsimp only at hSw
            try simp only [List.getElem_toArray, List.getElem_cons_zero, List.getElem_cons_succ]
            go_simp
            try with_reducible rfl
          try simp only [List.getElem_toArray, List.getElem_cons_zero, List.getElem_cons_succ, Act.put, List.setIfInBounds_toArray, List.set_cons_zero, List.set_cons_succ]
          refine wpAnyL_take (i := 7) (oi := { dst := some 69, op := _, type := _, pos := _, after := _, guard := _ }) (v := ?v43) rfl (by kernel_rfl) (by kernel_rfl) (by kernel_rfl) (by kernel_rfl) (fun _ _ _ h => h) (Or.inl ⟨by kernel_rfl, ?y43⟩) hHeld ?r43
          case y43 =>
            intro w hSw
            try dsimp only at hSw
            try simp only [List.getElem_toArray, List.getElem_cons_zero, List.getElem_cons_succ]
            go_simp
            try with_reducible rfl
          try simp only [List.getElem_toArray, List.getElem_cons_zero, List.getElem_cons_succ, Act.put, List.setIfInBounds_toArray, List.set_cons_zero, List.set_cons_succ]
          refine wpAnyL_one (i := 3) (by kernel_rfl) rfl (fun K hK => ?_)
          try simp only [List.getElem_toArray, List.getElem_cons_zero, List.getElem_cons_succ]
          go_simp
          have hrow := row_new hHeld (.slice pu lb.length cu)
          refine (fun (hnew : (fun W' : World => Hid (Below W.heap.size W W') ∧ W'.cell? ⟨w.heap.size + 1 + 1 + 1 + 1, 0, none⟩ = some (.slice q1 p.1.length c1) ∧ W'.cell? ⟨w.heap.size + 1 + 1 + 1 + 1 + 1, 0, none⟩ = some (.slice q3 p.2.2.length c3) ∧ W'.cell? ⟨w.heap.size + 1 + 1 + 1 + 1 + 1 + 1, 0, none⟩ = some (.slice q2 p.2.1.length c2) ∧ W'.cell? ⟨b, 0, none⟩ = some (.slice pu lb.length cu)) _) => hK.out _ _ (fun _ => hnew) ?_) ?keep44
          case keep44 => exact (keep5a hHeld)
          have hHeld' := hnew
          dsimp only at hHeld'
          clear hHeld hnew hK K
          have hHeld := hHeld'
          clear hHeld'
          try simp only [List.getElem_toArray, List.getElem_cons_zero, List.getElem_cons_succ, Act.put, List.setIfInBounds_toArray, List.set_cons_zero, List.set_cons_succ]
          refine wpAnyL_one (i := 4) (by kernel_rfl) rfl (fun K hK => ?_)
          try simp only [List.getElem_toArray, List.getElem_cons_zero, List.getElem_cons_succ]
          go_simp
          go_at_call 49
          refine (ka.out _ _ hHeld.1.out (HR.one (huH.out.later hHeld.1.out) hrow)).mono ?_
          rintro e Wn4 ⟨va, rfl, hva, hbn⟩
          clear hrow
          have hnew := Lib.hid (keep5 hbn hHeld)
          refine hK.out _ _ (fun _ => hnew.out) ?_
          have hHeld' := hnew.out
          clear hHeld hnew hK K hbn
          have hHeld := hHeld'
          clear hHeld'
          try simp only [List.getElem_toArray, List.getElem_cons_zero, List.getElem_cons_succ, Act.put, List.setIfInBounds_toArray, List.set_cons_zero, List.set_cons_succ]
          refine wpAnyL_one (i := 5) (by kernel_rfl) rfl (fun K hK => ?_)
          try simp only [List.getElem_toArray, List.getElem_cons_zero, List.getElem_cons_succ]
          go_simp
          go_at_call 69
          refine (ko.out _ _ hHeld.1.out hva).mono ?_
          rintro e Wn5 ⟨vo, rfl, hvo, hbn⟩
          obtain ⟨po, co, rfl, -, -⟩ := Hid.out hvo
          have hnew := Lib.hid (keep5 hbn hHeld)
          refine hK.out _ _ (fun _ => hnew.out) ?_
          have hHeld' := hnew.out
          clear hHeld hnew hK K hbn
          have hHeld := hHeld'
          clear hHeld'
          try simp only [List.getElem_toArray, List.getElem_cons_zero, List.getElem_cons_succ, Act.put, List.setIfInBounds_toArray, List.set_cons_zero, List.set_cons_succ]
          refine wpAnyL_one (i := 8) (by kernel_rfl) rfl (fun K hK => ?_)
          try simp only [List.getElem_toArray, List.getElem_cons_zero, List.getElem_cons_succ]
          go_simp
          go_at_call 94
          refine (kw.out _ hHeld.1.out).mono ?_
          rintro e Wn8 ⟨vw, rfl, hvw, hbn⟩
          obtain ⟨pw, cw, rfl, -, -⟩ := Hid.out hvw
          replace hvo := HC.later hvo hbn
          have hnew := Lib.hid (keep5 hbn hHeld)
          refine hK.out _ _ (fun _ => hnew.out) ?_
          have hHeld' := hnew.out
          clear hHeld hnew hK K hbn
          have hHeld := hHeld'
          clear hHeld'
          try simp only [List.getElem_toArray, List.getElem_cons_zero, List.getElem_cons_succ, Act.put, List.setIfInBounds_toArray, List.set_cons_zero, List.set_cons_succ]
          refine wpAnyL_one (i := 9) (by kernel_rfl) rfl (fun K hK => ?_)
          have hPk := Lib.hid (hPH.out.later hHeld.1.out)
          have f1 := hPk.out.b3.frozen
          have e1 := hPk.out.b3.cell
          have f2 := hPk.out.b2.frozen
          have e2 := hPk.out.b2.cell
          try simp only [List.getElem_toArray, List.getElem_cons_zero, List.getElem_cons_succ]
          go_simp
          refine hK.out _ _ (fun h => by cases h) ?_
          clear hK K
          try simp only [List.getElem_toArray, List.getElem_cons_zero, List.getElem_cons_succ, Act.put, List.setIfInBounds_toArray, List.set_cons_zero, List.set_cons_succ]
          refine wpAnyL_one (i := 10) (by kernel_rfl) rfl (fun K hK => ?_)
          try simp only [List.getElem_toArray, List.getElem_cons_zero, List.getElem_cons_succ]
          go_simp
          refine hK.out _ _ (fun h => by cases h) ?_
          clear hK K
          try simp only [List.getElem_toArray, List.getElem_cons_zero, List.getElem_cons_succ, Act.put, List.setIfInBounds_toArray, List.set_cons_zero, List.set_cons_succ]
          refine wpAnyL_done (by kernel_rfl) (OnlyN.normal ?_) _
          have hPn := Lib.hid (hPk.out.set3 hvo hvw)
          have cS := hPn.out.b2.cell
          have kK := Lib.hid (((keepsFrom_below (B := w9.heap.size) hHeld.1.out).trans (keepsFrom_set (p := ⟨w.heap.size + 1 + 1 + 1 + 1 + 1, 0, none⟩) (by dsimp only; omega) (.slice po (orL p.2.2 (andL p.2.1 lb)).length co))).trans (keepsFrom_set (p := ⟨w.heap.size + 1 + 1 + 1 + 1 + 1 + 1, 0, none⟩) (by dsimp only; omega) (.slice pw (wiL p.2.1 lb).length cw)))
          have kB := Lib.hid (KeepB.trans (KeepB.trans (keepB_below (n₀ := w.heap.size) (S := fun b => b = w.heap.size + 1 + 1 + 1 + 1 + 1 + 1 + 1 ∨ b = w.heap.size + 1 + 1 + 1 + 1 + 1 + 1 + 1 + 1) hHeld.1.out hBW'.out.size (by have := hsz'.out; rintro b (rfl | rfl) <;> omega)) (keepB_set (p := ⟨w.heap.size + 1 + 1 + 1 + 1 + 1, 0, none⟩) (by dsimp only; omega) (by dsimp only; omega) (.slice po (orL p.2.2 (andL p.2.1 lb)).length co))) (keepB_set (p := ⟨w.heap.size + 1 + 1 + 1 + 1 + 1 + 1, 0, none⟩) (by dsimp only; omega) (by dsimp only; omega) (.slice pw (wiL p.2.1 lb).length cw)))
          have bW := Lib.hid (((hBW'.out.trans (hHeld.1.out.mono hBW'.out.size)).setCell (p := ⟨w.heap.size + 1 + 1 + 1 + 1 + 1, 0, none⟩) (by dsimp only; omega) (.slice po (orL p.2.2 (andL p.2.1 lb)).length co)).setCell (p := ⟨w.heap.size + 1 + 1 + 1 + 1 + 1 + 1, 0, none⟩) (by dsimp only; omega) (.slice pw (wiL p.2.1 lb).length cw))
          have sz : Hid (w.heap.size + 9 ≤ ((Wn8.setCell ⟨w.heap.size + 1 + 1 + 1 + 1 + 1, 0, none⟩ (.slice po (orL p.2.2 (andL p.2.1 lb)).length co)).setCell ⟨w.heap.size + 1 + 1 + 1 + 1 + 1 + 1, 0, none⟩ (.slice pw (wiL p.2.1 lb).length cw)).heap.size) := by
            have h1 := hHeld.1.out.size
            have h2 := hsz'.out
            show _ ≤ _
            simp only [World.size_setCell]
            omega
          have hst2 : Hid (∀ rest, partF (toD (pre ++ [⟨(false, .slice pu lb.length cu, lb), hu, hrb⟩]) ++ rest) ([], ex, []) = if wiL p.2.1 lb = [] then (p.1, wiL p.2.1 lb, orL p.2.2 (andL p.2.1 lb)) else partF rest (p.1, wiL p.2.1 lb, orL p.2.2 (andL p.2.1 lb))) := hst'.out
          generalize hla : (wiL p.2.1 lb).length = la at *
          have hla' : Hid (la = 0 ↔ wiL p.2.1 lb = []) := by
            show _ ↔ _
            rw [← hla, List.length_eq_zero_iff]
          clear hla hst' hPk f1 e1 f2 e2
          by_cases hz : la = 0
          · have hzi : ((la : Int) == 0) = true := by simpa using hz
            have he := hla'.out.1 hz
            clear hz
            gi_wp2
            exact ⟨kK.out, rfl, _, _, _, _, hPn.out, hRs.out, bW.out, sz.out, fun rest => by rw [hst2.out rest, if_pos he]; rfl⟩
          · have hzi : ((la : Int) == 0) = false := by simpa using hz
            have he : ¬ wiL p.2.1 lb = [] := fun e => hz (hla'.out.2 e)
            clear hz
            gi_wp2
            exact ⟨kK.out, kB.out, _, _, _, _, hPn.out, hRs.out, bW.out, sz.out, fun rest => by rw [hst2.out rest, if_neg he]; rfl⟩
      case done =>
        rintro D ys W hD rfl ⟨v1, v2, v3, p, hP, -, hBW, -, he⟩ hK
        have he' := he []
        rw [List.append_nil] at he'
        have hpe : pb = p := by
          rw [hpb.out, ← hxs]
          exact he'
        subst hpe
        obtain ⟨p1, c1, rfl, -, -⟩ := Hid.out hP.h1
        obtain ⟨p2, c2, rfl, -, -⟩ := Hid.out hP.h2
        obtain ⟨p3, c3, rfl, -, -⟩ := Hid.out hP.h3
        have f1 := hP.r1.frozen; have f2 := hP.r2.frozen; have f3 := hP.r3.frozen
        have d1 := hP.r1.cell; have d2 := hP.r2.cell; have d3 := hP.r3.cell
        have hMd : (fun W' : World => W'.cell? ⟨w.heap.size + 1 + 1 + 1 + 1, 0, none⟩ = some (.slice p1 pb.1.length c1) ∧ W'.cell? ⟨w.heap.size + 1 + 1 + 1 + 1 + 1 + 1, 0, none⟩ = some (.slice p2 pb.2.1.length c2) ∧ W'.cell? ⟨w.heap.size + 1 + 1 + 1 + 1 + 1, 0, none⟩ = some (.slice p3 pb.2.2.length c3)) W.drew := ⟨hP.b1.cell, hP.b2.cell, hP.b3.cell⟩
        have hFin := hP.fin
        have hKf : Hid ((((W.setCell ⟨w.heap.size + 1, 0, none⟩ (.slice p1 pb.1.length c1)).setCell ⟨w.heap.size + 1 + 1, 0, none⟩ (.slice p2 pb.2.1.length c2)).setCell ⟨w.heap.size + 1 + 1 + 1, 0, none⟩ (.slice p3 pb.2.2.length c3)).drew.heap[D]? = some (.deferred (some []))) := by
          show _ = _
          refine (Below.heap_setCell _ _ _ _ (by dsimp only; omega)).trans ((Below.heap_setCell _ _ _ _ (by dsimp only; omega)).trans ((Below.heap_setCell _ _ _ _ (by dsimp only; omega)).trans hK))
        have hBf := Lib.hid (((hBW.setCell (p := ⟨w.heap.size + 1, 0, none⟩) (by simp) (.slice p1 pb.1.length c1)).setCell (p := ⟨w.heap.size + 1 + 1, 0, none⟩) (by simp; omega) (.slice p2 pb.2.1.length c2)).setCell (p := ⟨w.heap.size + 1 + 1 + 1, 0, none⟩) (by simp; omega) (.slice p3 pb.2.2.length c3)).drew
        have hFq := Lib.hid ((FinP.own _ _ _ _ _ w9.heap.size).putObj (.deferred none) hFin hD hKf.out rfl)
        have hBq := Lib.hid (hBf.out.trans (belowK_b (w := w) (Nat.le_refl _) _ D _ (.deferred none) (by omega) hKf.out rfl rfl))
        generalize hl1 : pb.1.length = l1 at *
        generalize hl2 : pb.2.1.length = l2 at *
        generalize hl3 : pb.2.2.length = l3 at *
        clear hP hBW he he' hK hFin hBf hpb hB9 hT9 pb9' rL' r9' hm hxs hX64 hm' hxs' hX64' hXi' hby' hn' hl1 hl2 hl3 hlo hhi hsb hsl hsx hrb hrx hl64 hE hB hT hB7
        go_wp2
        refine region_late (S := (fun W' : World => W'.cell? ⟨w.heap.size + 1 + 1 + 1 + 1, 0, none⟩ = some (.slice p1 l1 c1) ∧ W'.cell? ⟨w.heap.size + 1 + 1 + 1 + 1 + 1 + 1, 0, none⟩ = some (.slice p2 l2 c2) ∧ W'.cell? ⟨w.heap.size + 1 + 1 + 1 + 1 + 1, 0, none⟩ = some (.slice p3 l3 c3))) (fun n => n == 999) (by kernel_rfl) hMd (fun hHeld => ?_)
        clear hMd
        refine wpAnyL_take (i := 0) (oi := { dst := some 75, op := _, type := _, pos := _, after := _, guard := _ }) (v := ?v45) rfl (by kernel_rfl) (by kernel_rfl) (by kernel_rfl) (by kernel_rfl) (fun _ _ _ h => h) (Or.inl ⟨by kernel_rfl, ?y45⟩) hHeld ?r45
        case y45 =>
          intro w hSw
          try dsimp only at hSw
          try simp only [List.getElem_toArray, List.getElem_cons_zero, List.getElem_cons_succ]
          go_simp
          try with_reducible rfl
        try simp only [List.getElem_toArray, List.getElem_cons_zero, List.getElem_cons_succ, Act.put, List.setIfInBounds_toArray, List.set_cons_zero, List.set_cons_succ]
        refine wpAnyL_take (i := 1) (oi := { dst := some 76, op := _, type := _, pos := _, after := _, guard := _ }) (v := ?v46) rfl (by kernel_rfl) (by kernel_rfl) (by kernel_rfl) (by kernel_rfl) (fun _ _ _ h => h) (Or.inl ⟨by kernel_rfl, ?y46⟩) hHeld ?r46
        case y46 =>
          intro w hSw
          try dsimp only at hSw
          try simp only [List.getElem_toArray, List.getElem_cons_zero, List.getElem_cons_succ]
          go_simp
          try with_reducible rfl
        try simp only [List.getElem_toArray, List.getElem_cons_zero, List.getElem_cons_succ, Act.put, List.setIfInBounds_toArray, List.set_cons_zero, List.set_cons_succ]
        refine wpAnyL_take (i := 2) (oi := { dst := some 77, op := _, type := _, pos := _, after := _, guard := _ }) (v := ?v47) rfl (by kernel_rfl) (by kernel_rfl) (by kernel_rfl) (by kernel_rfl) (fun _ _ _ h => h) (Or.inl ⟨by kernel_rfl, ?y47⟩) hHeld ?r47
        case y47 =>
          intro w hSw
          try dsimp only at hSw
          try simp only [List.getElem_toArray, List.getElem_cons_zero, List.getElem_cons_succ]
          go_simp
          try with_reducible rfl
        try simp only [List.getElem_toArray, List.getElem_cons_zero, List.getElem_cons_succ, Act.put, List.setIfInBounds_toArray, List.set_cons_zero, List.set_cons_succ]
        refine wpAnyL_one (i := 3) (by kernel_rfl) rfl (fun K hK => ?_)
        try simp only [List.getElem_toArray, List.getElem_cons_zero, List.getElem_cons_succ]
        go_simp
        refine (fun (hnew : (fun W' : World => W'.cell? ⟨w.heap.size + 1 + 1 + 1 + 1, 0, none⟩ = some (.slice p1 l1 c1) ∧ W'.cell? ⟨w.heap.size + 1 + 1 + 1 + 1 + 1 + 1, 0, none⟩ = some (.slice p2 l2 c2) ∧ W'.cell? ⟨w.heap.size + 1 + 1 + 1 + 1 + 1, 0, none⟩ = some (.slice p3 l3 c3)) _) => hK.out _ _ (fun _ => hnew) ?_) ?keep48
        case keep48 => exact (⟨by simpa [go_sem] using hHeld.1, by simpa [go_sem] using hHeld.2.1, by simpa [go_sem] using hHeld.2.2⟩)
        have hHeld' := hnew
        dsimp only at hHeld'
        clear hHeld hnew hK K
        have hHeld := hHeld'
        clear hHeld'
        try simp only [List.getElem_toArray, List.getElem_cons_zero, List.getElem_cons_succ, Act.put, List.setIfInBounds_toArray, List.set_cons_zero, List.set_cons_succ]
        refine wpAnyL_one (i := 4) (by kernel_rfl) rfl (fun K hK => ?_)
        try simp only [List.getElem_toArray, List.getElem_cons_zero, List.getElem_cons_succ]
        go_simp
        refine (fun (hnew : (fun W' : World => W'.cell? ⟨w.heap.size + 1 + 1 + 1 + 1, 0, none⟩ = some (.slice p1 l1 c1) ∧ W'.cell? ⟨w.heap.size + 1 + 1 + 1 + 1 + 1 + 1, 0, none⟩ = some (.slice p2 l2 c2) ∧ W'.cell? ⟨w.heap.size + 1 + 1 + 1 + 1 + 1, 0, none⟩ = some (.slice p3 l3 c3)) _) => hK.out _ _ (fun _ => hnew) ?_) ?keep49
        case keep49 => exact (⟨by simpa [go_sem] using hHeld.1, by simpa [go_sem] using hHeld.2.1, by simpa [go_sem] using hHeld.2.2⟩)
        have hHeld' := hnew
        dsimp only at hHeld'
        clear hHeld hnew hK K
        have hHeld := hHeld'
        clear hHeld'
        try simp only [List.getElem_toArray, List.getElem_cons_zero, List.getElem_cons_succ, Act.put, List.setIfInBounds_toArray, List.set_cons_zero, List.set_cons_succ]
        refine wpAnyL_one (i := 5) (by kernel_rfl) rfl (fun K hK => ?_)
        try simp only [List.getElem_toArray, List.getElem_cons_zero, List.getElem_cons_succ]
        go_simp
        refine (fun (hnew : (fun W' : World => W'.cell? ⟨w.heap.size + 1 + 1 + 1 + 1, 0, none⟩ = some (.slice p1 l1 c1) ∧ W'.cell? ⟨w.heap.size + 1 + 1 + 1 + 1 + 1 + 1, 0, none⟩ = some (.slice p2 l2 c2) ∧ W'.cell? ⟨w.heap.size + 1 + 1 + 1 + 1 + 1, 0, none⟩ = some (.slice p3 l3 c3)) _) => hK.out _ _ (fun _ => hnew) ?_) ?keep50
        case keep50 => exact (⟨by simpa [go_sem] using hHeld.1, by simpa [go_sem] using hHeld.2.1, by simpa [go_sem] using hHeld.2.2⟩)
        have hHeld' := hnew
        dsimp only at hHeld'
        clear hHeld hnew hK K
        have hHeld := hHeld'
        clear hHeld'
        try simp only [List.getElem_toArray, List.getElem_cons_zero, List.getElem_cons_succ, Act.put, List.setIfInBounds_toArray, List.set_cons_zero, List.set_cons_succ]
        refine wpAnyL_done (by kernel_rfl) (OnlyN.normal ?_) _
        clear f1 d1 f2 d2 f3 d3 hHeld
        obtain ⟨q1, q2, q3, g1, g2, g3⟩ := hFq.out
        have d1 := q1.cell; have d2 := q2.cell; have d3 := q3.cell
        go_wp2
        refine postM_mark hKf.out (.tuple #[.agg #[.slice p1 l1 c1], .agg #[.slice p2 l2 c2], .agg #[.slice p3 l3 c3]]) ?_ ⟨_, _, _, rfl, g1, g2, g3, hBq.out⟩
        simp [results, Tryd.results95, go_sem, d1, d2, d3]
      case stop =>
        rintro D c pre W hD ⟨t, rfl⟩ ⟨rfl, v1, v2, v3, p, hP, -, hBW, -, he⟩ hK
        have he' := he (toD t)
        have hpe : pb = p := by
          rw [hpb.out, ← hxs, List.map_append]
          exact he'
        subst hpe
        obtain ⟨p1, c1, rfl, -, -⟩ := Hid.out hP.h1
        obtain ⟨p2, c2, rfl, -, -⟩ := Hid.out hP.h2
        obtain ⟨p3, c3, rfl, -, -⟩ := Hid.out hP.h3
        have f1 := hP.r1.frozen; have f2 := hP.r2.frozen; have f3 := hP.r3.frozen
        have d1 := hP.r1.cell; have d2 := hP.r2.cell; have d3 := hP.r3.cell
        have hMd : (fun W' : World => W'.cell? ⟨w.heap.size + 1 + 1 + 1 + 1, 0, none⟩ = some (.slice p1 pb.1.length c1) ∧ W'.cell? ⟨w.heap.size + 1 + 1 + 1 + 1 + 1 + 1, 0, none⟩ = some (.slice p2 pb.2.1.length c2) ∧ W'.cell? ⟨w.heap.size + 1 + 1 + 1 + 1 + 1, 0, none⟩ = some (.slice p3 pb.2.2.length c3)) W.drew := ⟨hP.b1.cell, hP.b2.cell, hP.b3.cell⟩
        have hFin := hP.fin
        have hKf : Hid ((((W.setCell ⟨w.heap.size + 1, 0, none⟩ (.slice p1 pb.1.length c1)).setCell ⟨w.heap.size + 1 + 1, 0, none⟩ (.slice p2 pb.2.1.length c2)).setCell ⟨w.heap.size + 1 + 1 + 1, 0, none⟩ (.slice p3 pb.2.2.length c3)).drew.heap[D]? = some (.deferred (some []))) := by
          show _ = _
          refine (Below.heap_setCell _ _ _ _ (by dsimp only; omega)).trans ((Below.heap_setCell _ _ _ _ (by dsimp only; omega)).trans ((Below.heap_setCell _ _ _ _ (by dsimp only; omega)).trans hK))
        have hBf := Lib.hid (((hBW.setCell (p := ⟨w.heap.size + 1, 0, none⟩) (by simp) (.slice p1 pb.1.length c1)).setCell (p := ⟨w.heap.size + 1 + 1, 0, none⟩) (by simp; omega) (.slice p2 pb.2.1.length c2)).setCell (p := ⟨w.heap.size + 1 + 1 + 1, 0, none⟩) (by simp; omega) (.slice p3 pb.2.2.length c3)).drew
        have hFq := Lib.hid ((FinP.own _ _ _ _ _ w9.heap.size).putObj (.deferred none) hFin hD hKf.out rfl)
        have hBq := Lib.hid (hBf.out.trans (belowK_b (w := w) (Nat.le_refl _) _ D _ (.deferred none) (by omega) hKf.out rfl rfl))
        generalize hl1 : pb.1.length = l1 at *
        generalize hl2 : pb.2.1.length = l2 at *
        generalize hl3 : pb.2.2.length = l3 at *
        clear hP hBW he he' hK hFin hBf hpb hB9 hT9 pb9' rL' r9' hm hxs hX64 hm' hxs' hX64' hXi' hby' hn' hl1 hl2 hl3 hlo hhi hsb hsl hsx hrb hrx hl64 hE hB hT hB7
        refine wpIn_wide.2 ?_
        go_wp2
        refine region_late (S := (fun W' : World => W'.cell? ⟨w.heap.size + 1 + 1 + 1 + 1, 0, none⟩ = some (.slice p1 l1 c1) ∧ W'.cell? ⟨w.heap.size + 1 + 1 + 1 + 1 + 1 + 1, 0, none⟩ = some (.slice p2 l2 c2) ∧ W'.cell? ⟨w.heap.size + 1 + 1 + 1 + 1 + 1, 0, none⟩ = some (.slice p3 l3 c3))) (fun n => n == 999) (by kernel_rfl) hMd (fun hHeld => ?_)
        clear hMd
        refine wpAnyL_take (i := 0) (oi := { dst := some 75, op := _, type := _, pos := _, after := _, guard := _ }) (v := ?v51) rfl (by kernel_rfl) (by kernel_rfl) (by kernel_rfl) (by kernel_rfl) (fun _ _ _ h => h) (Or.inl ⟨by kernel_rfl, ?y51⟩) hHeld ?r51
        case y51 =>
          intro w hSw
          try dsimp only at hSw
          try simp only [List.getElem_toArray, List.getElem_cons_zero, List.getElem_cons_succ]
          go_simp
          try with_reducible rfl
        try simp only [List.getElem_toArray, List.getElem_cons_zero, List.getElem_cons_succ, Act.put, List.setIfInBounds_toArray, List.set_cons_zero, List.set_cons_succ]
        refine wpAnyL_take (i := 1) (oi := { dst := some 76, op := _, type := _, pos := _, after := _, guard := _ }) (v := ?v52) rfl (by kernel_rfl) (by kernel_rfl) (by kernel_rfl) (by kernel_rfl) (fun _ _ _ h => h) (Or.inl ⟨by kernel_rfl, ?y52⟩) hHeld ?r52
        case y52 =>
          intro w hSw
          try dsimp only at hSw
          try simp only [List.getElem_toArray, List.getElem_cons_zero, List.getElem_cons_succ]
          go_simp
          try with_reducible rfl
        try simp only [List.getElem_toArray, List.getElem_cons_zero, List.getElem_cons_succ, Act.put, List.setIfInBounds_toArray, List.set_cons_zero, List.set_cons_succ]
        refine wpAnyL_take (i := 2) (oi := { dst := some 77, op := _, type := _, pos := _, after := _, guard := _ }) (v := ?v53) rfl (by kernel_rfl) (by kernel_rfl) (by kernel_rfl) (by kernel_rfl) (fun _ _ _ h => h) (Or.inl ⟨by kernel_rfl, ?y53⟩) hHeld ?r53
        case y53 =>
          intro w hSw
          try dsimp only at hSw
          try simp only [List.getElem_toArray, List.getElem_cons_zero, List.getElem_cons_succ]
          go_simp
          try with_reducible rfl
        try simp only [List.getElem_toArray, List.getElem_cons_zero, List.getElem_cons_succ, Act.put, List.setIfInBounds_toArray, List.set_cons_zero, List.set_cons_succ]
        refine wpAnyL_one (i := 3) (by kernel_rfl) rfl (fun K hK => ?_)
        try simp only [List.getElem_toArray, List.getElem_cons_zero, List.getElem_cons_succ]
        go_simp
        refine (fun (hnew : (fun W' : World => W'.cell? ⟨w.heap.size + 1 + 1 + 1 + 1, 0, none⟩ = some (.slice p1 l1 c1) ∧ W'.cell? ⟨w.heap.size + 1 + 1 + 1 + 1 + 1 + 1, 0, none⟩ = some (.slice p2 l2 c2) ∧ W'.cell? ⟨w.heap.size + 1 + 1 + 1 + 1 + 1, 0, none⟩ = some (.slice p3 l3 c3)) _) => hK.out _ _ (fun _ => hnew) ?_) ?keep54
        case keep54 => exact (⟨by simpa [go_sem] using hHeld.1, by simpa [go_sem] using hHeld.2.1, by simpa [go_sem] using hHeld.2.2⟩)
        have hHeld' := hnew
        dsimp only at hHeld'
        clear hHeld hnew hK K
        have hHeld := hHeld'
        clear hHeld'
        try simp only [List.getElem_toArray, List.getElem_cons_zero, List.getElem_cons_succ, Act.put, List.setIfInBounds_toArray, List.set_cons_zero, List.set_cons_succ]
        refine wpAnyL_one (i := 4) (by kernel_rfl) rfl (fun K hK => ?_)
        try simp only [List.getElem_toArray, List.getElem_cons_zero, List.getElem_cons_succ]
        go_simp
        refine (fun (hnew : (fun W' : World => W'.cell? ⟨w.heap.size + 1 + 1 + 1 + 1, 0, none⟩ = some (.slice p1 l1 c1) ∧ W'.cell? ⟨w.heap.size + 1 + 1 + 1 + 1 + 1 + 1, 0, none⟩ = some (.slice p2 l2 c2) ∧ W'.cell? ⟨w.heap.size + 1 + 1 + 1 + 1 + 1, 0, none⟩ = some (.slice p3 l3 c3)) _) => hK.out _ _ (fun _ => hnew) ?_) ?keep55
        case keep55 => exact (⟨by simpa [go_sem] using hHeld.1, by simpa [go_sem] using hHeld.2.1, by simpa [go_sem] using hHeld.2.2⟩)
        have hHeld' := hnew
        dsimp only at hHeld'
        clear hHeld hnew hK K
        have hHeld := hHeld'
        clear hHeld'
        try simp only [List.getElem_toArray, List.getElem_cons_zero, List.getElem_cons_succ, Act.put, List.setIfInBounds_toArray, List.set_cons_zero, List.set_cons_succ]
        refine wpAnyL_one (i := 5) (by kernel_rfl) rfl (fun K hK => ?_)
        try simp only [List.getElem_toArray, List.getElem_cons_zero, List.getElem_cons_succ]
        go_simp
        refine (fun (hnew : (fun W' : World => W'.cell? ⟨w.heap.size + 1 + 1 + 1 + 1, 0, none⟩ = some (.slice p1 l1 c1) ∧ W'.cell? ⟨w.heap.size + 1 + 1 + 1 + 1 + 1 + 1, 0, none⟩ = some (.slice p2 l2 c2) ∧ W'.cell? ⟨w.heap.size + 1 + 1 + 1 + 1 + 1, 0, none⟩ = some (.slice p3 l3 c3)) _) => hK.out _ _ (fun _ => hnew) ?_) ?keep56
        case keep56 => exact (⟨by simpa [go_sem] using hHeld.1, by simpa [go_sem] using hHeld.2.1, by simpa [go_sem] using hHeld.2.2⟩)
        have hHeld' := hnew
        dsimp only at hHeld'
        clear hHeld hnew hK K
        have hHeld := hHeld'
        clear hHeld'
        try simp only [List.getElem_toArray, List.getElem_cons_zero, List.getElem_cons_succ, Act.put, List.setIfInBounds_toArray, List.set_cons_zero, List.set_cons_succ]
        refine wpAnyL_done (by kernel_rfl) (OnlyN.normal ?_) _
        clear f1 d1 f2 d2 f3 d3 hHeld
        obtain ⟨q1, q2, q3, g1, g2, g3⟩ := hFq.out
        have d1 := q1.cell; have d2 := q2.cell; have d3 := q3.cell
        go_wp2
        refine postM_mark hKf.out (.tuple #[.agg #[.slice p1 l1 c1], .agg #[.slice p2 l2 c2], .agg #[.slice p3 l3 c3]]) ?_ ⟨_, _, _, rfl, g1, g2, g3, hBq.out⟩
        simp [results, Tryd.results95, go_sem, d1, d2, d3]
end Go.Proofs.YtnigpmbpipmgfaaDoor
