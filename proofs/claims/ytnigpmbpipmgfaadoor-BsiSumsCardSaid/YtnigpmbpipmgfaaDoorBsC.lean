/-
  Compare, Between.
-/
import Derived.Test.YtnigpmbpipmgfaaDoorBsL
import Derived.Test.YtnigpmbpipmgfaaDoorFormsB
namespace Go.Proofs.YtnigpmbpipmgfaaDoor
open Go.RowKit Go.MapKept Tess

/-- Compare(b, op, n). -/
def cmpB (b : Sl) (op n : Int) : List Ch × Int := if 1 ≤ op ∧ op ≤ 6 ∧ isRightB b = true then (findB b op n, 0) else ([], 80)
/-- Between(b, from, to). -/
def btwB (b : Sl) (x y : Int) : List Ch × Int := if isRightB b = true then (andL (wiL b.ex (partB b x).1) (wiL b.ex (partB b y).2.2), 0) else ([], 80)

/-- Six functions under 1 to 6. -/
def fn6 (a b c d e f : FuncId) : Array MapEntry := #[fnEntry 1 a 0, fnEntry 2 b 1, fnEntry 3 c 2, fnEntry 4 d 3, fnEntry 5 e 4, fnEntry 6 f 5]
theorem insert6 {P : Program} {T K E : TypeId} (W : World) (a b c d e f : FuncId) (hT : P.underlying T = some (.map K E)) (hK : P.underlying K = some (.int .i64)) :
    (Instr.mapUpdate T (.map (some W.heap.size)) (.int .i64 1) (.func (.func a) #[] #[])).run P (W.alloc (.map #[] 0)) = .ok () (W.alloc (.map #[fnEntry 1 a 0] 1)) ∧
    (Instr.mapUpdate T (.map (some W.heap.size)) (.int .i64 2) (.func (.func b) #[] #[])).run P (W.alloc (.map #[fnEntry 1 a 0] 1)) = .ok () (W.alloc (.map #[fnEntry 1 a 0, fnEntry 2 b 1] 2)) ∧
    (Instr.mapUpdate T (.map (some W.heap.size)) (.int .i64 3) (.func (.func c) #[] #[])).run P (W.alloc (.map #[fnEntry 1 a 0, fnEntry 2 b 1] 2)) = .ok () (W.alloc (.map #[fnEntry 1 a 0, fnEntry 2 b 1, fnEntry 3 c 2] 3)) ∧
    (Instr.mapUpdate T (.map (some W.heap.size)) (.int .i64 4) (.func (.func d) #[] #[])).run P (W.alloc (.map #[fnEntry 1 a 0, fnEntry 2 b 1, fnEntry 3 c 2] 3)) = .ok () (W.alloc (.map #[fnEntry 1 a 0, fnEntry 2 b 1, fnEntry 3 c 2, fnEntry 4 d 3] 4)) ∧
    (Instr.mapUpdate T (.map (some W.heap.size)) (.int .i64 5) (.func (.func e) #[] #[])).run P (W.alloc (.map #[fnEntry 1 a 0, fnEntry 2 b 1, fnEntry 3 c 2, fnEntry 4 d 3] 4)) = .ok () (W.alloc (.map #[fnEntry 1 a 0, fnEntry 2 b 1, fnEntry 3 c 2, fnEntry 4 d 3, fnEntry 5 e 4] 5)) ∧
    (Instr.mapUpdate T (.map (some W.heap.size)) (.int .i64 6) (.func (.func f) #[] #[])).run P (W.alloc (.map #[fnEntry 1 a 0, fnEntry 2 b 1, fnEntry 3 c 2, fnEntry 4 d 3, fnEntry 5 e 4] 5)) = .ok () (W.alloc (.map (fn6 a b c d e f) 6)) := by
  refine ⟨?_, ?_, ?_, ?_, ?_, ?_⟩
  · exact insert_last W 1 _ hT hK (fun x hx => by simp at hx)
  · exact insert_last W 2 _ hT hK (fun x hx => by simp at hx; subst hx; exact ⟨1, rfl, by decide⟩)
  · exact insert_last W 3 _ hT hK (fun x hx => by simp at hx; rcases hx with rfl | rfl; exact ⟨1, rfl, by decide⟩; exact ⟨2, rfl, by decide⟩)
  · exact insert_last W 4 _ hT hK (fun x hx => by simp at hx; rcases hx with rfl | rfl | rfl; exact ⟨1, rfl, by decide⟩; exact ⟨2, rfl, by decide⟩; exact ⟨3, rfl, by decide⟩)
  · exact insert_last W 5 _ hT hK (fun x hx => by simp at hx; rcases hx with rfl | rfl | rfl | rfl; exact ⟨1, rfl, by decide⟩; exact ⟨2, rfl, by decide⟩; exact ⟨3, rfl, by decide⟩; exact ⟨4, rfl, by decide⟩)
  · exact insert_last W 6 _ hT hK (fun x hx => by simp at hx; rcases hx with rfl | rfl | rfl | rfl | rfl; exact ⟨1, rfl, by decide⟩; exact ⟨2, rfl, by decide⟩; exact ⟨3, rfl, by decide⟩; exact ⟨4, rfl, by decide⟩; exact ⟨5, rfl, by decide⟩)
theorem zero_find (w : World) : (zeroValue 103).run Tryd.prog w = .ok .nilFunc w := by kernel_rfl
/-- A function that finds rows. -/
def Finds (g : FuncId) (op : Int) : Prop := ∀ (b : Sl) (vE vB : Value) (n : Int) (w : World), HC w vE b.ex → HR w vB b.bits → SmallB b → IsCol b → (-9223372036854775808 ≤ n ∧ n ≤ 9223372036854775807) → Tab w →
  Calls Tryd.prog g #[.agg #[.int .i64 b.n, .int .i64 b.least, vE, vB], .int .i64 n] w fun e W' => ∃ v, e = .returned (.agg #[v]) ∧ HC W' v (findB b op n) ∧ Below w.heap.size w W'
def FindLook (op : Int) (fv : Value) (there : Bool) : Prop :=
  (there = false ∧ ¬ (1 ≤ op ∧ op ≤ 6)) ∨ (there = true ∧ 1 ≤ op ∧ op ≤ 6 ∧ ∃ g : FuncId, fv = .func (.func g) #[] #[] ∧ (∀ args w, (callFunc g args).run Tryd.prog w = .ok (.enter g args) w) ∧ Finds g op)
theorem look6 (op : Int) : ∃ fv there, FindLook op fv there ∧ ∀ W : World,
    (Instr.lookup 106 (.map (some W.heap.size)) (.int .i64 op) true).run Tryd.prog (W.alloc (.map (fn6 63 64 65 66 67 68) 6)) = .ok (.tuple #[fv, .bool there]) (W.alloc (.map (fn6 63 64 65 66 67 68) 6)) := by
  have hT := Tryd.underlying106
  have hK := Tryd.underlying3
  by_cases h1 : op = 1
  · subst h1
    exact ⟨.func (.func 63) #[] #[], true, .inr ⟨rfl, by decide, by decide, _, rfl, enters_of Tryd.func63 (by kernel_rfl) rfl, fun _ _ _ n _ a b c d e f => same_any n a b c d e f⟩, fun W => run_look_some 1 0 (fnEntry 1 _ 0) hT hK (World.alloc_heap_new W _) rfl⟩
  by_cases h2 : op = 2
  · subst h2
    exact ⟨.func (.func 64) #[] #[], true, .inr ⟨rfl, by decide, by decide, _, rfl, enters_of Tryd.func64 (by kernel_rfl) rfl, fun _ _ _ n _ a b c d e f => other_any n a b c d e f⟩, fun W => run_look_some 2 1 (fnEntry 2 _ 1) hT hK (World.alloc_heap_new W _) rfl⟩
  by_cases h3 : op = 3
  · subst h3
    exact ⟨.func (.func 65) #[] #[], true, .inr ⟨rfl, by decide, by decide, _, rfl, enters_of Tryd.func65 (by kernel_rfl) rfl, fun _ _ _ n _ a b c d e f => less_any n a b c d e f⟩, fun W => run_look_some 3 2 (fnEntry 3 _ 2) hT hK (World.alloc_heap_new W _) rfl⟩
  by_cases h4 : op = 4
  · subst h4
    exact ⟨.func (.func 66) #[] #[], true, .inr ⟨rfl, by decide, by decide, _, rfl, enters_of Tryd.func66 (by kernel_rfl) rfl, fun _ _ _ n _ a b c d e f => notGreater_any n a b c d e f⟩, fun W => run_look_some 4 3 (fnEntry 4 _ 3) hT hK (World.alloc_heap_new W _) rfl⟩
  by_cases h5 : op = 5
  · subst h5
    exact ⟨.func (.func 67) #[] #[], true, .inr ⟨rfl, by decide, by decide, _, rfl, enters_of Tryd.func67 (by kernel_rfl) rfl, fun _ _ _ n _ a b c d e f => greater_any n a b c d e f⟩, fun W => run_look_some 5 4 (fnEntry 5 _ 4) hT hK (World.alloc_heap_new W _) rfl⟩
  by_cases h6 : op = 6
  · subst h6
    exact ⟨.func (.func 68) #[] #[], true, .inr ⟨rfl, by decide, by decide, _, rfl, enters_of Tryd.func68 (by kernel_rfl) rfl, fun _ _ _ n _ a b c d e f => notLess_any n a b c d e f⟩, fun W => run_look_some 6 5 (fnEntry 6 _ 5) hT hK (World.alloc_heap_new W _) rfl⟩
  · refine ⟨.nilFunc, false, .inl ⟨rfl, by omega⟩, fun W => run_look_none op _ hT hK (World.alloc_heap_new W _) (fun x hx => ?_) (zero_find _)⟩
    simp [fn6] at hx
    rcases hx with rfl | rfl | rfl | rfl | rfl | rfl
    · exact ⟨1, rfl, Ne.symm h1⟩
    · exact ⟨2, rfl, Ne.symm h2⟩
    · exact ⟨3, rfl, Ne.symm h3⟩
    · exact ⟨4, rfl, Ne.symm h4⟩
    · exact ⟨5, rfl, Ne.symm h5⟩
    · exact ⟨6, rfl, Ne.symm h6⟩

theorem cmpB_no {b : Sl} {op n : Int} (h : ¬ (1 ≤ op ∧ op ≤ 6) ∨ isRightB b = false) : cmpB b op n = ([], 80) := by
  unfold cmpB
  refine if_neg ?_
  rintro ⟨h1, h2, h3⟩
  rcases h with h | h
  · exact h ⟨h1, h2⟩
  · rw [h3] at h; cases h
theorem cmpB_yes {b : Sl} {op n : Int} (h1 : 1 ≤ op ∧ op ≤ 6) (h2 : isRightB b = true) : cmpB b op n = (findB b op n, 0) := if_pos ⟨h1.1, h1.2, h2⟩

set_option linter.unusedSimpArgs false in
set_option maxRecDepth 100000 in
set_option maxHeartbeats 2000000 in
theorem compare_any {b : Sl} {vE vB : Value} (op n : Int) {w : World} (hE : HC w vE b.ex) (hB : HR w vB b.bits) (hs : SmallB b) (hn : -9223372036854775808 ≤ n ∧ n ≤ 9223372036854775807) (hT : Tab w) :
    Calls Tryd.prog 32 #[.agg #[.int .i64 b.n, .int .i64 b.least, vE, vB], .int .i64 op, .int .i64 n] w fun e W' => ∃ v, e = .returned (.tuple #[.agg #[v], .int .i64 (cmpB b op n).2]) ∧ HC W' v (cmpB b op n).1 ∧ Below w.heap.size w W' := by
  have hmm := @run_makeMap Tryd.prog
  obtain ⟨pE, cE, rfl, -, -⟩ := Hid.out hE
  obtain ⟨pB, cB, rfl, -, -⟩ := Hid.out hB
  obtain ⟨fv, there, hdl, hlk⟩ := look6 op
  have hno := Lib.hid (@cmpB_no b op n)
  have hyes := Lib.hid (@cmpB_yes b op n)
  have hfr : Hid (isRightB b = true → 1 ≤ op → op ≤ 6 → rightL (findB b op n) = true) := fun h _ _ => (findB_spec ((right_iff ⟨hs.lo, hs.hi⟩).1 h) op n).1
  have hrc : Hid (isRightB b = true → IsCol b) := fun h => (right_iff ⟨hs.lo, hs.hi⟩).1 h
  have kR : Hid (∀ W, Below w.heap.size w W → Calls Tryd.prog 47 #[.agg #[.int .i64 b.n, .int .i64 b.least, .slice pE b.ex.length cE, .slice pB b.bits.length cB]] W fun e W' => e = .returned (.bool (isRightB b)) ∧ Below W.heap.size W W') := fun W h => isRight_any (hE.later h) (hB.later h) hs (hT.below h hT.lt)
  have kF : Hid (isRightB b = true → ∀ g W, Finds g op → Below w.heap.size w W → Calls Tryd.prog g #[.agg #[.int .i64 b.n, .int .i64 b.least, .slice pE b.ex.length cE, .slice pB b.bits.length cB], .int .i64 n] W fun e W' => ∃ v, e = .returned (.agg #[v]) ∧ HC W' v (findB b op n) ∧ Below W.heap.size W W') := fun hr g W hg h => hg _ _ _ n _ (hE.later h) (hB.later h) hs (hrc.out hr) hn (hT.below h hT.lt)
  have kO : Hid (isRightB b = true → 1 ≤ op → op ≤ 6 → ∀ W v, Below w.heap.size w W → HC W v (findB b op n) → Calls Tryd.prog 69 #[.agg #[v], .agg #[.slice none 0 0]] W fun e W' => ∃ v', e = .returned (.agg #[v']) ∧ HC W' v' (findB b op n) ∧ Below W.heap.size W W') := fun hr h1 h2 W v h hv => by
    have := or_any hv (HC.nil W none 0) (small_right (hfr.out hr h1 h2)) small_nil (hT.below h hT.lt)
    rwa [or_nil (hfr.out hr h1 h2)] at this
  clear hE hB hs hn hT hrc hfr
  generalize cmpB b op n = g at *
  generalize isRightB b = q at *
  generalize findB b op n = fl at *
  obtain ⟨N, least, ex, bs⟩ := b
  dsimp only at *
  generalize ex.length = lE at *
  generalize bs.length = lB at *
  have b0 := (((SBox.new w 31 N least (.slice pE lE cE) (.slice pB lB cB)).alloc (.cells #[.slice none 0 0] 28)).alloc (.cells #[.int .i64 N, .int .i64 least, .slice pE lE cE, .slice pB lB cB] 83)).alloc (.map (fn6 63 64 65 66 67 68) 6)
  have r0 := ((RBox.new (w.alloc (.cells #[.int .i64 N, .int .i64 least, .slice pE lE cE, .slice pB lB cB] 31)) (.slice none 0 0)).alloc (.cells #[.int .i64 N, .int .i64 least, .slice pE lE cE, .slice pB lB cB] 83)).alloc (.map (fn6 63 64 65 66 67 68) 6)
  have b2 := (SBox.new ((w.alloc (.cells #[.int .i64 N, .int .i64 least, .slice pE lE cE, .slice pB lB cB] 31)).alloc (.cells #[.slice none 0 0] 28)) 83 N least (.slice pE lE cE) (.slice pB lB cB)).alloc (.map (fn6 63 64 65 66 67 68) 6)
  have hR : Below w.heap.size w ((((w.alloc (.cells #[.int .i64 N, .int .i64 least, .slice pE lE cE, .slice pB lB cB] 31)).alloc (.cells #[.slice none 0 0] 28)).alloc (.cells #[.int .i64 N, .int .i64 least, .slice pE lE cE, .slice pB lB cB] 83)).alloc (.map (fn6 63 64 65 66 67 68) 6)) := ((((Below.refl w.heap.size w).alloc (Nat.le_refl _) _).alloc (by simp) _).alloc (by simp; omega) _).alloc (by simp; omega) _
  obtain ⟨i1, i2, i3, i4, i5, i6⟩ := insert6 (P := Tryd.prog) (T := 106) (((w.alloc (.cells #[.int .i64 N, .int .i64 least, .slice pE lE cE, .slice pB lB cB] 31)).alloc (.cells #[.slice none 0 0] 28)).alloc (.cells #[.int .i64 N, .int .i64 least, .slice pE lE cE, .slice pB lB cB] 83)) 63 64 65 66 67 68 Tryd.underlying106 Tryd.underlying3
  have i7 := hlk (((w.alloc (.cells #[.int .i64 N, .int .i64 least, .slice pE lE cE, .slice pB lB cB] 31)).alloc (.cells #[.slice none 0 0] 28)).alloc (.cells #[.int .i64 N, .int .i64 least, .slice pE lE cE, .slice pB lB cB] 83))
  simp only [World.size_alloc] at i1 i2 i3 i4 i5 i6 i7 b2 r0
  have f1 := r0.frozen; have e1 := r0.cell
  have d0 := b2.c0; have d1 := b2.c1; have d2 := b2.c2; have d3 := b2.c3
  have b2' := Lib.hid b2
  have r0' := Lib.hid r0
  have hR' := Lib.hid hR
  have hdl' := Lib.hid hdl
  clear b0 hlk hR hdl
  go_enter Tryd.func32, Tryd.ntmps32
  cases there with
  | false =>
    have hno2 : ¬ (1 ≤ op ∧ op ≤ 6) := by
      rcases hdl'.out with ⟨_, h⟩ | ⟨h, _⟩
      · exact h
      · cases h
    have hg := hno.out (.inl hno2)
    subst hg
    clear hno hyes hno2 kF kO kR hdl' b2 r0
    go_wp2
    refine bodyPost_ret (v := .tuple #[.agg #[.slice none 0 0], .int .i64 80]) ?_ rfl ⟨_, rfl, HC.nil _ _ _, hR'.out⟩
    simp [results, Tryd.results32, go_sem, e1]
  | true =>
    have hop : 1 ≤ op ∧ op ≤ 6 := by
      rcases hdl'.out with ⟨h, _⟩ | ⟨_, h1, h2, _⟩
      · cases h
      · exact ⟨h1, h2⟩
    obtain ⟨gf, rfl, hent, hfi⟩ : ∃ gf : FuncId, fv = .func (.func gf) #[] #[] ∧ (∀ args w, (callFunc gf args).run Tryd.prog w = .ok (.enter gf args) w) ∧ Finds gf op := by
      rcases hdl'.out with ⟨h, _⟩ | ⟨_, _, _, h⟩
      · cases h
      · exact h
    have hop' := Lib.hid hop
    have hfi' : Hid (Finds gf op) := hfi
    clear hdl' hop hfi
    have k0 := Lib.hid (kR.out _ hR'.out)
    cases q with
    | false =>
      have hg := hno.out (.inr rfl)
      subst hg
      clear hno hyes kF kO kR b2 r0
      go_wp2_with (go_at_call 47; refine (k0.out).mono ?_; rintro e W2 ⟨rfl, hb2⟩; have y1 := r0'.out.later hb2; have f2 := y1.frozen; have e2 := y1.cell)
      have d4 := (y1.set (.slice none 0 0)).cell
      refine bodyPost_ret (v := .tuple #[.agg #[.slice none 0 0], .int .i64 80]) ?_ rfl ⟨_, rfl, HC.nil _ _ _, (hR'.out.trans (hb2.mono hR'.out.size)).setCell (p := ⟨w.heap.size + 1, 0, none⟩) (by simp) _⟩
      simp [results, Tryd.results32, go_sem, d4]
    | true =>
      have hg := hyes.out hop'.out rfl
      subst hg
      have kF' := Lib.hid (kF.out rfl gf)
      have kO' := Lib.hid (kO.out rfl hop'.out.1 hop'.out.2)
      clear hno hyes kF kO kR b2 r0
      go_wp2_with (first
        | (go_at_call 47; refine (k0.out).mono ?_; rintro e W2 ⟨rfl, hb2⟩; have hB2 := Lib.hid (hR'.out.trans (hb2.mono hR'.out.size)); have x2 := Lib.hid (b2'.out.later hb2); have y2 := Lib.hid (r0'.out.later hb2); have e0 := x2.out.c0; have e1 := x2.out.c1; have e2 := x2.out.c2; have e3 := x2.out.c3; have kf := Lib.hid (kF'.out W2 hfi'.out hB2.out))
        | (go_at_call 69; refine (kO'.out _ _ hB3.out hv3).mono ?_; rintro e W4 ⟨v4, rfl, hv4, hb4⟩; obtain ⟨p4, c4, rfl, -, -⟩ := Hid.out hv4; have y4 := y3.out.later hb4; have f4 := y4.frozen; have e4 := y4.cell)
        | (refine (kf.out).mono ?_; rintro e W3 ⟨v3, rfl, hv3, hb3⟩; obtain ⟨p3, c3, rfl, -, -⟩ := Hid.out hv3; have hB3 := Lib.hid (hB2.out.trans (hb3.mono hB2.out.size)); have y3 := Lib.hid (y2.out.later hb3)))
      have d4 := (y4.set (.slice p4 fl.length c4)).cell
      refine bodyPost_ret (v := .tuple #[.agg #[.slice p4 fl.length c4], .int .i64 0]) ?_ rfl ⟨_, rfl, hv4.setR y4 _, (hB3.out.trans (hb4.mono hB3.out.size)).setCell (p := ⟨w.heap.size + 1, 0, none⟩) (by simp) _⟩
      simp [results, Tryd.results32, go_sem, d4]

set_option linter.unusedSimpArgs false in
set_option maxRecDepth 100000 in
set_option maxHeartbeats 2000000 in
theorem between_any {b : Sl} {vE vB : Value} (x y : Int) {w : World} (hE : HC w vE b.ex) (hB : HR w vB b.bits) (hs : SmallB b) (hx : -9223372036854775808 ≤ x ∧ x ≤ 9223372036854775807) (hy : -9223372036854775808 ≤ y ∧ y ≤ 9223372036854775807) (hT : Tab w) :
    Calls Tryd.prog 36 #[.agg #[.int .i64 b.n, .int .i64 b.least, vE, vB], .int .i64 x, .int .i64 y] w fun e W' => ∃ v, e = .returned (.tuple #[.agg #[v], .int .i64 (btwB b x y).2]) ∧ HC W' v (btwB b x y).1 ∧ Below w.heap.size w W' := by
  obtain ⟨pE, cE, rfl, -, -⟩ := Hid.out hE
  obtain ⟨pB, cB, rfl, -, -⟩ := Hid.out hB
  have hno : Hid (isRightB b = false → btwB b x y = ([], 80)) := fun h => if_neg (by rw [h]; decide)
  have hyes : Hid (isRightB b = true → btwB b x y = (andL (wiL b.ex (partB b x).1) (wiL b.ex (partB b y).2.2), 0)) := fun h => if_pos h
  have hrc : Hid (isRightB b = true → IsCol b) := fun h => (right_iff ⟨hs.lo, hs.hi⟩).1 h
  have kR : Hid (∀ W, Below w.heap.size w W → Calls Tryd.prog 47 #[.agg #[.int .i64 b.n, .int .i64 b.least, .slice pE b.ex.length cE, .slice pB b.bits.length cB]] W fun e W' => e = .returned (.bool (isRightB b)) ∧ Below W.heap.size W W') := fun W h => isRight_any (hE.later h) (hB.later h) hs (hT.below h hT.lt)
  have k1 : Hid (isRightB b = true → ∀ W, Below w.heap.size w W → Calls Tryd.prog 68 #[.agg #[.int .i64 b.n, .int .i64 b.least, .slice pE b.ex.length cE, .slice pB b.bits.length cB], .int .i64 x] W fun e W' => ∃ v, e = .returned (.agg #[v]) ∧ HC W' v (wiL b.ex (partB b x).1) ∧ Below W.heap.size W W') := fun hr W h => notLess_any x (hE.later h) (hB.later h) hs (hrc.out hr) hx (hT.below h hT.lt)
  have k2 : Hid (isRightB b = true → ∀ W, Below w.heap.size w W → Calls Tryd.prog 66 #[.agg #[.int .i64 b.n, .int .i64 b.least, .slice pE b.ex.length cE, .slice pB b.bits.length cB], .int .i64 y] W fun e W' => ∃ v, e = .returned (.agg #[v]) ∧ HC W' v (wiL b.ex (partB b y).2.2) ∧ Below W.heap.size W W') := fun hr W h => notGreater_any y (hE.later h) (hB.later h) hs (hrc.out hr) hy (hT.below h hT.lt)
  have k3 : Hid (isRightB b = true → ∀ W v u, Below w.heap.size w W → HC W v (wiL b.ex (partB b x).1) → HR W u [wiL b.ex (partB b y).2.2] → Calls Tryd.prog 49 #[.agg #[v], u] W fun e W' => ∃ v', e = .returned (.agg #[v']) ∧ HC W' v' (andL (wiL b.ex (partB b x).1) (wiL b.ex (partB b y).2.2)) ∧ Below W.heap.size W W') := fun hr W v u h hv hu => by
    have hc := hrc.out hr
    exact and_any hv hu (small_right (wi_some hc.rex (partB_spec hc x).r1).2.1) (small_right (wi_some hc.rex (partB_spec hc y).r3).2.1) (hT.below h hT.lt)
  clear hE hB hs hx hy hT hrc
  generalize btwB b x y = g at *
  generalize isRightB b = q at *
  generalize wiL b.ex (partB b x).1 = L1 at *
  generalize wiL b.ex (partB b y).2.2 = L2 at *
  obtain ⟨N, least, ex, bs⟩ := b
  dsimp only at *
  generalize ex.length = lE at *
  generalize bs.length = lB at *
  have r0 := (RBox.new (w.alloc (.cells #[.int .i64 N, .int .i64 least, .slice pE lE cE, .slice pB lB cB] 31)) (.slice none 0 0)).alloc (.cells #[.int .i64 N, .int .i64 least, .slice pE lE cE, .slice pB lB cB] 83)
  have b2 := SBox.new ((w.alloc (.cells #[.int .i64 N, .int .i64 least, .slice pE lE cE, .slice pB lB cB] 31)).alloc (.cells #[.slice none 0 0] 28)) 83 N least (.slice pE lE cE) (.slice pB lB cB)
  have hR : Below w.heap.size w (((w.alloc (.cells #[.int .i64 N, .int .i64 least, .slice pE lE cE, .slice pB lB cB] 31)).alloc (.cells #[.slice none 0 0] 28)).alloc (.cells #[.int .i64 N, .int .i64 least, .slice pE lE cE, .slice pB lB cB] 83)) := (((Below.refl w.heap.size w).alloc (Nat.le_refl _) _).alloc (by simp) _).alloc (by simp; omega) _
  simp only [World.size_alloc] at b2 r0
  have b2' := Lib.hid b2
  have r0' := Lib.hid r0
  have hR' := Lib.hid hR
  have k0 := Lib.hid (kR.out _ hR)
  clear hR r0 b2 kR
  go_enter Tryd.func36, Tryd.ntmps36
  cases q with
  | false =>
    have hg := hno.out rfl
    subst hg
    clear hno hyes k1 k2 k3
    go_wp2_with (go_at_call 47; refine (k0.out).mono ?_; rintro e W2 ⟨rfl, hb2⟩; have y1 := r0'.out.later hb2; have f2 := y1.frozen; have e2 := y1.cell)
    have d4 := (y1.set (.slice none 0 0)).cell
    refine bodyPost_ret (v := .tuple #[.agg #[.slice none 0 0], .int .i64 80]) ?_ rfl ⟨_, rfl, HC.nil _ _ _, (hR'.out.trans (hb2.mono hR'.out.size)).setCell (p := ⟨w.heap.size + 1, 0, none⟩) (by simp) _⟩
    simp [results, Tryd.results36, go_sem, d4]
  | true =>
    have hg := hyes.out rfl
    subst hg
    have k1' := Lib.hid (k1.out rfl)
    have k2' := Lib.hid (k2.out rfl)
    have k3' := Lib.hid (k3.out rfl)
    clear hno hyes k1 k2 k3
    go_wp2_with (go_at_call 47; refine (k0.out).mono ?_; rintro e W2 ⟨rfl, hb2⟩)
    have hB2 := hR'.out.trans (hb2.mono hR'.out.size)
    have x2 := b2'.out.later hb2
    have y2 := Lib.hid (r0'.out.later hb2)
    have hMd : (fun W' : World => Hid (Below w.heap.size w W') ∧ Hid (SBox W' 83 (w.heap.size + 1 + 1) N least (.slice pE lE cE) (.slice pB lB cB)) ∧ W'.cell? ⟨w.heap.size + 1 + 1, 0, none⟩ = some (.int .i64 N) ∧ W'.cell? ⟨w.heap.size + 1 + 1, 1, none⟩ = some (.int .i64 least) ∧ W'.cell? ⟨w.heap.size + 1 + 1, 2, none⟩ = some (.slice pE lE cE) ∧ W'.cell? ⟨w.heap.size + 1 + 1, 3, none⟩ = some (.slice pB lB cB)) W2.drew := ⟨Lib.hid hB2.drew, Lib.hid x2, x2.c0, x2.c1, x2.c2, x2.c3⟩
    have y2' : Hid (RBox W2.drew (w.heap.size + 1) (.slice none 0 0)) := y2
    clear k0 b2' r0' hb2 hB2 x2 y2
    refine region_late (S := (fun W' : World => Hid (Below w.heap.size w W') ∧ Hid (SBox W' 83 (w.heap.size + 1 + 1) N least (.slice pE lE cE) (.slice pB lB cB)) ∧ W'.cell? ⟨w.heap.size + 1 + 1, 0, none⟩ = some (.int .i64 N) ∧ W'.cell? ⟨w.heap.size + 1 + 1, 1, none⟩ = some (.int .i64 least) ∧ W'.cell? ⟨w.heap.size + 1 + 1, 2, none⟩ = some (.slice pE lE cE) ∧ W'.cell? ⟨w.heap.size + 1 + 1, 3, none⟩ = some (.slice pB lB cB))) (fun n => n == 8 || n == 9) (by kernel_rfl) hMd (fun hHeld => ?_)
    clear hMd
    generalize World.drew W2 = Wd at *
    refine wpAnyL_take (i := 0) (oi := { dst := some 15, op := _, type := _, pos := _, after := _, guard := _ }) (v := ?v1) rfl (by kernel_rfl) (by kernel_rfl) (by kernel_rfl) (by kernel_rfl) (fun _ _ _ h => h) (Or.inl ⟨by kernel_rfl, ?y1⟩) hHeld ?r1
    case y1 =>
      intro w hSw
      try dsimp only at hSw
      try simp only [List.getElem_toArray, List.getElem_cons_zero, List.getElem_cons_succ]
      go_simp
      try with_reducible rfl
    try simp only [List.getElem_toArray, List.getElem_cons_zero, List.getElem_cons_succ, Act.put, List.setIfInBounds_toArray, List.set_cons_zero, List.set_cons_succ]
    refine wpAnyL_take (i := 1) (oi := { dst := some 16, op := _, type := _, pos := _, after := _, guard := _ }) (v := ?v2) rfl (by kernel_rfl) (by kernel_rfl) (by kernel_rfl) (by kernel_rfl) (fun _ _ _ h => h) (Or.inl ⟨by kernel_rfl, ?y2⟩) hHeld ?r2
    case y2 =>
      intro w hSw
      try dsimp only at hSw
      try simp only [List.getElem_toArray, List.getElem_cons_zero, List.getElem_cons_succ]
      go_simp
      try with_reducible rfl
    try simp only [List.getElem_toArray, List.getElem_cons_zero, List.getElem_cons_succ, Act.put, List.setIfInBounds_toArray, List.set_cons_zero, List.set_cons_succ]
    refine wpAnyL_take (i := 3) (oi := { dst := some 18, op := _, type := _, pos := _, after := _, guard := _ }) (v := ?v3) rfl (by kernel_rfl) (by kernel_rfl) (by kernel_rfl) (by kernel_rfl) (fun _ _ _ h => h) (Or.inl ⟨by kernel_rfl, ?y3⟩) hHeld ?r3
    case y3 =>
      intro w hSw
      try dsimp only at hSw
      try simp only [List.getElem_toArray, List.getElem_cons_zero, List.getElem_cons_succ]
      go_simp
      try with_reducible rfl
    try simp only [List.getElem_toArray, List.getElem_cons_zero, List.getElem_cons_succ, Act.put, List.setIfInBounds_toArray, List.set_cons_zero, List.set_cons_succ]
    refine wpAnyL_take (i := 4) (oi := { dst := some 19, op := _, type := _, pos := _, after := _, guard := _ }) (v := ?v4) rfl (by kernel_rfl) (by kernel_rfl) (by kernel_rfl) (by kernel_rfl) (fun _ _ _ h => h) (Or.inl ⟨by kernel_rfl, ?y4⟩) hHeld ?r4
    case y4 =>
      intro w hSw
      try dsimp only at hSw
      try simp only [List.getElem_toArray, List.getElem_cons_zero, List.getElem_cons_succ]
      go_simp
      try with_reducible rfl
    try simp only [List.getElem_toArray, List.getElem_cons_zero, List.getElem_cons_succ, Act.put, List.setIfInBounds_toArray, List.set_cons_zero, List.set_cons_succ]
    refine wpAnyL_one (i := 2) (by kernel_rfl) rfl (fun K hK => ?_)
    try simp only [List.getElem_toArray, List.getElem_cons_zero, List.getElem_cons_succ]
    go_simp
    go_at_call 68
    refine (k1'.out _ hHeld.1.out).mono ?_
    rintro e Wn2 ⟨v2, rfl, hv2, hbn⟩
    replace y2' := Lib.hid (y2'.out.later hbn)
    obtain ⟨p2, c2, rfl, -, -⟩ := Hid.out hv2
    have hnew := Lib.hid (col_keep' hbn hHeld.1 hHeld.2.1)
    refine hK.out _ _ (fun _ => hnew.out) ?_
    have hHeld' := hnew.out
    clear hHeld hnew hK K hbn
    have hHeld := hHeld'
    clear hHeld'
    try simp only [List.getElem_toArray, List.getElem_cons_zero, List.getElem_cons_succ, Act.put, List.setIfInBounds_toArray, List.set_cons_zero, List.set_cons_succ]
    refine wpAnyL_one (i := 5) (by kernel_rfl) rfl (fun K hK => ?_)
    try simp only [List.getElem_toArray, List.getElem_cons_zero, List.getElem_cons_succ]
    go_simp
    go_at_call 66
    refine (k2'.out _ hHeld.1.out).mono ?_
    rintro e Wn5 ⟨v5, rfl, hv5, hbn⟩
    replace y2' := Lib.hid (y2'.out.later hbn)
    replace hv2 := hv2.later hbn
    obtain ⟨p5, c5, rfl, -, -⟩ := Hid.out hv5
    have hnew := Lib.hid (col_keep' hbn hHeld.1 hHeld.2.1)
    refine hK.out _ _ (fun _ => hnew.out) ?_
    have hHeld' := hnew.out
    clear hHeld hnew hK K hbn
    have hHeld := hHeld'
    clear hHeld'
    try simp only [List.getElem_toArray, List.getElem_cons_zero, List.getElem_cons_succ, Act.put, List.setIfInBounds_toArray, List.set_cons_zero, List.set_cons_succ]
    refine wpAnyL_one (i := 6) (by kernel_rfl) rfl (fun K hK => ?_)
    try simp only [List.getElem_toArray, List.getElem_cons_zero, List.getElem_cons_succ]
    go_simp
    have hrow := row_new hHeld (.slice p5 L2.length c5)
    replace y2' := Lib.hid (y2'.out.alloc (.cells #[.slice p5 L2.length c5] 28))
    replace hv2 := hv2.alloc (.cells #[.slice p5 L2.length c5] 28)
    replace hv5 := hv5.alloc (.cells #[.slice p5 L2.length c5] 28)
    refine (fun (hnew : (fun W' : World => Hid (Below w.heap.size w W') ∧ Hid (SBox W' 83 (w.heap.size + 1 + 1) N least (.slice pE lE cE) (.slice pB lB cB)) ∧ W'.cell? ⟨w.heap.size + 1 + 1, 0, none⟩ = some (.int .i64 N) ∧ W'.cell? ⟨w.heap.size + 1 + 1, 1, none⟩ = some (.int .i64 least) ∧ W'.cell? ⟨w.heap.size + 1 + 1, 2, none⟩ = some (.slice pE lE cE) ∧ W'.cell? ⟨w.heap.size + 1 + 1, 3, none⟩ = some (.slice pB lB cB)) _) => hK.out _ _ (fun _ => hnew) ?_) ?keep5
    case keep5 => exact (col_keep' ((Below.refl _ _).alloc (Nat.le_refl _) _) hHeld.1 hHeld.2.1)
    have hHeld' := hnew
    dsimp only at hHeld'
    clear hHeld hnew hK K
    have hHeld := hHeld'
    clear hHeld'
    try simp only [List.getElem_toArray, List.getElem_cons_zero, List.getElem_cons_succ, Act.put, List.setIfInBounds_toArray, List.set_cons_zero, List.set_cons_succ]
    refine wpAnyL_one (i := 7) (by kernel_rfl) rfl (fun K hK => ?_)
    try simp only [List.getElem_toArray, List.getElem_cons_zero, List.getElem_cons_succ]
    go_simp
    go_at_call 49
    refine (k3'.out _ _ _ hHeld.1.out hv2 (HR.one hv5 hrow)).mono ?_
    rintro e Wn7 ⟨v7, rfl, hv7, hbn⟩
    replace y2' := Lib.hid (y2'.out.later hbn)
    obtain ⟨p7, c7, rfl, -, -⟩ := Hid.out hv7
    have hnew := Lib.hid (col_keep' hbn hHeld.1 hHeld.2.1)
    refine hK.out _ _ (fun _ => hnew.out) ?_
    have hHeld' := hnew.out
    clear hHeld hnew hK K hbn
    have hHeld := hHeld'
    clear hHeld'
    try simp only [List.getElem_toArray, List.getElem_cons_zero, List.getElem_cons_succ, Act.put, List.setIfInBounds_toArray, List.set_cons_zero, List.set_cons_succ]
    refine wpAnyL_one (i := 8) (by kernel_rfl) rfl (fun K hK => ?_)
    have f4 := y2'.out.frozen
    have e4 := y2'.out.cell
    try simp only [List.getElem_toArray, List.getElem_cons_zero, List.getElem_cons_succ]
    go_simp
    refine hK.out _ _ (fun h => by cases h) ?_
    clear hK K
    try simp only [List.getElem_toArray, List.getElem_cons_zero, List.getElem_cons_succ, Act.put, List.setIfInBounds_toArray, List.set_cons_zero, List.set_cons_succ]
    refine wpAnyL_one (i := 9) (by kernel_rfl) rfl (fun K hK => ?_)
    try simp only [List.getElem_toArray, List.getElem_cons_zero, List.getElem_cons_succ]
    go_simp
    refine hK.out _ _ (fun h => by cases h) ?_
    clear hK K
    try simp only [List.getElem_toArray, List.getElem_cons_zero, List.getElem_cons_succ, Act.put, List.setIfInBounds_toArray, List.set_cons_zero, List.set_cons_succ]
    refine wpAnyL_done (by kernel_rfl) (OnlyN.normal ?_) _
    have d4 := (y2'.out.set (.slice p7 (andL L1 L2).length c7)).cell
    have hBf := hHeld.1.out.setCell (p := ⟨w.heap.size + 1, 0, none⟩) (by simp) (.slice p7 (andL L1 L2).length c7)
    clear f4 e4 hHeld
    go_wp2
    refine bodyPost_ret (v := .tuple #[.agg #[.slice p7 (andL L1 L2).length c7], .int .i64 0]) ?_ rfl ⟨_, rfl, hv7.setR y2'.out _, hBf⟩
    simp [results, Tryd.results36, go_sem, d4]
end Go.Proofs.YtnigpmbpipmgfaaDoor
