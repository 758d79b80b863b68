/-
  Sum.
-/
import Derived.Test.YtnigpmbpipmgfaaDoorBsC
import Derived.Test.YtnigpmbpipmgfaaDoorBsWV
namespace Go.Proofs.YtnigpmbpipmgfaaDoor
open Go.RowKit Tess

/-- How many numbers. -/
def cntN (l : List Ch) : Nat := ((List.range 65536).filter (bitL l)).length
theorem cntN_le (l : List Ch) : cntN l ≤ 65536 := by
  have := List.length_filter_le (bitL l) (List.range 65536)
  rwa [List.length_range] at this
theorem cntN_eq {l : List Ch} (h : rightL l = true) : cntL l = (cntN l : Int) := cntL_bits h
def accU (bits : List (List Ch)) (rows : List Ch) (z : Int) : Nat → Int
  | 0 => z
  | k + 1 => accU bits rows z k + (cntN (andL (bits[k]?.getD []) rows) : Int) * 2 ^ k
/-- Sum(b, rows). -/
def sumB (b : Sl) (rows : List Ch) : Int × Int × Int :=
  if isRightB b = true ∧ rightL rows = true then (accU b.bits rows (b.least * (cntN (andL b.ex rows) : Int)) b.bits.length, (cntN (andL b.ex rows) : Int), 0) else (0, 0, 80)
theorem WBox.set {W : World} {b : Nat} {z : Int} (h : WBox W b z) (y : Int) : WBox ((W.setCell ⟨b, 0, none⟩ (.int .i64 (hiW y))).setCell ⟨b, 1, none⟩ (.int .u64 (loW y))) b y := by
  unfold WBox at *
  have h1 := Go.heap_setCell_same W b 0 _ _ (.int .i64 (hiW y)) h
  have h2 := Go.heap_setCell_same _ b 1 _ _ (.int .u64 (loW y)) h1
  rw [h2]
  simp
theorem WBox.far {W : World} {b : Nat} {z : Int} (h : WBox W b z) {p : Addr} (hp : b ≠ p.block) (u : Value) : WBox (W.setCell p u) b z := (Below.heap_setCell W p u b hp).trans h
theorem and_fresh {la lb : List Ch} {va vb : Value} {W : World} (h1 : HC W va la) (h2 : HC W vb lb) (hs1 : Small la) (hs2 : Small lb) (hT : Tab W) :
    Calls Tryd.prog 49 #[.agg #[va], .slice (some ⟨W.heap.size, 0, none⟩) 1 1] (W.alloc (.cells #[vb] 28)) fun e W' => ∃ v', e = .returned (.agg #[v']) ∧ HC W' v' (andL la lb) ∧ Below W.heap.size W W' := by
  have hR : Below W.heap.size W (W.alloc (.cells #[vb] 28)) := (Below.refl W.heap.size W).alloc (Nat.le_refl _) _
  refine (and_any (h1.later hR) (HR.one (h2.later hR) (RBox.new W vb)) hs1 hs2 (hT.below hR hT.lt)).mono ?_
  rintro e W' ⟨v', rfl, hv, hb⟩
  exact ⟨v', rfl, hv, hR.trans (hb.mono hR.size)⟩
theorem sumB_no {b : Sl} {rows : List Ch} (h : ¬ (isRightB b = true ∧ rightL rows = true)) : sumB b rows = (0, 0, 80) := if_neg h
theorem sumB_yes {b : Sl} {rows : List Ch} (h : isRightB b = true ∧ rightL rows = true) : sumB b rows = (accU b.bits rows (b.least * (cntN (andL b.ex rows) : Int)) b.bits.length, (cntN (andL b.ex rows) : Int), 0) := if_pos h

theorem HR.at {W : World} {p : Option Addr} {n cap : Nat} {ls : List (List Ch)} (h : HR W (.slice p n cap) ls) (j : Nat) (hj : j < ls.length) : ∃ b off pu cu, p = some ⟨b, off, none⟩ ∧ b < W.heap.size ∧ W.cell? ⟨b, off + j, none⟩ = some (.slice pu (ls[j]?.getD []).length cu) ∧ HC W (.slice pu (ls[j]?.getD []).length cu) (ls[j]?.getD []) := by
  obtain ⟨p', c', e, -, hc⟩ := Hid.out h
  cases e
  obtain ⟨b, off, u, h1, h2, h3, h4⟩ := hc j hj
  rw [List.getElem?_eq_getElem hj]
  have h5 : HC W u ls[j] := Lib.hid h4
  obtain ⟨pu, cu, rfl, -, -⟩ := Hid.out h5
  exact ⟨b, off, pu, cu, h1, h2, h3, h5⟩

/-- What Sum's loop holds. -/
structure SumAt (w wr : World) (vr : Value) (rows : List Ch) (B9 : Nat) (z : Int) : Prop where
  rb : RBox wr (w.heap.size + 1) vr
  res : WBox wr (w.heap.size + 1 + 1) 0
  acc : WBox wr B9 z
  lo : w.heap.size + 4 ≤ B9
  below : Below w.heap.size w wr

theorem SumAt.step {w wr Wn : World} {vr : Value} {rows : List Ch} {B9 : Nat} {z : Int} (h : SumAt w wr vr rows B9 z) (hb : Below wr.heap.size wr Wn) (y : Int) :
    SumAt w ((Wn.setCell ⟨B9, 0, none⟩ (.int .i64 (hiW y))).setCell ⟨B9, 1, none⟩ (.int .u64 (loW y))) vr rows B9 y := by
  have hl := h.lo
  exact ⟨((h.rb.later hb).far (p := ⟨B9, 0, none⟩) (by dsimp only; omega) _).far (p := ⟨B9, 1, none⟩) (by dsimp only; omega) _, ((h.res.later hb).far (p := ⟨B9, 0, none⟩) (by dsimp only; omega) _).far (p := ⟨B9, 1, none⟩) (by dsimp only; omega) _, (h.acc.later hb).set y, hl,
    ((h.below.trans (hb.mono h.below.size)).setCell (p := ⟨B9, 0, none⟩) (by dsimp only; omega) _).setCell (p := ⟨B9, 1, none⟩) (by dsimp only; omega) _⟩

set_option linter.unusedSimpArgs false in
set_option maxRecDepth 100000 in
set_option maxHeartbeats 4000000 in
theorem sumB_any {b : Sl} {rows : List Ch} {vE vB vr : Value} {w : World} (hE : HC w vE b.ex) (hB : HR w vB b.bits) (hr : HC w vr rows) (hs : SmallB b) (hsr : Small rows) (hT : Tab w) :
    Calls Tryd.prog 16 #[.agg #[.int .i64 b.n, .int .i64 b.least, vE, vB], .agg #[vr]] w fun e W' => e = .returned (.tuple #[wdV (sumB b rows).1, .int .i64 (sumB b rows).2.1, .int .i64 (sumB b rows).2.2]) ∧ Below w.heap.size w W' := by
  obtain ⟨pE, cE, rfl, -, -⟩ := Hid.out hE
  obtain ⟨pB, cB, rfl, -, -⟩ := Hid.out hB
  obtain ⟨pr, cr, rfl, -, -⟩ := Hid.out hr
  have hno := Lib.hid (@sumB_no b rows)
  have hyes := Lib.hid (@sumB_yes b rows)
  have hrc : Hid (isRightB b = true → IsCol b) := fun h => (right_iff ⟨hs.lo, hs.hi⟩).1 h
  have kR : Hid (∀ W, Below w.heap.size w W → Calls Tryd.prog 47 #[.agg #[.int .i64 b.n, .int .i64 b.least, .slice pE b.ex.length cE, .slice pB b.bits.length cB]] W fun e W' => e = .returned (.bool (isRightB b)) ∧ Below W.heap.size W W') := fun W h => isRight_any (hE.later h) (hB.later h) hs (hT.below h hT.lt)
  have kr : Hid (∀ W, Below w.heap.size w W → Calls Tryd.prog 48 #[.agg #[.slice pr rows.length cr]] W fun e W' => e = .returned (.bool (rightL rows)) ∧ Below W.heap.size W W') := fun W h => right_any (hr.later h) hsr.1 hsr.2 (hT.below h hT.lt)
  have hmul : Hid (∀ k : Nat, k ≤ 65536 → ∀ W, Calls Tryd.prog 50 #[.int .i64 b.least, .int .i64 k] W fun e W' => e = .returned (wdV (b.least * k)) ∧ Below W.heap.size W W') := fun k hk W => wideMul_any b.least k W ⟨hs.lo, hs.hi⟩ ⟨by omega, by omega⟩
  have hTw := Lib.hid hT
  have hEw := Lib.hid hE
  have hrw := Lib.hid hr
  have hcBw := Lib.hid hB.at
  have hsw := Lib.hid hs
  have hsrw := Lib.hid hsr
  clear hE hB hr hs hsr hT
  generalize hg : sumB b rows = g at *
  generalize hq : isRightB b = q at *
  generalize hq2 : rightL rows = q2 at *
  obtain ⟨N, least, ex, bs⟩ := b
  dsimp only at *
  generalize hlE : ex.length = lE at *
  generalize hlB : bs.length = lB at *
  generalize hlr : rows.length = lr at *
  have b0 := (((SBox.new w 31 N least (.slice pE lE cE) (.slice pB lB cB)).alloc (.cells #[.slice pr lr cr] 28)).alloc (.cells #[.int .i64 0, .int .u64 0] 43)).alloc (.cells #[.int .i64 N, .int .i64 least, .slice pE lE cE, .slice pB lB cB] 83)
  have r1 := ((RBox.new (w.alloc (.cells #[.int .i64 N, .int .i64 least, .slice pE lE cE, .slice pB lB cB] 31)) (.slice pr lr cr)).alloc (.cells #[.int .i64 0, .int .u64 0] 43)).alloc (.cells #[.int .i64 N, .int .i64 least, .slice pE lE cE, .slice pB lB cB] 83)
  have z2 : WBox ((((w.alloc (.cells #[.int .i64 N, .int .i64 least, .slice pE lE cE, .slice pB lB cB] 31)).alloc (.cells #[.slice pr lr cr] 28)).alloc (.cells #[.int .i64 0, .int .u64 0] 43)).alloc (.cells #[.int .i64 N, .int .i64 least, .slice pE lE cE, .slice pB lB cB] 83)) ((w.alloc (.cells #[.int .i64 N, .int .i64 least, .slice pE lE cE, .slice pB lB cB] 31)).alloc (.cells #[.slice pr lr cr] 28)).heap.size 0 := WBox.alloc (show WBox (((w.alloc (.cells #[.int .i64 N, .int .i64 least, .slice pE lE cE, .slice pB lB cB] 31)).alloc (.cells #[.slice pr lr cr] 28)).alloc (.cells #[.int .i64 0, .int .u64 0] 43)) _ 0 from WBox.new _ 0) (.cells #[.int .i64 N, .int .i64 least, .slice pE lE cE, .slice pB lB cB] 83)
  have b3 := SBox.new (((w.alloc (.cells #[.int .i64 N, .int .i64 least, .slice pE lE cE, .slice pB lB cB] 31)).alloc (.cells #[.slice pr lr cr] 28)).alloc (.cells #[.int .i64 0, .int .u64 0] 43)) 83 N least (.slice pE lE cE) (.slice pB lB cB)
  have hR : Below w.heap.size w ((((w.alloc (.cells #[.int .i64 N, .int .i64 least, .slice pE lE cE, .slice pB lB cB] 31)).alloc (.cells #[.slice pr lr cr] 28)).alloc (.cells #[.int .i64 0, .int .u64 0] 43)).alloc (.cells #[.int .i64 N, .int .i64 least, .slice pE lE cE, .slice pB lB cB] 83)) := ((((Below.refl w.heap.size w).alloc (Nat.le_refl _) _).alloc (by simp) _).alloc (by simp; omega) _).alloc (by simp; omega) _
  simp only [World.size_alloc] at r1 z2 b3
  have d1 := r1.cell
  have b3' := Lib.hid b3
  have r1' := Lib.hid r1
  have z2' := Lib.hid z2
  have hR' := Lib.hid hR
  have k0 := Lib.hid (kR.out _ hR)
  clear b0 r1 z2 b3 hR kR hlE hlr hg
  go_enter Tryd.func16, Tryd.ntmps16
  cases q with
  | false =>
    have hg := hno.out (by simp)
    subst hg
    clear hno hyes
    go_wp2_with (go_at_call 47; refine (k0.out).mono ?_; rintro e W2 ⟨rfl, hb2⟩; have y1 := z2'.out.later hb2; have f2 := y1.frozen 0; have f3 := y1.frozen 1; have e2 := y1.c0; have e3 := y1.c1)
    have hB2 := hR'.out.trans (hb2.mono hR'.out.size)
    have y4 : WBox ((W2.setCell ⟨w.heap.size + 1 + 1, 0, none⟩ (.int .i64 0)).setCell ⟨w.heap.size + 1 + 1, 1, none⟩ (.int .u64 0)) (w.heap.size + 1 + 1) 0 := y1.set 0
    have d0 : ((W2.setCell ⟨w.heap.size + 1 + 1, 0, none⟩ (.int .i64 0)).setCell ⟨w.heap.size + 1 + 1, 1, none⟩ (.int .u64 0)).cell? ⟨w.heap.size + 1 + 1, 0, none⟩ = some (.int .i64 0) := y4.c0
    have d1 : ((W2.setCell ⟨w.heap.size + 1 + 1, 0, none⟩ (.int .i64 0)).setCell ⟨w.heap.size + 1 + 1, 1, none⟩ (.int .u64 0)).cell? ⟨w.heap.size + 1 + 1, 1, none⟩ = some (.int .u64 0) := y4.c1
    refine bodyPost_ret (v := .tuple #[.agg #[.int .i64 0, .int .u64 0], .int .i64 0, .int .i64 80]) ?_ rfl ⟨rfl, (hB2.setCell (p := ⟨w.heap.size + 1 + 1, 0, none⟩) (by simp; omega) _).setCell (p := ⟨w.heap.size + 1 + 1, 1, none⟩) (by simp; omega) _⟩
    simp [results, Tryd.results16, go_sem, d0, d1]
  | true =>
    have hc := hrc.out rfl
    have hcl := hc.len
    have hcx := hc.rex
    have hcb := hc.rbits
    dsimp only at hcl hcx hcb
    clear hc hrc
    cases q2 with
    | false =>
      have hg := hno.out (by simp)
      subst hg
      clear hno hyes
      go_wp2_with (first | (go_at_call 47; refine (k0.out).mono ?_; rintro e W2 ⟨rfl, hb2⟩; have x2 := r1'.out.later hb2; have z3 := z2'.out.later hb2; have c2 := x2.cell; have hB1 := hR'.out.trans (hb2.mono hR'.out.size); have kr2 := Lib.hid (kr.out _ hB1)) | (go_at_call 48; refine (kr2.out).mono ?_; rintro e W3 ⟨rfl, hb3⟩; have y1 := z3.later hb3; have f2 := y1.frozen 0; have f3 := y1.frozen 1; have e2 := y1.c0; have e3 := y1.c1))
      have hB2 := hB1.trans (hb3.mono hB1.size)
      have y4 : WBox ((W3.setCell ⟨w.heap.size + 1 + 1, 0, none⟩ (.int .i64 0)).setCell ⟨w.heap.size + 1 + 1, 1, none⟩ (.int .u64 0)) (w.heap.size + 1 + 1) 0 := y1.set 0
      have d0 : ((W3.setCell ⟨w.heap.size + 1 + 1, 0, none⟩ (.int .i64 0)).setCell ⟨w.heap.size + 1 + 1, 1, none⟩ (.int .u64 0)).cell? ⟨w.heap.size + 1 + 1, 0, none⟩ = some (.int .i64 0) := y4.c0
      have d1 : ((W3.setCell ⟨w.heap.size + 1 + 1, 0, none⟩ (.int .i64 0)).setCell ⟨w.heap.size + 1 + 1, 1, none⟩ (.int .u64 0)).cell? ⟨w.heap.size + 1 + 1, 1, none⟩ = some (.int .u64 0) := y4.c1
      refine bodyPost_ret (v := .tuple #[.agg #[.int .i64 0, .int .u64 0], .int .i64 0, .int .i64 80]) ?_ rfl ⟨rfl, (hB2.setCell (p := ⟨w.heap.size + 1 + 1, 0, none⟩) (by simp; omega) _).setCell (p := ⟨w.heap.size + 1 + 1, 1, none⟩) (by simp; omega) _⟩
      simp [results, Tryd.results16, go_sem, d0, d1]
    | true =>
      have hg := hyes.out ⟨rfl, rfl⟩
      have hA := and_some hcx hq2
      have hcnt := Lib.hid (cntN_eq hA.2.1)
      have hcle := Lib.hid (cntN_le (andL ex rows))
      have hsA := Lib.hid (small_right hA.2.1)
      have hAb : Hid (∀ j, j < bs.length → rightL (andL (bs[j]?.getD []) rows) = true ∧ Small (bs[j]?.getD [])) := fun j hj => by
        rw [List.getElem?_eq_getElem hj]
        exact ⟨(and_some (hcb _ (List.getElem_mem hj)) hq2).2.1, small_right (hcb _ (List.getElem_mem hj))⟩
      have hsX := Lib.hid (small_right hcx)
      clear hno hyes hA
      obtain ⟨cn, hcn⟩ : ∃ cn, cntN (andL ex rows) = cn := ⟨_, rfl⟩
      rw [hcn] at hg hcnt hcle
      subst hg
      dsimp only
      have kand : Hid (∀ W, Below w.heap.size w W → Calls Tryd.prog 49 #[.agg #[.slice pE lE cE], .slice (some ⟨W.heap.size, 0, none⟩) 1 1] (W.alloc (.cells #[.slice pr lr cr] 28)) fun e W' => ∃ v', e = .returned (.agg #[v']) ∧ HC W' v' (andL ex rows) ∧ Below W.heap.size W W') := fun W h => and_fresh (hEw.out.later h) (hrw.out.later h) hsX.out hsrw.out (hTw.out.below h hTw.out.lt)
      have kcnt : Hid (∀ W v, Below w.heap.size w W → HC W v (andL ex rows) → Calls Tryd.prog 18 #[.agg #[v]] W fun e W' => e = .returned (.int .i64 (cn : Nat)) ∧ Below W.heap.size W W') := fun W v h hv => by
        have := count7_any hv hsA.out (hTw.out.below h hTw.out.lt)
        rwa [hcnt.out] at this
      have hmul' := Lib.hid (hmul.out cn hcle.out)
      clear hcn hmul hq2 hcb hcx
      go_wp2_with (first
        | (go_at_call 47; refine (k0.out).mono ?_; rintro e W2 ⟨rfl, hb2⟩; have x2 := Lib.hid (r1'.out.later hb2); have z3 := Lib.hid (z2'.out.later hb2); have q3 := Lib.hid (b3'.out.later hb2); have c2 := x2.out.cell; have hB1 := Lib.hid (hR'.out.trans (hb2.mono hR'.out.size)); have kr2 := Lib.hid (kr.out _ hB1.out))
        | (go_at_call 48; refine (kr2.out).mono ?_; rintro e W3 ⟨rfl, hb3⟩; have x4 := Lib.hid (x2.out.later hb3); have z4 := Lib.hid (z3.out.later hb3); have q4 := Lib.hid (q3.out.later hb3); have c3 := x4.out.cell; have c5 := q4.out.c2; have hB3 := Lib.hid (hB1.out.trans (hb3.mono hB1.out.size)); have ka := Lib.hid (kand.out _ hB3.out))
        | (go_at_call 49; refine (ka.out).mono ?_; rintro e W5 ⟨v5, rfl, hv5, hb5⟩; have hB5 := Lib.hid (hB3.out.trans (hb5.mono hB3.out.size)); have x6 := Lib.hid (x4.out.later hb5); have z6 := Lib.hid (z4.out.later hb5); have q6 := Lib.hid (q4.out.later hb5))
        | (go_at_call 18; refine (kcnt.out _ _ hB5.out hv5).mono ?_; rintro e W7 ⟨rfl, hb7⟩; have hB7 := Lib.hid (hB5.out.trans (hb7.mono hB5.out.size)); have x8 := Lib.hid (x6.out.later hb7); have z8 := Lib.hid (z6.out.later hb7); have q8 := Lib.hid (q6.out.later hb7); have c6 := q8.out.c1; have hm := Lib.hid (hmul'.out W7))
        | (go_at_call 50; refine (hm.out).mono ?_; rintro e W9 ⟨rfl, hb9⟩; have hB9 := Lib.hid (hB7.out.trans (hb9.mono hB7.out.size)); have x10 := Lib.hid (x8.out.later hb9); have z10 := Lib.hid (z8.out.later hb9); have q10 := Lib.hid ((q8.out.later hb9).alloc (.cells #[.int .i64 (hiW (least * cn)), .int .u64 (loW (least * cn))] 43)); have c7 := q10.out.c3; unfold wdV))
      have hz9 := hB9.out.size
      have hM0 : Hid (SumAt w (W9.alloc (.cells #[.int .i64 (hiW (least * cn)), .int .u64 (loW (least * cn))] 43)) (.slice pr lr cr) rows W9.heap.size (accU bs rows (least * cn) 0)) :=
        Lib.hid ⟨x10.out.alloc _, z10.out.alloc _, WBox.new W9 _, by have := hb9.size; have := hb7.size; have := hb5.size; have := hb3.size; have := hb2.size; simp at *; omega, hB9.out.alloc hB9.out.size _⟩
      clear hz9 x2 z3 q3 c2 hB1 kr2 x4 z4 q4 c3 c5 hB3 ka hB5 x6 z6 q6 hv5 hB7 x8 z8 q8 c6 hm hB9 x10 z10 q10 c7 hb2 hb3 hb5 hb7 hb9 hmul' kcnt kand b3' r1' z2' hR' k0 kr d1 hEw hcle hsA hcnt hsX hsw
      generalize W9.heap.size = B9 at *
      go_loopw [39] (fun i wr => ∃ k : Nat, k ≤ lB ∧ i = .int .i64 k ∧ Hid (SumAt w wr (.slice pr lr cr) rows B9 (accU bs rows (least * cn) k)))
        (fun i _ => lB - (intOf i).toNat)
      case atStart => exact ⟨0, Nat.zero_le _, rfl, hM0⟩
      case round =>
        obtain ⟨k, hk, rfl, hM⟩ := hrel
        clear hM0
        by_cases hlt : k < lB
        · have hkd : decide (k < lB) = true := decide_eq_true hlt
          have hk64 : k ≤ 63 := by omega
          obtain ⟨b, off, pu, cu, rfl, hb, hu, hch⟩ := hcBw.out k (by omega)
          have hcc := (hM.out.below.cell (p := ⟨b, off + k, none⟩) hb).trans hu
          obtain ⟨hra, hsl⟩ := hAb.out k (by omega)
          have hst : Hid (accU bs rows (least * cn) (k + 1) = accU bs rows (least * cn) k + (cntN (andL (bs[k]?.getD []) rows) : Int) * 2 ^ k) := rfl
          generalize accU bs rows (least * cn) k = z at *
          generalize bs[k]?.getD [] = lb at *
          have hc0 := cntN_eq hra
          have hcl0 := cntN_le (andL lb rows)
          have hsa := small_right hra
          obtain ⟨c, hc⟩ : ∃ c, cntN (andL lb rows) = c := ⟨_, rfl⟩
          rw [hc] at hc0 hcl0 hst
          have kand2 : Hid (∀ W, Below w.heap.size w W → Calls Tryd.prog 49 #[.agg #[.slice pu lb.length cu], .slice (some ⟨W.heap.size, 0, none⟩) 1 1] (W.alloc (.cells #[.slice pr lr cr] 28)) fun e W' => ∃ v', e = .returned (.agg #[v']) ∧ HC W' v' (andL lb rows) ∧ Below W.heap.size W W') := fun W h => and_fresh (hch.later h) (hrw.out.later h) hsl hsrw.out (hTw.out.below h hTw.out.lt)
          have kcnt2 : Hid (∀ W v, Below w.heap.size w W → HC W v (andL lb rows) → Calls Tryd.prog 18 #[.agg #[v]] W fun e W' => e = .returned (.int .i64 (c : Nat)) ∧ Below W.heap.size W W') := fun W v h hv => by
            have := count7_any hv hsa (hTw.out.below h hTw.out.lt)
            rwa [hc0] at this
          have kof : Hid (∀ W, Calls Tryd.prog 38 #[.int .i64 (c : Nat)] W fun e W' => e = .returned (wdV (c : Nat)) ∧ Below W.heap.size W W') := fun W => wideOf_any (c : Int) W (by omega) (by omega)
          have ksh : Hid (∀ W, Calls Tryd.prog 51 #[wdV (c : Nat), .int .i64 k] W fun e W' => e = .returned (wdV ((c : Int) * 2 ^ k)) ∧ Below W.heap.size W W') := fun W => wideShift_any c k W hcl0 hk64
          obtain ⟨y, hy⟩ : ∃ y : Int, (c : Int) * 2 ^ k = y := ⟨_, rfl⟩
          rw [hy] at ksh hst
          have kadd : Hid (∀ W, Calls Tryd.prog 17 #[.agg #[.int .i64 (hiW z), .int .u64 (loW z)], wdV y] W fun e W' => e = .returned (wdV (z + y)) ∧ Below W.heap.size W W') := fun W => wideAdd_any z y W
          generalize lb.length = lu at *
          clear hc hy hc0 hcl0 hsa hra hsl hch hu
          go_wp2
          have hW1 : Below wr.heap.size wr (wr.alloc (.cells #[.slice pu lu cu] 28)) := (Below.refl _ wr).alloc (Nat.le_refl _) _
          have r11 := RBox.new wr (.slice pu lu cu)
          have hM1 := hM.out.acc.later hW1
          have hM2 := hM.out.rb.later hW1
          generalize wr.alloc (.cells #[.slice pu lu cu] 28) = W1 at *
          generalize hb11 : wr.heap.size = b11 at *
          have hMd : (fun W' : World => Hid (Below W1.heap.size W1 W') ∧ W'.cell? ⟨B9, 0, none⟩ = some (.int .i64 (hiW z)) ∧ W'.cell? ⟨B9, 1, none⟩ = some (.int .u64 (loW z)) ∧ W'.cell? ⟨b11, 0, none⟩ = some (.slice pu lu cu) ∧ W'.cell? ⟨w.heap.size + 1, 0, none⟩ = some (.slice pr lr cr)) W1.drew := ⟨Lib.hid (Below.refl _ W1).drew, hM1.c0, hM1.c1, r11.cell, hM2.cell⟩
          have hBw1 := Lib.hid (hM.out.below.trans (hW1.mono (by rw [← hb11]; exact hM.out.below.size)))
          have hW1' := Lib.hid hW1
          have hb11' := Lib.hid hb11
          have hM1' := Lib.hid hM1
          clear hW1 r11 hM1 hM2 hcc hb hb11
          refine region_late (S := (fun W' : World => Hid (Below W1.heap.size W1 W') ∧ W'.cell? ⟨B9, 0, none⟩ = some (.int .i64 (hiW z)) ∧ W'.cell? ⟨B9, 1, none⟩ = some (.int .u64 (loW z)) ∧ W'.cell? ⟨b11, 0, none⟩ = some (.slice pu lu cu) ∧ W'.cell? ⟨w.heap.size + 1, 0, none⟩ = some (.slice pr lr cr))) (fun n => n == 10) (by kernel_rfl) hMd (fun hHeld => ?_)
          clear hMd
          generalize World.drew W1 = Wd at *
          refine wpAnyL_take (i := 0) (oi := { dst := some 44, op := _, type := _, pos := _, after := _, guard := _ }) (v := ?v1) rfl (by kernel_rfl) (by kernel_rfl) (by kernel_rfl) (by kernel_rfl) (fun _ _ _ h => h) (Or.inl ⟨by kernel_rfl, ?y1⟩) hHeld ?r1
          case y1 =>
            intro w hSw
            try dsimp only at hSw
            try simp only [List.getElem_toArray, List.getElem_cons_zero, List.getElem_cons_succ]
            go_simp
            try with_reducible rfl
          try simp only [List.getElem_toArray, List.getElem_cons_zero, List.getElem_cons_succ, Act.put, List.setIfInBounds_toArray, List.set_cons_zero, List.set_cons_succ]
          refine wpAnyL_take (i := 1) (oi := { dst := some 45, op := _, type := _, pos := _, after := _, guard := _ }) (v := ?v2) rfl (by kernel_rfl) (by kernel_rfl) (by kernel_rfl) (by kernel_rfl) (fun _ _ _ h => h) (Or.inl ⟨by kernel_rfl, ?y2⟩) hHeld ?r2
          case y2 =>
            intro w hSw
            try dsimp only at hSw
            try simp only [List.getElem_toArray, List.getElem_cons_zero, List.getElem_cons_succ]
            go_simp
            try with_reducible rfl
          try simp only [List.getElem_toArray, List.getElem_cons_zero, List.getElem_cons_succ, Act.put, List.setIfInBounds_toArray, List.set_cons_zero, List.set_cons_succ]
          refine wpAnyL_take (i := 2) (oi := { dst := some 46, op := _, type := _, pos := _, after := _, guard := _ }) (v := ?v3) rfl (by kernel_rfl) (by kernel_rfl) (by kernel_rfl) (by kernel_rfl) (fun _ _ _ h => h) (Or.inl ⟨by kernel_rfl, ?y3⟩) hHeld ?r3
          case y3 =>
            intro w hSw
            try dsimp only at hSw
            try simp only [List.getElem_toArray, List.getElem_cons_zero, List.getElem_cons_succ]
            go_simp
            try with_reducible rfl
          try simp only [List.getElem_toArray, List.getElem_cons_zero, List.getElem_cons_succ, Act.put, List.setIfInBounds_toArray, List.set_cons_zero, List.set_cons_succ]
          refine wpAnyL_take (i := 7) (oi := { dst := some 51, op := _, type := _, pos := _, after := _, guard := _ }) (v := ?v4) rfl (by kernel_rfl) (by kernel_rfl) (by kernel_rfl) (by kernel_rfl) (fun _ _ _ h => h) (Or.inl ⟨by kernel_rfl, ?y4⟩) hHeld ?r4
          case y4 =>
            intro w hSw
            try dsimp only at hSw
            try simp only [List.getElem_toArray, List.getElem_cons_zero, List.getElem_cons_succ]
            go_simp
            try with_reducible rfl
          try simp only [List.getElem_toArray, List.getElem_cons_zero, List.getElem_cons_succ, Act.put, List.setIfInBounds_toArray, List.set_cons_zero, List.set_cons_succ]
          refine wpAnyL_one (i := 3) (by kernel_rfl) rfl (fun K hK => ?_)
          try simp only [List.getElem_toArray, List.getElem_cons_zero, List.getElem_cons_succ]
          go_simp
          have hOld := hHeld
          have ka := Lib.hid (kand2.out _ (hBw1.out.trans (hHeld.1.out.mono hBw1.out.size)))
          refine (fun (hnew : (fun W' : World => Hid (Below W1.heap.size W1 W') ∧ W'.cell? ⟨B9, 0, none⟩ = some (.int .i64 (hiW z)) ∧ W'.cell? ⟨B9, 1, none⟩ = some (.int .u64 (loW z)) ∧ W'.cell? ⟨b11, 0, none⟩ = some (.slice pu lu cu) ∧ W'.cell? ⟨w.heap.size + 1, 0, none⟩ = some (.slice pr lr cr)) _) => hK.out _ _ (fun _ => hnew) ?_) ?keep5
          case keep5 => exact (keep5a hHeld)
          have hHeld' := hnew
          dsimp only at hHeld'
          clear hHeld hnew hK K
          have hHeld := hHeld'
          clear hHeld'
          try simp only [List.getElem_toArray, List.getElem_cons_zero, List.getElem_cons_succ, Act.put, List.setIfInBounds_toArray, List.set_cons_zero, List.set_cons_succ]
          refine wpAnyL_one (i := 4) (by kernel_rfl) rfl (fun K hK => ?_)
          try simp only [List.getElem_toArray, List.getElem_cons_zero, List.getElem_cons_succ]
          go_simp
          go_at_call 49
          refine (ka.out).mono ?_
          rintro e Wn4 ⟨v4, rfl, hv4, hbn⟩
          clear ka
          have hnew := Lib.hid (keep5 hbn hOld)
          refine hK.out _ _ (fun _ => hnew.out) ?_
          have hHeld' := hnew.out
          clear hHeld hnew hK K hbn
          have hHeld := hHeld'
          clear hHeld'
          try simp only [List.getElem_toArray, List.getElem_cons_zero, List.getElem_cons_succ, Act.put, List.setIfInBounds_toArray, List.set_cons_zero, List.set_cons_succ]
          refine wpAnyL_one (i := 5) (by kernel_rfl) rfl (fun K hK => ?_)
          try simp only [List.getElem_toArray, List.getElem_cons_zero, List.getElem_cons_succ]
          go_simp
          go_at_call 18
          refine (kcnt2.out _ _ (hBw1.out.trans (hHeld.1.out.mono hBw1.out.size)) hv4).mono ?_
          rintro e Wn5 ⟨rfl, hbn⟩
          have hnew := Lib.hid (keep5 hbn hHeld)
          refine hK.out _ _ (fun _ => hnew.out) ?_
          have hHeld' := hnew.out
          clear hHeld hnew hK K hbn
          have hHeld := hHeld'
          clear hHeld'
          try simp only [List.getElem_toArray, List.getElem_cons_zero, List.getElem_cons_succ, Act.put, List.setIfInBounds_toArray, List.set_cons_zero, List.set_cons_succ]
          refine wpAnyL_one (i := 6) (by kernel_rfl) rfl (fun K hK => ?_)
          try simp only [List.getElem_toArray, List.getElem_cons_zero, List.getElem_cons_succ]
          go_simp
          go_at_call 38
          refine (kof.out _).mono ?_
          rintro e Wn6 ⟨rfl, hbn⟩
          have hnew := Lib.hid (keep5 hbn hHeld)
          refine hK.out _ _ (fun _ => hnew.out) ?_
          have hHeld' := hnew.out
          clear hHeld hnew hK K hbn
          have hHeld := hHeld'
          clear hHeld'
          try simp only [List.getElem_toArray, List.getElem_cons_zero, List.getElem_cons_succ, Act.put, List.setIfInBounds_toArray, List.set_cons_zero, List.set_cons_succ]
          refine wpAnyL_one (i := 8) (by kernel_rfl) rfl (fun K hK => ?_)
          try simp only [List.getElem_toArray, List.getElem_cons_zero, List.getElem_cons_succ]
          go_simp
          go_at_call 51
          refine (ksh.out _).mono ?_
          rintro e Wn8 ⟨rfl, hbn⟩
          have hnew := Lib.hid (keep5 hbn hHeld)
          refine hK.out _ _ (fun _ => hnew.out) ?_
          have hHeld' := hnew.out
          clear hHeld hnew hK K hbn
          have hHeld := hHeld'
          clear hHeld'
          try simp only [List.getElem_toArray, List.getElem_cons_zero, List.getElem_cons_succ, Act.put, List.setIfInBounds_toArray, List.set_cons_zero, List.set_cons_succ]
          refine wpAnyL_one (i := 9) (by kernel_rfl) rfl (fun K hK => ?_)
          try simp only [List.getElem_toArray, List.getElem_cons_zero, List.getElem_cons_succ]
          go_simp
          go_at_call 17
          refine (kadd.out _).mono ?_
          rintro e Wn9 ⟨rfl, hbn⟩
          unfold wdV
          have hnew := Lib.hid (keep5 hbn hHeld)
          refine hK.out _ _ (fun _ => hnew.out) ?_
          have hHeld' := hnew.out
          clear hHeld hnew hK K hbn
          have hHeld := hHeld'
          clear hHeld'
          try simp only [List.getElem_toArray, List.getElem_cons_zero, List.getElem_cons_succ, Act.put, List.setIfInBounds_toArray, List.set_cons_zero, List.set_cons_succ]
          refine wpAnyL_one (i := 10) (by kernel_rfl) rfl (fun K hK => ?_)
          have y4 := hM1'.out.later hHeld.1.out
          have f4 := y4.frozen 0
          have f5 := y4.frozen 1
          have e4 := y4.c0
          have e5 := y4.c1
          try simp only [List.getElem_toArray, List.getElem_cons_zero, List.getElem_cons_succ]
          go_simp
          refine hK.out _ _ (fun h => by cases h) ?_
          clear hK K
          try simp only [List.getElem_toArray, List.getElem_cons_zero, List.getElem_cons_succ, Act.put, List.setIfInBounds_toArray, List.set_cons_zero, List.set_cons_succ]
          refine wpAnyL_done (by kernel_rfl) (OnlyN.normal ?_) _
          have hbw : Below wr.heap.size wr Wn9 := by
            have h1 := hW1'.out.size
            have h2 := hb11'.out
            rw [h2]
            exact hW1'.out.trans (hHeld.1.out.mono (by omega))
          have hstep := Lib.hid (hM.out.step hbw (z + y))
          clear hHeld y4 f4 f5 e4 e5 hOld hbw
          go_wp2
          go_roundw
          case rel => exact ⟨k + 1, by omega, by go_num, by rw [hst.out]; exact hstep⟩
          case measure => simp [intOf]; omega
        · have hkd : decide (k < lB) = false := decide_eq_false hlt
          have hkk : k = lB := by omega
          subst hkk
          have c0 := hM.out.acc.c0; have c1 := hM.out.acc.c1
          have f0 := hM.out.res.frozen 0; have f1 := hM.out.res.frozen 1
          have e0 := hM.out.res.c0; have e1 := hM.out.res.c1
          have y4 := hM.out.res.set (accU bs rows (least * cn) k)
          have d0 := y4.c0; have d1 := y4.c1
          have hBf := (hM.out.below.setCell (p := ⟨w.heap.size + 1 + 1, 0, none⟩) (by simp; omega) (.int .i64 (hiW (accU bs rows (least * cn) k)))).setCell (p := ⟨w.heap.size + 1 + 1, 1, none⟩) (by simp; omega) (.int .u64 (loW (accU bs rows (least * cn) k)))
          go_wp2
          refine bodyPost_ret (v := .tuple #[.agg #[.int .i64 (hiW (accU bs rows (least * cn) k)), .int .u64 (loW (accU bs rows (least * cn) k))], .int .i64 cn, .int .i64 0]) ?_ rfl ⟨rfl, hBf⟩
          simp [results, Tryd.results16, go_sem, d0, d1]
end Go.Proofs.YtnigpmbpipmgfaaDoor
