/-
  Columns in memory; bsi's or, without, isWithin, and.
-/
import Derived.Test.YtnigpmbpipmgfaaDoorAskB
import Derived.Test.YtnigpmbpipmgfaaDoorBsPQ
namespace Go.Proofs.YtnigpmbpipmgfaaDoor
open Go.RowKit Tess

/-- THE SLICE VALUE v HOLDS THE BITMAPS ls, in blocks below n₀; or it is empty. -/
def RCs (n₀ : Nat) (W : World) (v : Value) (ls : List (List Ch)) : Prop :=
  ∃ p cap, v = .slice p ls.length cap ∧ ls.length ≤ cap ∧ ∀ j (hj : j < ls.length), ∃ b off u, p = some ⟨b, off, none⟩ ∧ b < n₀ ∧ W.cell? ⟨b, off + j, none⟩ = some u ∧ Chs n₀ W u ls[j]
theorem RCs.below {n₀ n₁ : Nat} {A B : World} {v : Value} {ls : List (List Ch)} (h : RCs n₀ A v ls) (hb : Below n₁ A B) (hn : n₀ ≤ n₁) : RCs n₀ B v ls := by
  obtain ⟨p, cap, hv, hc, h⟩ := h
  refine ⟨p, cap, hv, hc, fun j hj => ?_⟩
  obtain ⟨b, off, u, hp, hb1, h1, h2⟩ := h j hj
  exact ⟨b, off, u, hp, hb1, (hb.cell (p := ⟨b, _, none⟩) (Nat.lt_of_lt_of_le hb1 hn)).trans h1, h2.below hb hn⟩
theorem RCs.more {n₀ n₁ : Nat} {A : World} {v : Value} {ls : List (List Ch)} (h : RCs n₀ A v ls) (hn : n₀ ≤ n₁) : RCs n₁ A v ls := by
  obtain ⟨p, cap, hv, hc, h⟩ := h
  refine ⟨p, cap, hv, hc, fun j hj => ?_⟩
  obtain ⟨b, off, u, hp, hb1, h1, h2⟩ := h j hj
  exact ⟨b, off, u, hp, Nat.lt_of_lt_of_le hb1 hn, h1, h2.more hn⟩
def HR (W : World) (v : Value) (ls : List (List Ch)) : Prop := Hid (RCs W.heap.size W v ls)
theorem HR.later {W W' : World} {v : Value} {ls : List (List Ch)} (h : HR W v ls) (hb : Below W.heap.size W W') : HR W' v ls := Lib.hid (((Hid.out h).below hb (Nat.le_refl _)).more hb.size)
theorem HR.alloc {W : World} {v : Value} {ls : List (List Ch)} (h : HR W v ls) (o : Obj) : HR (W.alloc o) v ls := h.later ((Below.refl _ W).alloc (Nat.le_refl _) _)
theorem HR.nil (W : World) (p : Option Addr) (c : Nat) : HR W (.slice p 0 c) [] := Lib.hid ⟨p, c, rfl, Nat.zero_le _, fun j hj => by cases hj⟩

theorem small_op (op : Int) (l m : List Ch) : Small (opL op l m).1 := by
  by_cases h : rightL l = true ∧ rightL m = true ∧ 1 ≤ op ∧ op ≤ 4
  · obtain ⟨r, e, hr, -⟩ := op_some h.1 h.2.1 h.2.2.1 h.2.2.2
    rw [e]; exact small_right hr
  · have e : opL op l m = ([], 70) := by
      refine opL_no ?_
      cases h1 : rightL l
      · exact .inl rfl
      · cases h2 : rightL m
        · exact .inl rfl
        · refine .inr ?_
          have h' : ¬ (1 ≤ op ∧ op ≤ 4) := fun hh => h ⟨h1, h2, hh⟩
          omega
    rw [e]; exact small_nil

set_option maxRecDepth 100000 in
set_option maxHeartbeats 4000000 in
theorem isWithin_any {la lb : List Ch} {va vb : Value} {w : World} (h1 : HC w va la) (h2 : HC w vb lb) (hs1 : Small la) (hs2 : Small lb) (hT : Tab w) :
    Calls Tryd.prog 81 #[.agg #[va], .agg #[vb]] w fun e W' => e = .returned (.bool (withinL la lb)) ∧ Below w.heap.size w W' := by
  have x1 := ((RBox.new w va).alloc (.cells #[vb] 28)).cell
  have x2 := (RBox.new (w.alloc (.cells #[va] 28)) vb).cell
  simp only [World.size_alloc] at x2
  have hR : Below w.heap.size w ((w.alloc (.cells #[va] 28)).alloc (.cells #[vb] 28)) := ((Below.refl w.heap.size w).alloc (Nat.le_refl _) (.cells #[va] 28)).alloc (by simp) (.cells #[vb] 28)
  have hk := Lib.hid (op7_any 4 ((h1.alloc (.cells #[va] 28)).alloc (.cells #[vb] 28)) ((h2.alloc (.cells #[va] 28)).alloc (.cells #[vb] 28)) hs1 hs2 (hT.below hR hT.lt))
  unfold withinL
  clear h1 h2 hs1 hs2 hT
  generalize opL 4 la lb = r at hk ⊢
  go_enter Tryd.func81, Tryd.ntmps81
  go_wp2_with fail
  refine (hk.out).mono ?_
  rintro e W2 ⟨v', rfl, hv, hb2⟩
  have hB2 := hR.trans (hb2.mono hR.size)
  obtain ⟨p, cap, rfl, -, -⟩ := Hid.out hv
  have x3 := (RBox.new W2 (.slice p r.1.length cap)).cell
  have hB3 := Lib.hid (hB2.alloc hB2.size (.cells #[.slice p r.1.length cap] 28))
  clear hv hb2 hk x1 x2 hB2 hR
  obtain ⟨l, e⟩ := r
  simp only at x3 hB3 ⊢
  by_cases q1 : e = 0
  · subst q1
    cases l with
    | nil =>
      go_wp2
      exact bodyPost_ret (v := .bool true) (by simp [results, Tryd.results81, go_sem]) rfl ⟨rfl, hB3.out⟩
    | cons x l =>
      have q2 : (((x :: l).length : Int) == 0) = false := by simp; omega
      generalize (x :: l).length = n at *
      go_wp2
      exact bodyPost_ret (v := .bool false) (by simp [results, Tryd.results81, go_sem]) rfl ⟨rfl, hB3.out⟩
  · have q1' : (e == 0) = false := by simpa using q1
    have q1'' : decide (e = 0) = false := by simpa using q1
    go_wp2
    exact bodyPost_ret (v := .bool false) (by simp [results, Tryd.results81, go_sem]) rfl ⟨rfl, hB3.out⟩

set_option maxRecDepth 100000 in
set_option maxHeartbeats 4000000 in
theorem or_any {la lb : List Ch} {va vb : Value} {w : World} (h1 : HC w va la) (h2 : HC w vb lb) (hs1 : Small la) (hs2 : Small lb) (hT : Tab w) :
    Calls Tryd.prog 69 #[.agg #[va], .agg #[vb]] w fun e W' => ∃ v', e = .returned (.agg #[v']) ∧ HC W' v' (orL la lb) ∧ Below w.heap.size w W' := by
  have x1 := (((RBox.new w va).alloc (.cells #[vb] 28)).alloc (.cells #[.slice none 0 0] 28)).cell
  have x2 := ((RBox.new (w.alloc (.cells #[va] 28)) vb).alloc (.cells #[.slice none 0 0] 28)).cell
  have x4 := RBox.new ((w.alloc (.cells #[va] 28)).alloc (.cells #[vb] 28)) (.slice none 0 0)
  simp only [World.size_alloc] at x2 x4
  have hR : Below w.heap.size w (((w.alloc (.cells #[va] 28)).alloc (.cells #[vb] 28)).alloc (.cells #[.slice none 0 0] 28)) := (((Below.refl w.heap.size w).alloc (Nat.le_refl _) (.cells #[va] 28)).alloc (by simp) (.cells #[vb] 28)).alloc (by simp; omega) _
  have hk := Lib.hid (op7_any 2 (((h1.alloc (.cells #[va] 28)).alloc (.cells #[vb] 28)).alloc (.cells #[.slice none 0 0] 28)) (((h2.alloc (.cells #[va] 28)).alloc (.cells #[vb] 28)).alloc (.cells #[.slice none 0 0] 28)) hs1 hs2 (hT.below hR hT.lt))
  unfold orL
  clear h1 h2 hs1 hs2 hT
  generalize opL 2 la lb = r at hk ⊢
  go_enter Tryd.func69, Tryd.ntmps69
  go_wp2_with fail
  refine (hk.out).mono ?_
  rintro e W2 ⟨v', rfl, hv, hb2⟩
  have hB2 := hR.trans (hb2.mono hR.size)
  obtain ⟨p, cap, rfl, -, -⟩ := Hid.out hv
  have x3 := (RBox.new W2 (.slice p r.1.length cap)).cell
  have y4 := (x4.later hb2).alloc (.cells #[.slice p r.1.length cap] 28)
  have f4 := y4.frozen
  have c4 := y4.cell
  have hB3 := Lib.hid (hB2.alloc hB2.size (.cells #[.slice p r.1.length cap] 28))
  have hv3 := Lib.hid ((hv.alloc (.cells #[.slice p r.1.length cap] 28)).setR y4 (.slice p r.1.length cap))
  have hrs := (y4.set (.slice p r.1.length cap)).cell
  clear hv hb2 hk x1 x2 hB2 hR x4 y4
  go_wp2
  refine bodyPost_ret (v := .agg #[.slice p r.1.length cap]) ?_ rfl ⟨_, rfl, hv3.out, hB3.out.setCell (p := ⟨w.heap.size + 2, 0, none⟩) (by simp) _⟩
  simp [results, Tryd.results69, go_sem, hrs]

set_option maxRecDepth 100000 in
set_option maxHeartbeats 4000000 in
theorem without_any {la lb : List Ch} {va vb : Value} {w : World} (h1 : HC w va la) (h2 : HC w vb lb) (hs1 : Small la) (hs2 : Small lb) (hT : Tab w) :
    Calls Tryd.prog 94 #[.agg #[va], .agg #[vb]] w fun e W' => ∃ v', e = .returned (.agg #[v']) ∧ HC W' v' (wiL la lb) ∧ Below w.heap.size w W' := by
  have x1 := (((RBox.new w va).alloc (.cells #[vb] 28)).alloc (.cells #[.slice none 0 0] 28)).cell
  have x2 := ((RBox.new (w.alloc (.cells #[va] 28)) vb).alloc (.cells #[.slice none 0 0] 28)).cell
  have x4 := RBox.new ((w.alloc (.cells #[va] 28)).alloc (.cells #[vb] 28)) (.slice none 0 0)
  simp only [World.size_alloc] at x2 x4
  have hR : Below w.heap.size w (((w.alloc (.cells #[va] 28)).alloc (.cells #[vb] 28)).alloc (.cells #[.slice none 0 0] 28)) := (((Below.refl w.heap.size w).alloc (Nat.le_refl _) (.cells #[va] 28)).alloc (by simp) (.cells #[vb] 28)).alloc (by simp; omega) _
  have hk := Lib.hid (op7_any 4 (((h1.alloc (.cells #[va] 28)).alloc (.cells #[vb] 28)).alloc (.cells #[.slice none 0 0] 28)) (((h2.alloc (.cells #[va] 28)).alloc (.cells #[vb] 28)).alloc (.cells #[.slice none 0 0] 28)) hs1 hs2 (hT.below hR hT.lt))
  unfold wiL
  clear h1 h2 hs1 hs2 hT
  generalize opL 4 la lb = r at hk ⊢
  go_enter Tryd.func94, Tryd.ntmps94
  go_wp2_with fail
  refine (hk.out).mono ?_
  rintro e W2 ⟨v', rfl, hv, hb2⟩
  have hB2 := hR.trans (hb2.mono hR.size)
  obtain ⟨p, cap, rfl, -, -⟩ := Hid.out hv
  have x3 := (RBox.new W2 (.slice p r.1.length cap)).cell
  have y4 := (x4.later hb2).alloc (.cells #[.slice p r.1.length cap] 28)
  have f4 := y4.frozen
  have c4 := y4.cell
  have hB3 := Lib.hid (hB2.alloc hB2.size (.cells #[.slice p r.1.length cap] 28))
  have hv3 := Lib.hid ((hv.alloc (.cells #[.slice p r.1.length cap] 28)).setR y4 (.slice p r.1.length cap))
  have hrs := (y4.set (.slice p r.1.length cap)).cell
  clear hv hb2 hk x1 x2 hB2 hR x4 y4
  go_wp2
  refine bodyPost_ret (v := .agg #[.slice p r.1.length cap]) ?_ rfl ⟨_, rfl, hv3.out, hB3.out.setCell (p := ⟨w.heap.size + 2, 0, none⟩) (by simp) _⟩
  simp [results, Tryd.results94, go_sem, hrs]

set_option maxRecDepth 100000 in
set_option maxHeartbeats 8000000 in
theorem and_any {la lb : List Ch} {va v : Value} {w : World} (h1 : HC w va la) (h2 : HR w v [lb]) (hs1 : Small la) (hs2 : Small lb) (hT : Tab w) :
    Calls Tryd.prog 49 #[.agg #[va], v] w fun e W' => ∃ v', e = .returned (.agg #[v']) ∧ HC W' v' (andL la lb) ∧ Below w.heap.size w W' := by
  obtain ⟨p, cap, rfl, hcap, hc⟩ := Hid.out h2
  obtain ⟨b, off, u, rfl, hb, hu, hch⟩ := hc 0 (by simp)
  simp only [Nat.add_zero, List.getElem_cons_zero] at hu hch
  have hlb : HC w u lb := Lib.hid hch
  obtain ⟨pu, cu, rfl, -, -⟩ := Hid.out hlb
  have hT' := Lib.hid hT
  have x1 := Lib.hid ((RBox.new w va).alloc (.cells #[.slice none 0 0] 28))
  have x4 := RBox.new (w.alloc (.cells #[va] 28)) (.slice none 0 0)
  simp only [World.size_alloc] at x4
  have x4' := Lib.hid x4
  have hR := Lib.hid (((Below.refl w.heap.size w).alloc (Nat.le_refl _) (.cells #[va] 28)).alloc (by simp) (.cells #[.slice none 0 0] 28))
  have g1 := Lib.hid ((h1.alloc (.cells #[va] 28)).alloc (.cells #[.slice none 0 0] 28))
  have hs1' := Lib.hid hs1
  have hs2' := Lib.hid hs2
  clear h1 h2 hc hch hT x4 hs1 hs2
  simp only [List.length_singleton]
  go_enter Tryd.func49, Tryd.ntmps49
  go_wp2
  go_loopw [9] (fun i wr => ∃ (k : Nat) (v : Value), k ≤ 1 ∧ i = .int .i64 k ∧ Hid (RBox wr w.heap.size v) ∧ Hid (RBox wr (w.heap.size + 1) (.slice none 0 0)) ∧ Hid (HC wr v (if k = 0 then la else andL la lb)) ∧ Hid (Below w.heap.size w wr))
    (fun i _ => 1 - (intOf i).toNat)
  case atStart => exact ⟨0, va, by omega, rfl, x1, x4', g1, hR⟩
  case round =>
    obtain ⟨k, v, hk, rfl, hx, hx4, hv, hB⟩ := hrel
    by_cases hk0 : k = 0
    · subst hk0
      have hu2 := (hB.out.cell (p := ⟨b, off, none⟩) hb).trans hu
      have hxn := Lib.hid (RBox.new wr (.slice pu lb.length cu))
      have hxc := (hx.out.alloc (.cells #[.slice pu lb.length cu] 28)).cell
      have hxf := (hx.out.alloc (.cells #[.slice pu lb.length cu] 28)).frozen
      have hnc := hxn.out.cell
      have hR1 := (Below.refl _ wr).alloc (Nat.le_refl _) (.cells #[.slice pu lb.length cu] 28)
      have hT2 := (hT'.out.below hB.out hT'.out.lt).below hR1 (hT'.out.below hB.out hT'.out.lt).lt
      have hk := Lib.hid (op7_any 1 (hv.out.alloc (.cells #[.slice pu lb.length cu] 28)) ((hlb.later hB.out).alloc (.cells #[.slice pu lb.length cu] 28)) hs1'.out hs2'.out hT2)
      have hB1 := Lib.hid (hB.out.alloc hB.out.size (.cells #[.slice pu lb.length cu] 28))
      have hx' := Lib.hid (hx.out.alloc (.cells #[.slice pu lb.length cu] 28))
      have hx4' := Lib.hid (hx4.out.alloc (.cells #[.slice pu lb.length cu] 28))
      clear hR1 hT2
      go_wp2_with fail
      refine (hk.out).mono ?_
      rintro e W2 ⟨v', rfl, hv', hb2⟩
      obtain ⟨q, cq, rfl, -, -⟩ := Hid.out hv'
      have z1 := hx'.out.later hb2
      have z2 := hx4'.out.later hb2
      have zf := z1.frozen
      have zc := z1.cell
      have n1 := Lib.hid (z1.set (.slice q (opL 1 la lb).1.length cq))
      have n2 := Lib.hid (z2.far (p := ⟨w.heap.size, 0, none⟩) (by simp) (.slice q (opL 1 la lb).1.length cq))
      have n3 := Lib.hid (hv'.setR z1 (.slice q (opL 1 la lb).1.length cq))
      have n4 := Lib.hid ((hB1.out.trans (hb2.mono hB1.out.size)).setCell (p := ⟨w.heap.size, 0, none⟩) (Nat.le_refl _) (.slice q (opL 1 la lb).1.length cq))
      clear hv' hb2 z1 z2 hk hxc hxf hnc hu2
      go_wp2
      go_roundw
      case rel => exact ⟨1, _, by omega, by go_num, n1, n2, n3, n4⟩
      case measure => simp [intOf]
    · obtain rfl : k = 1 := by omega
      have hv' : HC wr v (andL la lb) := by have := hv.out; rwa [if_neg (by decide)] at this
      obtain ⟨q, cq, rfl, -, -⟩ := Hid.out hv'
      have hxc := hx.out.cell
      have h4c := hx4.out.cell
      have h4f := hx4.out.frozen
      have hv3 := Lib.hid (hv'.setR hx4.out (.slice q (andL la lb).length cq))
      have hrs := (hx4.out.set (.slice q (andL la lb).length cq)).cell
      clear hv'
      go_wp2
      refine bodyPost_ret (v := .agg #[.slice q (andL la lb).length cq]) ?_ rfl ⟨_, rfl, hv3.out, hB.out.setCell (p := ⟨w.heap.size + 1, 0, none⟩) (by simp) _⟩
      simp [results, Tryd.results49, go_sem, hrs]
end Go.Proofs.YtnigpmbpipmgfaaDoor
