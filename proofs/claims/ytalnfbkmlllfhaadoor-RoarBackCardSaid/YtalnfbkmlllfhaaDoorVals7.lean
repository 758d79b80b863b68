/-
  roar's Values: a bitmap's numbers as a new slice.
-/
import Derived.Test.YtalnfbkmlllfhaaDoorAskB
import Derived.Test.YtalnfbkmlllfhaaDoorInts7
namespace Go.Proofs.YtalnfbkmlllfhaaDoor
open Go.RowKit Go.Shelf Tess

attribute [local go_sem] Oper.semAt_some

theorem KeepC.appended {W w1 : World} {n₀ B0 : Nat} {t : TypeId} {v v' : Value} {m : Nat} {ys : List Value} {tmp : Obj} (hv : Boxed W B0 t v) 
    (hown' : w1.ownsRow n₀ 3 1 v' m ys) (hgrow : (W.alloc tmp).grownBy w1 v.ownBlock) (hloc : v'.ownBlock = v.ownBlock ∨ v'.ownBlock = some (W.alloc tmp).heap.size) (hv2 : Boxed (w1.setCell ⟨B0, 0, none⟩ v') B0 t v') (hb : Below n₀ W (w1.setCell ⟨B0, 0, none⟩ v')) :
    KeepC n₀ B0 W (w1.setCell ⟨B0, 0, none⟩ v') := by
  have e0 : rowOf W B0 = v.ownBlock := rowOf_cell hv.cell
  have e1 : rowOf (w1.setCell ⟨B0, 0, none⟩ v') B0 = v'.ownBlock := rowOf_cell hv2.cell
  refine ⟨hb, fun b cs t' fr hbc hne hr => ?_, ?_⟩
  · rw [e0] at hr
    have hlt := lt_of_heap hbc
    refine (Below.heap_setCell w1 ⟨B0, 0, none⟩ v' b hne).trans ((hgrow.block b (by simp; omega) (fun e => hr e.symm)).trans (Below.heap_alloc W tmp b hlt))
  · rw [e0, e1]
    rcases hloc with h | h
    · exact .inl h
    · exact .inr ⟨_, h, by simp, by
        have := (hown'.lt _ h).2
        simpa using this⟩

set_option maxRecDepth 100000 in
set_option maxHeartbeats 4000000 in
/-- slices.AppendSeq of nil and of a bitmap's numbers. -/
theorem appendSeq7_any {l : List Ch} {v0 : Value} (hr : rightL l = true) (Bw : Nat) (w : World) (hT : Tab w) (hBw : w.cell? ⟨Bw, 0, none⟩ = some v0) (hv : HC w v0 l) (hBl : Bw < w.heap.size) :
    Calls Tryd.prog 80 #[.slice none 0 0, .func (.func 81) #[] #[.pointer (some ⟨Bw, 0, none⟩)]] w fun e W' => ∃ v, e = .returned v ∧ W'.ownsRow w.heap.size 3 1 v (allN l).length ((allN l).map iv) ∧ Below w.heap.size w W' := by
  have hgB := hT.lt
  have hlen := allN_len l
  have hl256 := right_len hr
  obtain ⟨i0, hi, hz0, hz1, hz2⟩ := info_parts info_int
  refine (callsIn_wide (n := 9)).1 ?_
  refine callsIn_of_wp_marks Tryd.func80 rfl trivial ?_ rfl
  simp only [Tryd.ntmps80, List.size_toArray, List.length_cons, List.length_nil, Nat.reduceAdd, Nat.reduceSub, Array.replicate_succ, Array.replicate_zero, List.push_toArray, List.append_toArray, List.nil_append, List.cons_append]
  gi_wp2
  have bO := Boxed.new w 34 (.slice none 0 0)
  have hB0 : Below w.heap.size w (w.alloc (.cells #[.slice none 0 0] 34)) := (Below.refl _ w).alloc (Nat.le_refl _) _
  have hT3 := hT.below hB0 hgB
  have hc3 : (w.alloc (.cells #[.slice none 0 0] 34)).cell? ⟨Bw, 0, none⟩ = some v0 := (hB0.cell (p := ⟨Bw, 0, none⟩) hBl).trans hBw
  have hv3 : Chs w.heap.size (w.alloc (.cells #[.slice none 0 0] 34)) v0 l := (Hid.out hv).below hB0 (Nat.le_refl _)
  have hok3 : OkB (w.alloc (.cells #[.slice none 0 0] 34)) w.heap.size := by
    intro g hg
    rw [rowOf_cell bO.cell] at hg; simp [Value.ownBlock] at hg
  refine wpIn_rangeFunc_ownG rfl (by omega) (gf := 81) (lb := #[.pointer (some ⟨Bw, 0, none⟩)]) rfl trivial (enters_of Tryd.func81 (by kernel_rfl) rfl)
    (numbers7_stops _ (by omega) Bw w.heap.size w.heap.size hgB hr (w.alloc (.cells #[.slice none 0 0] 34)) (by simp; omega) hc3 hv3 hT3 (by simp) hok3 (by simp)) KeepC.trans (keepC_b (by simp) (by simp)) (Below.refl _ _) (fun _ => rfl)
    (fun pre W => (∃ v, Boxed W w.heap.size 34 v ∧ W.ownsRow w.heap.size 3 1 v pre.length ((vals16 pre).map iv) ∧ (fun (_ : List N16) (_ : Value) => True) pre v) ∧ (Below w.heap.size w W ∧ w.heap.size < W.heap.size))
    (fun _ _ _ => False)
    (OwnFrom.and (Own.from (holdsRow_own w.heap.size w.heap.size 34 3 1 (fun pre => pre.length) (fun pre => (vals16 pre).map iv) (fun _ _ => True)) _) (OwnFrom.and (ownFrom_below (Nat.le_refl _) (by simp)) (fun _ _ _ _ h hg _ => Nat.lt_of_lt_of_le h hg.size)))
    (fun _ _ _ _ _ hs _ _ => hs)
    ⟨⟨_, bO, World.ownsRow_nil _ _ _ _, trivial⟩, hB0, by simp⟩
    (fun x => { tmps := #[.slice none 0 0, .func (.func 81) #[] #[.pointer (some ⟨Bw, 0, none⟩)], .pointer (some ⟨w.heap.size, 0, none⟩), undef, .slice none 0 0, .int .i64 (x.val : Int), .func (.func 81) #[] #[.pointer (some ⟨Bw, 0, none⟩)], .int .i64 (x.val : Int), undef, undef, undef, undef, undef], defers := [] }) ?assign ?body ?done ?stop
  case assign =>
    intro l x W K hK
    gi_wp2
    exact hK
  case body =>
    rintro l pre x W ⟨⟨v, hv, hrow, _⟩, hB, hlt0⟩ hlt
    have hc := hv.cell
    have hx := x.isLt
    gi_wp2_with (gi_at_builtin; refine wpListIn_append_own_at _ rfl _ _ 34 rfl w.heap.size 3 i0 (.int .i64 0) 1 8 Tryd.underlying34 hi hz0 hz1 hz2 rfl (by decide) _ _ _ rfl (hrow.alloc _) ⟨W.heap.size, 0, none⟩ 1 1 [.int .i64 (x.val : Int)] rfl rfl (cell_one_new _ _ _) (by simp [Value.oneCell']) (by unfold maxLen; omega) (by omega) (by simp; omega) ?_; intro v' w1 hown' hgrow _ hloc; obtain ⟨g', cap', rfl⟩ := ownsRow_succ hown'; obtain ⟨hv1, hv2, hr2, hk2, hb2⟩ := hv.appended (by decide) hrow (by omega) (Nat.le_refl _) hown' hgrow; have hkc := Lib.hid (KeepC.appended hv hown' hgrow hloc hv2 hb2); clear hloc; have hc1 := hv1.cell; have hf1 := hv1.frozen)
    exact ⟨hk2.from _, hkc.out, ⟨_, hv2, by rw [List.length_append, vals16_snoc, List.map_append]; exact hr2⟩, hB.trans (hb2.mono (by omega)), by have := hb2.size; omega⟩
  case done =>
    rintro D ys W hD hys ⟨⟨v, hv, hrow, _⟩, hB, _⟩ hK
    have hc := hv.cell
    gi_wp2
    refine ⟨by simp, .inl ⟨_, _, rfl, run_takeDeferred hK, ?_⟩⟩
    have hl : (allN l).length = ys.length := by rw [← hys]; simp [vals16]
    exact ⟨_, results_tmp rfl _ _ _, v, rfl, by rw [hl, ← hys]; exact ownsRow_putObj hrow _ hK rfl, hB.trans (belowK_b (w := w) (Nat.le_refl _) W D _ _ (by simp at hD; omega) hK rfl rfl)⟩
  case stop =>
    rintro D c pre W _ _ h _
    exact h.elim

/-- slices.Collect. -/
theorem collect7_any {l : List Ch} {v0 : Value} (hr : rightL l = true) (Bw : Nat) (w : World) (hT : Tab w) (hBw : w.cell? ⟨Bw, 0, none⟩ = some v0) (hv : HC w v0 l) (hBl : Bw < w.heap.size) :
    Calls Tryd.prog 50 #[.func (.func 81) #[] #[.pointer (some ⟨Bw, 0, none⟩)]] w fun e W' => ∃ v, e = .returned v ∧ W'.ownsRow w.heap.size 3 1 v (allN l).length ((allN l).map iv) ∧ Below w.heap.size w W' := by
  have ha := Lib.hid (appendSeq7_any hr Bw w hT hBw hv hBl)
  clear hT hBw hv hBl
  go_enter Tryd.func50, Tryd.ntmps50
  go_wp2_with fail
  refine (ha.out).mono ?_
  rintro e W1 ⟨v, rfl, hown, hb1⟩
  go_wp2
  exact bodyPost_ret (v := v) (by simp [results, Tryd.results50, go_sem]) rfl ⟨_, rfl, hown, hb1⟩

theorem numbersOf_any (v : Value) (w : World) :
    Calls Tryd.prog 51 #[.agg #[v]] w fun e w' => e = .returned (.func (.func 81) #[] #[.pointer (some ⟨w.heap.size, 0, none⟩)]) ∧ w' = w.alloc (.cells #[v] 24) := by
  go_enter Tryd.func51, Tryd.ntmps51
  go_wp2
  exact bodyPost_ret (v := .func (.func 81) #[] #[.pointer (some ⟨w.heap.size, 0, none⟩)]) (by simp [results, Tryd.results51, go_sem]) rfl ⟨rfl, rfl⟩

/-- What Values answers. -/
def valL (l : List Ch) : List Nat := if rightL l = true then allN l else []
theorem hi_of_row {W : World} {base : Nat} {v : Value} {ns : List Nat} (h : W.ownsRow base 3 1 v ns.length (ns.map iv)) : HI W v (ns.map Int.ofNat) :=
  Lib.hid (ints_of_row h (by rw [List.map_map]; rfl))

set_option maxRecDepth 100000 in
set_option maxHeartbeats 4000000 in
/-- **Values(r)** -/
theorem values7_any {l : List Ch} {v : Value} {w : World} (h : HC w v l) (hs : Small l) (hT : Tab w) :
    Calls Tryd.prog 29 #[.agg #[v]] w fun e W' => ∃ v', e = .returned v' ∧ HI W' v' ((valL l).map Int.ofNat) ∧ (∀ p n c, v' = .slice p n c → n ≤ c) ∧ Below w.heap.size w W' := by
  have hR : Below w.heap.size w (w.alloc (.cells #[v] 24)) := (Below.refl _ w).alloc (Nat.le_refl _) _
  have hr := Lib.hid (right_any (h.alloc (.cells #[v] 24)) hs.1 hs.2 (hT.below hR hT.lt))
  have hx0 := RBox.new w v
  have hx := hx0.cell
  have hv := h.alloc (.cells #[v] 24)
  clear h hs
  go_enter Tryd.func29, Tryd.ntmps29
  go_wp2_with fail
  refine (hr.out).mono ?_
  rintro e W1 ⟨rfl, hb1⟩
  have hB1 := Lib.hid (hR.trans (hb1.mono hR.size))
  have hv1 := hv.later hb1
  have hx1 := (hx0.later hb1).cell
  clear hx hx0 hv hb1 hr hR
  cases hrr : rightL l with
  | false =>
    have hfin : Hid (valL l = []) := by show _ = _; unfold valL; rw [hrr]; rfl
    clear hrr
    go_wp2
    exact bodyPost_ret (v := .slice none 0 0) (by simp [results, Tryd.results29, go_sem]) rfl ⟨_, rfl, by rw [hfin.out]; exact Lib.hid (.inl ⟨⟨_, rfl⟩, rfl⟩), (fun p n c e => by cases e; exact Nat.le_refl _), hB1.out⟩
  | true =>
    have hfin : Hid (valL l = allN l) := by show _ = _; unfold valL; rw [hrr]; rfl
    have hn := Lib.hid (numbersOf_any v W1)
    have hR2 : Below W1.heap.size W1 (W1.alloc (.cells #[v] 24)) := (Below.refl _ W1).alloc (Nat.le_refl _) _
    have hcl := Lib.hid (collect7_any hrr W1.heap.size (W1.alloc (.cells #[v] 24)) (hT.below (hB1.out.trans (hR2.mono hB1.out.size)) hT.lt) (RBox.new W1 v).cell (hv1.alloc _) (by simp))
    have hR2' := Lib.hid hR2
    clear hrr hR2 hv1
    go_wp2_with fail
    refine (hn.out).mono ?_
    rintro e W2 ⟨rfl, rfl⟩
    clear hn
    go_wp2_with fail
    refine (hcl.out).mono ?_
    rintro e W3 ⟨v', rfl, hown, hb3⟩
    have hb4 := Lib.hid (hB1.out.trans ((hR2'.out.trans (hb3.mono hR2'.out.size)).mono hB1.out.size))
    have hhi := Lib.hid (hi_of_row hown)
    have hcp := Lib.hid (row_cap hown)
    clear hown hb3 hcl
    go_wp2
    exact bodyPost_ret (v := v') (by simp [results, Tryd.results29, go_sem]) rfl ⟨_, rfl, by rw [hfin.out]; exact hhi.out, hcp.out, hb4.out⟩
end Go.Proofs.YtalnfbkmlllfhaaDoor
