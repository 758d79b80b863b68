/-
  cont's Values, Select: a set's numbers as a new slice.
-/
import Derived.Test.YtalnfbkmlllfhaaDoorRank
import Derived.Test.YtalnfbkmlllfhaaDoorPlain
namespace Go.Proofs.YtalnfbkmlllfhaaDoor
open Go.RowKit Go.Shelf Tess

attribute [local go_sem] Oper.semAt_some

/-- A number in memory. -/
def iv (x : Nat) : Value := .int .i64 (x : Int)

set_option maxRecDepth 100000 in
set_option maxHeartbeats 2000000 in
/-- slices.AppendSeq of nil and of a set's numbers. -/
theorem appendSeq_any (s Bw b : Nat) (w : World) (hT : Tab w) (hBw : w.cell? ⟨Bw, 0, none⟩ = some (.pointer (some ⟨b, 0, none⟩))) (hw : Words 109 w b s) (hBl : Bw < w.heap.size) :
    Calls Tryd.prog 80 #[.slice none 0 0, .func (.func 95) #[] #[.pointer (some ⟨Bw, 0, none⟩)]] w fun e W' => ∃ v, e = .returned v ∧ W'.ownsRow w.heap.size 3 1 v (nums s).length ((nums s).map iv) ∧ Below w.heap.size w W' := by
  have hgB := hT.lt
  obtain ⟨i0, hi, hz0, hz1, hz2⟩ := info_parts info_int
  refine (callsIn_wide (n := 9)).1 ?_
  refine callsIn_of_wp_marks Tryd.func80 rfl trivial ?_ rfl
  simp only [Tryd.ntmps80, List.size_toArray, List.length_cons, List.length_nil, Nat.reduceAdd, Nat.reduceSub, Array.replicate_succ, Array.replicate_zero, List.push_toArray, List.append_toArray, List.nil_append, List.cons_append]
  gi_wp2
  have bO := Boxed.new w 34 (.slice none 0 0)
  have hB0 : Below w.heap.size w (w.alloc (.cells #[.slice none 0 0] 34)) := (Below.refl _ w).alloc (Nat.le_refl _) _
  have hT3 := hT.below hB0 hgB
  have bW3 := hw.alloc (.cells #[.slice none 0 0] 34)
  have hc3 : (w.alloc (.cells #[.slice none 0 0] 34)).cell? ⟨Bw, 0, none⟩ = some (.pointer (some ⟨b, 0, none⟩)) := (hB0.cell (p := ⟨Bw, 0, none⟩) hBl).trans hBw
  have hbl := hw.lt
  refine wpIn_rangeFunc_ownG rfl (by omega) (gf := 95) (lb := #[.pointer (some ⟨Bw, 0, none⟩)]) rfl trivial (enters_of Tryd.func95 (by kernel_rfl) rfl)
    (numbers_stops _ (by omega) Bw b w.heap.size s _ hbl hgB (by simp; omega) (by simp) hc3 bW3 hT3) belowK_t (belowK_b (by simp)) (Below.refl _ _) (fun _ => rfl)
    (fun pre W => (∃ v, Boxed W w.heap.size 34 v ∧ W.ownsRow w.heap.size 3 1 v pre.length ((vals pre).map iv) ∧ (fun (_ : List N8) (_ : Value) => True) pre v) ∧ (Below w.heap.size w W ∧ w.heap.size < W.heap.size))
    (fun _ _ _ => False)
    (OwnFrom.and (Own.from (holdsRow_own w.heap.size w.heap.size 34 3 1 (fun pre => pre.length) (fun pre => (vals pre).map iv) (fun _ _ => True)) _) (OwnFrom.and (ownFrom_below (Nat.le_refl _) (by simp)) (fun _ _ _ _ h hg _ => Nat.lt_of_lt_of_le h hg.size)))
    (fun _ _ _ _ _ hs _ _ => hs)
    ⟨⟨_, bO, World.ownsRow_nil _ _ _ _, trivial⟩, hB0, by simp⟩
    (fun x => { tmps := #[.slice none 0 0, .func (.func 95) #[] #[.pointer (some ⟨Bw, 0, none⟩)], .pointer (some ⟨w.heap.size, 0, none⟩), undef, .slice none 0 0, .int .i64 (x.val : Int), .func (.func 95) #[] #[.pointer (some ⟨Bw, 0, none⟩)], .int .i64 (x.val : Int), undef, undef, undef, undef, undef], defers := [] }) ?assign ?body ?done ?stop
  case assign =>
    intro l x W K hK
    gi_wp2
    exact hK
  case body =>
    rintro l pre x W ⟨⟨v, hv, hrow, _⟩, hB, hlt0⟩ hlt
    have hc := hv.cell
    have hx := x.isLt
    gi_wp2_with (gi_at_builtin; refine wpListIn_append_own _ rfl _ _ 34 rfl w.heap.size 3 i0 (.int .i64 0) 1 8 Tryd.underlying34 hi hz0 hz1 hz2 rfl (by decide) _ _ _ rfl (hrow.alloc _) ⟨W.heap.size, 0, none⟩ 1 1 [.int .i64 (x.val : Int)] rfl rfl (cell_one_new _ _ _) (by simp [Value.oneCell']) (by unfold maxLen; omega) (by omega) (by simp; omega) ?_; intro v' w1 hown' hgrow _; obtain ⟨g', cap', rfl⟩ := ownsRow_succ hown'; obtain ⟨hv1, hv2, hr2, hk2, hb2⟩ := hv.appended (by decide) hrow (by omega) (Nat.le_refl _) hown' hgrow; have hc1 := hv1.cell; have hf1 := hv1.frozen)
    exact ⟨hk2.from _, hb2, ⟨_, hv2, by rw [List.length_append, vals_snoc, List.map_append]; exact hr2⟩, hB.trans (hb2.mono (by omega)), by have := hb2.size; omega⟩
  case done =>
    rintro D ys W hD hys ⟨⟨v, hv, hrow, _⟩, hB, _⟩ hK
    have hc := hv.cell
    gi_wp2
    refine ⟨by simp, .inl ⟨_, _, rfl, run_takeDeferred hK, ?_⟩⟩
    have hl : (nums s).length = ys.length := by rw [← hys]; simp [vals]
    exact ⟨_, results_tmp rfl _ _ _, v, rfl, by rw [hl, ← hys]; exact ownsRow_putObj hrow _ hK rfl, hB.trans (belowK_b (w := w) (Nat.le_refl _) W D _ _ (by simp at hD; omega) hK rfl rfl)⟩
  case stop =>
    rintro D c pre W _ _ h _
    exact h.elim

/-- slices.Collect. -/
theorem collect_any (s Bw b : Nat) (w : World) (hT : Tab w) (hBw : w.cell? ⟨Bw, 0, none⟩ = some (.pointer (some ⟨b, 0, none⟩))) (hw : Words 109 w b s) (hBl : Bw < w.heap.size) :
    Calls Tryd.prog 50 #[.func (.func 95) #[] #[.pointer (some ⟨Bw, 0, none⟩)]] w fun e W' => ∃ v, e = .returned v ∧ W'.ownsRow w.heap.size 3 1 v (nums s).length ((nums s).map iv) ∧ Below w.heap.size w W' := by
  have ha := Lib.hid (appendSeq_any s Bw b w hT hBw hw hBl)
  clear hT hBw hw hBl
  go_enter Tryd.func50, Tryd.ntmps50
  go_wp2_with fail
  refine (ha.out).mono ?_
  rintro e W1 ⟨v, rfl, hown, hb1⟩
  go_wp2
  exact bodyPost_ret (v := v) (by simp [results, Tryd.results50, go_sem]) rfl ⟨_, rfl, hown, hb1⟩

/-- The iterator, outside of the fenced walks. -/
theorem numbers_any (a : Option Addr) (w : World) :
    Calls Tryd.prog 82 #[.pointer a] w fun e w' => e = .returned (.func (.func 95) #[] #[.pointer (some ⟨w.heap.size, 0, none⟩)]) ∧ w' = w.alloc (.cells #[.pointer a] 145) :=
  (callsIn_wide (n := 9)).1 (numbers_in 9 a w)

set_option maxRecDepth 100000 in
set_option maxHeartbeats 2000000 in
/-- **Values(c)** -/
theorem Values_any (form : Int) (D : ByteArray) (w : World) (hD : D.size ≤ 1000000) (hT : Tab w) :
    Calls Tryd.prog 79 #[.agg #[.int .i64 form, .string D]] w fun e W' => ∃ v, e = .returned v ∧ W'.ownsRow w.heap.size 3 1 v (nums (ofRes form D).1).length ((nums (ofRes form D).1).map iv) ∧ Below w.heap.size w W' := by
  have hR : Below w.heap.size w (w.alloc (.cells #[.int .i64 form, .string D] 57)) := ((Below.refl _ w).alloc (Nat.le_refl _) _)
  have ho := Lib.hid (of_any form D _ hD (hT.below hR hT.lt))
  go_enter Tryd.func79, Tryd.ntmps79
  go_wp2_with fail
  refine (ho.out).mono ?_
  rintro e W1 ⟨rfl, hb1⟩
  obtain ⟨hw, hB⟩ := of_words (ofRes form D).1 hb1
  clear hb1
  generalize hss : (ofRes form D).1 = s at hw hB ⊢
  have hN := Lib.hid (numbers_any (some ⟨W1.heap.size, 0, none⟩) (W1.alloc (.cells #[.int .u64 (limb s 0 : Int), .int .u64 (limb s 1 : Int), .int .u64 (limb s 2 : Int), .int .u64 (limb s 3 : Int)] 109)))
  have hs1 : (W1.alloc (.cells #[.int .u64 (limb s 0 : Int), .int .u64 (limb s 1 : Int), .int .u64 (limb s 2 : Int), .int .u64 (limb s 3 : Int)] 109)).heap.size = W1.heap.size + 1 := by simp
  have hBs := hB.size
  rw [hs1] at hBs
  have bN := Boxed.new (W1.alloc (.cells #[.int .u64 (limb s 0 : Int), .int .u64 (limb s 1 : Int), .int .u64 (limb s 2 : Int), .int .u64 (limb s 3 : Int)] 109)) 145 (.pointer (some ⟨W1.heap.size, 0, none⟩))
  rw [hs1] at bN
  have hB2 := hB.alloc (by rw [hs1]; exact hBs) (.cells #[.pointer (some ⟨W1.heap.size, 0, none⟩)] 145)
  have hc := Lib.hid (collect_any s (W1.heap.size + 1) W1.heap.size _ (hT.below hB2 hT.lt) bN.cell (hw.alloc _) (by simp))
  have hB2' := Lib.hid hB2
  clear bN hw hB hB2
  simp only [wv, wcs, lv]
  go_wp2_with fail
  refine (hN.out).mono ?_
  rintro e W2 ⟨rfl, rfl⟩
  simp only [World.size_alloc]
  go_wp2_with fail
  refine (hc.out).mono ?_
  rintro e W3 ⟨v, rfl, hown, hb3⟩
  go_wp2
  exact bodyPost_ret (v := v) (by simp [results, Tryd.results79, go_sem]) rfl ⟨_, rfl, by rw [hss]; exact ownsRow_base hown (by simp only [World.size_alloc]; omega), hB2'.out.trans (hb3.mono (by simp only [World.size_alloc]; omega))⟩

theorem ints_of_vals {W : World} {base : Nat} {v : Value} {s : Nat} (h : W.ownsRow base 3 1 v (nums s).length ((nums s).map iv)) : Ints W.heap.size W v ((nums s).map Int.ofNat) :=
  ints_of_row h (by rw [List.map_map]; rfl)

set_option maxRecDepth 100000 in
set_option maxHeartbeats 2000000 in
/-- **Select(c, place)** -/
theorem Select_any (form : Int) (D : ByteArray) (p : Int) (w : World) (hD : D.size ≤ 1000000) (hT : Tab w) :
    Calls Tryd.prog 48 #[.agg #[.int .i64 form, .string D], .int .i64 p] w fun e W' => e = .returned (.tuple #[.int .i64 (selRes (ofRes form D).1 p).1, .bool (selRes (ofRes form D).1 p).2]) ∧ Below w.heap.size w W' := by
  have hR : Below w.heap.size w (w.alloc (.cells #[.int .i64 form, .string D] 57)) := ((Below.refl _ w).alloc (Nat.le_refl _) _)
  have hv := Lib.hid (Values_any form D _ hD (hT.below hR hT.lt))
  generalize (ofRes form D).1 = s at hv ⊢
  go_enter Tryd.func48, Tryd.ntmps48
  go_wp2_with fail
  refine (hv.out).mono ?_
  rintro e W1 ⟨v, rfl, hown, hb1⟩
  have hB := Lib.hid (hR.trans (hb1.mono (by simp)))
  have hcl := count_le s
  have hcn : (nums s).length = count s := rfl
  clear hb1 hR hv
  cases h1 : decide (p < 0) with
  | true =>
    have hsel := Lib.hid (sel_out (s := s) (p := p) (.inl (by simpa using h1)))
    go_wp2
    exact bodyPost_ret (v := .tuple #[.int .i64 0, .bool false]) (by simp [results, Tryd.results48, go_sem]) rfl ⟨by rw [hsel.out], hB.out⟩
  | false =>
    rcases hown.2 with ⟨rfl, h0⟩ | ⟨g, cap, cur, rfl, _, _⟩
    · have hsel := Lib.hid (sel_out (s := s) (p := p) (.inr (by simp at h1; omega)))
      have h2 : decide (0 ≤ p) = true := by simp at h1 ⊢; omega
      go_wp2
      exact bodyPost_ret (v := .tuple #[.int .i64 0, .bool false]) (by simp [results, Tryd.results48, go_sem]) rfl ⟨by rw [hsel.out], hB.out⟩
    · obtain ⟨k, rfl⟩ : ∃ k : Nat, p = k := ⟨p.toNat, by simp at h1; omega⟩
      by_cases hk : k < (nums s).length
      · have h2 : decide (((nums s).length : Int) ≤ (k : Int)) = false := by simp; omega
        have hsel : Hid (selRes s k = ((((nums s)[k] : Nat) : Int), true)) := by
          show _ = _
          unfold selRes; rw [if_pos (by omega)]; simp [hk]
        have hcx := hown.cellAt k (by omega)
        rw [List.getElem?_map, List.getElem?_eq_getElem hk] at hcx
        simp only [Option.map_some, iv] at hcx
        generalize (nums s)[k] = m at hsel hcx
        generalize (nums s).length = ln at *
        go_wp2
        exact bodyPost_ret (v := .tuple #[.int .i64 m, .bool true]) (by simp [results, Tryd.results48, go_sem]) rfl ⟨by rw [hsel.out], hB.out⟩
      · have h2 : decide (((nums s).length : Int) ≤ (k : Int)) = true := by simp; omega
        have hsel := Lib.hid (sel_out (s := s) (p := k) (.inr (by omega)))
        generalize (nums s).length = ln at *
        go_wp2
        exact bodyPost_ret (v := .tuple #[.int .i64 0, .bool false]) (by simp [results, Tryd.results48, go_sem]) rfl ⟨by rw [hsel.out], hB.out⟩
end Go.Proofs.YtalnfbkmlllfhaaDoor
