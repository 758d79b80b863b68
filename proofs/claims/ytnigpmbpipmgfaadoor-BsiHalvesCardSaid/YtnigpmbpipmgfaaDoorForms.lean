/-
  A set's bytes: cont's array, raw, runs: each hands back a new slice that owns them.
-/
import Derived.RangeFuncNested
import Derived.RangeFuncBound
import Derived.RangeFuncCalls
import Derived.RangeFuncLeaves
import Derived.Shelf.Abstract
import Derived.WalkKit
import Derived.OwnWalkIn
import Derived.TacticsInMore
import Derived.LoopNIn
import Derived.LoopIn
import Derived.Maps.AppendAt
import Derived.Lib.Hide
import Derived.Test.YtnigpmbpipmgfaaDoorIter
namespace Go.Proofs.YtnigpmbpipmgfaaDoor
open Go.RowKit Go.Shelf Tess

attribute [local go_sem] Oper.semAt_some

theorem info_u8 : (Tryd.prog.info? 5).map (fun i => (i.zero, i.size, i.bytes)) = some (some (.int .u8 0), 1, 1) := by kernel_rfl

/-- A byte in memory. -/
def bv (x : Nat) : Value := .int .u8 (x : Int)

theorem ownsRow_base {w : World} {b b' : Nat} {e : TypeId} {size : Nat} {v : Value} {n : Nat} {xs : List Value} (h : w.ownsRow b e size v n xs) (hb : b' ≤ b) : w.ownsRow b' e size v n xs := by
  refine ⟨h.1, ?_⟩
  rcases h.2 with h0 | ⟨g, cap, cur, hv, hg, rest⟩
  · exact .inl h0
  · exact .inr ⟨g, cap, cur, hv, Nat.le_trans hb hg, rest⟩

set_option maxRecDepth 100000 in
set_option maxHeartbeats 2000000 in
/-- array(w): the numbers, a byte each. -/
theorem array_any (s : Nat) (w : World) (hT : Tab w) :
    Calls Tryd.prog 111 #[wv s] w fun e W' => ∃ v, e = .returned v ∧ W'.ownsRow w.heap.size 5 1 v (nums s).length ((nums s).map bv) ∧ Below w.heap.size w W' := by
  have hgB := hT.lt
  obtain ⟨i0, hi, hz0, hz1, hz2⟩ := info_parts info_u8
  refine (callsIn_wide (n := 9)).1 ?_
  refine callsIn_of_wp_marks Tryd.func111 rfl trivial ?_ rfl
  simp only [Tryd.ntmps111, wv, List.size_toArray, List.length_cons, List.length_nil, Nat.reduceAdd, Nat.reduceSub, Array.replicate_succ, Array.replicate_zero, List.push_toArray, List.append_toArray, List.nil_append, List.cons_append]
  gi_wp2_with (refine ⟨trivial, ?_⟩; gi_at_call 116; refine (numbers_in _ _ _).mono ?_; rintro e w' ⟨rfl, rfl⟩)
  have bW : Words 113 (w.alloc (.cells (wcs s) 113)) w.heap.size s := Words.new w _ s
  have bO := Boxed.new (w.alloc (.cells (wcs s) 113)) 148 (.slice none 0 0)
  have bN := Boxed.new ((w.alloc (.cells (wcs s) 113)).alloc (.cells #[.slice none 0 0] 148)) 138 (.pointer (some ⟨w.heap.size, 0, none⟩))
  rw [World.size_alloc] at bO
  rw [World.size_alloc, World.size_alloc] at bN
  have hB1 : Below w.heap.size w ((w.alloc (.cells (wcs s) 113)).alloc (.cells #[.slice none 0 0] 148)) := ((Below.refl _ w).alloc (Nat.le_refl _) _).alloc (by simp) _
  have hB0 := hB1.alloc (by simp; omega) (.cells #[.pointer (some ⟨w.heap.size, 0, none⟩)] 138)
  have hT3 := hT.below hB0 hgB
  have bW3 := (bW.alloc (.cells #[.slice none 0 0] 148)).alloc (.cells #[.pointer (some ⟨w.heap.size, 0, none⟩)] 138)
  refine wpIn_rangeFunc_ownG rfl (by omega) (gf := 118) (lb := #[.pointer (some ⟨w.heap.size + 1 + 1, 0, none⟩)]) rfl trivial (enters_of Tryd.func118 (by kernel_rfl) rfl)
    (numbers_stops _ (by omega) (w.heap.size + 1 + 1) w.heap.size (w.heap.size + 1) s _ (by omega) (by omega) (by simp) (by simp) bN.cell bW3 hT3) belowK_t (belowK_b (by simp)) (Below.refl _ _) (fun _ => rfl)
    (fun pre W => (∃ v, Boxed W (w.heap.size + 1) 148 v ∧ W.ownsRow (w.heap.size + 1) 5 1 v pre.length ((vals pre).map bv) ∧ (fun (_ : List N8) (_ : Value) => True) pre v) ∧ (Below w.heap.size w W ∧ w.heap.size + 1 < W.heap.size))
    (fun _ _ _ => False)
    (OwnFrom.and (Own.from (holdsRow_own (w.heap.size + 1) (w.heap.size + 1) 148 5 1 (fun pre => pre.length) (fun pre => (vals pre).map bv) (fun _ _ => True)) _) (OwnFrom.and (ownFrom_below (Nat.le_refl _) (by simp; omega)) (fun _ _ _ _ h hg _ => Nat.lt_of_lt_of_le h hg.size)))
    (fun _ _ _ _ _ hs _ _ => hs)
    ⟨⟨_, bO.alloc _, World.ownsRow_nil _ _ _ _, trivial⟩, hB0, by simp⟩
    (fun x => { tmps := #[.agg (wcs s), .pointer (some ⟨w.heap.size, 0, none⟩), .slice none 0 0, .pointer (some ⟨w.heap.size + 1, 0, none⟩), .int .i64 (x.val : Int), .func (.func 118) #[] #[.pointer (some ⟨w.heap.size + 1 + 1, 0, none⟩)], .int .i64 (x.val : Int), undef, undef, undef, undef, undef, undef], defers := [] }) ?assign ?body ?done ?stop
  case assign =>
    intro l x W K hK
    gi_wp2
    exact hK
  case body =>
    rintro l pre x W ⟨⟨v, hv, hrow, _⟩, hB, hlt0⟩ hlt
    have hc := hv.cell
    have hx := x.isLt
    have hxb : IntKind.u8.wrap (x.val : Int) = (x.val : Int) := by rw [IntKind.wrap_u8']; omega
    gi_wp2_with (gi_at_builtin; refine wpListIn_append_own _ rfl _ _ 148 rfl (w.heap.size + 1) 5 i0 (.int .u8 0) 1 1 Tryd.underlying148 hi hz0 hz1 hz2 rfl (by decide) _ _ _ rfl (hrow.alloc _) ⟨W.heap.size, 0, none⟩ 1 1 [.int .u8 (x.val : Int)] rfl rfl (cell_one_new _ _ _) (by simp [Value.oneCell']) (by unfold maxLen; omega) (by omega) (by simp; omega) ?_; intro v' w1 hown' hgrow _; obtain ⟨g', cap', rfl⟩ := ownsRow_succ hown'; obtain ⟨hv1, hv2, hr2, hk2, hb2⟩ := hv.appended (by decide) hrow (by omega) (Nat.le_refl _) hown' hgrow; have hc1 := hv1.cell; have hf1 := hv1.frozen)
    exact ⟨hk2.from _, hb2, ⟨_, hv2, by rw [List.length_append, vals_snoc, List.map_append]; exact hr2⟩, hB.trans (hb2.mono (by omega)), by have := hb2.size; omega⟩
  case done =>
    rintro D ys W hD hys ⟨⟨v, hv, hrow, _⟩, hB, _⟩ hK
    have hc := hv.cell
    gi_wp2
    refine ⟨by simp, .inl ⟨_, _, rfl, run_takeDeferred hK, ?_⟩⟩
    have hl : (nums s).length = ys.length := by rw [← hys]; simp [vals]
    exact ⟨_, results_tmp rfl _ _ _, v, rfl, by rw [hl, ← hys]; exact ownsRow_base (ownsRow_putObj hrow _ hK rfl) (by omega), hB.trans (belowK_b (w := w) (Nat.le_refl _) W D _ _ (by simp at hD; omega) hK rfl rfl)⟩
  case stop =>
    rintro D c pre W _ _ h _
    exact h.elim

theorem byte_limb (s : Nat) {k : Nat} (_hk : k < 32) : limb s (k * 8 / 64) / 2 ^ (k * 8 % 64) % 256 = byteAt s k := by
  apply Nat.eq_of_testBit_eq
  intro j
  rw [testBit_byteAt, show (256 : Nat) = 2 ^ 8 from rfl, Nat.testBit_mod_two_pow, Nat.testBit_div_two_pow, testBit_limb]
  by_cases hj : j < 8
  · have h1 : j + k * 8 % 64 < 64 := by omega
    have h2 : 64 * (k * 8 / 64) + (j + k * 8 % 64) = 8 * k + j := by omega
    simp [hj, h1, h2]
  · simp [hj]
theorem byte_limb_int (s : Nat) {k : Nat} (hk : k < 32) : ((limb s (k * 8 / 64) : Nat) : Int) / 2 ^ (k * 8 % 64) % 256 = ((byteAt s k : Nat) : Int) := by
  rw [← byte_limb s hk, Int.natCast_emod, Int.natCast_ediv, Int.natCast_pow]; rfl

/-- What has been written when k bytes are out. -/
def rawTo (s k : Nat) : List Nat := (List.range k).map (byteAt s)
theorem rawTo_succ (s k : Nat) : rawTo s (k + 1) = rawTo s k ++ [byteAt s k] := by simp [rawTo, List.range_succ]
theorem rawTo_len (s k : Nat) : (rawTo s k).length = k := by simp [rawTo]

set_option maxRecDepth 100000 in
set_option maxHeartbeats 2000000 in
/-- raw(w): the bits, eight a byte. -/
theorem raw_any (s : Nat) (w : World) :
    Calls Tryd.prog 112 #[wv s] w fun e W' => ∃ v, e = .returned v ∧ W'.ownsRow w.heap.size 5 1 v (raw s).length ((raw s).map bv) ∧ Below w.heap.size w W' := by
  obtain ⟨i0, hi, hz0, hz1, hz2⟩ := info_parts info_u8
  have hB1 : Below w.heap.size w (w.alloc (.cells (wcs s) 113)) := (Below.refl _ w).alloc (Nat.le_refl _) _
  go_enter Tryd.func112, Tryd.ntmps112
  simp only [wv]
  go_wp2
  go_loopw [3, 5] (fun v i wr => ∃ k : Nat, k ≤ 32 ∧ i = .int .i64 k ∧ wr.ownsRow (w.heap.size + 1) 5 1 v (rawTo s k).length ((rawTo s k).map bv) ∧ Below w.heap.size w wr ∧ Words 113 wr w.heap.size s)
    (fun _ i _ => 32 - (intOf i).toNat)
  case atStart => exact ⟨0, by omega, rfl, World.ownsRow_nil _ _ _ _, hB1, Words.new w _ s⟩
  case round =>
    obtain ⟨k, hk, rfl, hrow, hB, hw⟩ := hrel
    have hl := rawTo_len s k
    by_cases hlt : k < 32
    · have hck := hw.cell (i := k * 8 / 64) (by omega)
      have hll := limb_lt s (k * 8 / 64)
      have hkd : decide ((k : Int) < 32) = true := by simp; omega
      have hbl := byte_limb_int s hlt
      go_wp2_with (at_builtin; refine wpList_append_own _ rfl _ _ 148 rfl (w.heap.size + 1) 5 i0 (.int .u8 0) 1 1 Tryd.underlying148 hi hz0 hz1 hz2 rfl (by decide) _ _ _ rfl (hrow.alloc _) ⟨wr.heap.size, 0, none⟩ 1 1 [.int .u8 (byteAt s k : Int)] rfl rfl (cell_one_new _ _ _) (by simp [Value.oneCell']) (by unfold maxLen; omega) (by omega) (by have := hw.lt; simp; omega) ?_; intro v' w1 hown' hgrow _; obtain ⟨g', cap', rfl⟩ := ownsRow_succ hown')
      have hne : ∀ g, Value.ownBlock _ = some g → w.heap.size + 1 ≤ g := fun g hg => ((hrow.lt) g hg).1
      have hw1 := (hw.alloc (.cells #[.int .u8 (byteAt s k : Int)] 5)).grown hgrow (fun e => by have := hne _ e.symm; omega)
      have hB2 := (hB.alloc hB.size (.cells #[.int .u8 (byteAt s k : Int)] 5)).grown hgrow (by simp; have := hB.size; omega) (fun g hg => by have := hne g hg; omega)
      go_roundw
      case rel => exact ⟨k + 1, by omega, by go_num, by rw [rawTo_len, rawTo_succ, List.map_append]; rw [rawTo_len] at hown'; exact hown', hB2, hw1⟩
      case measure => simp [intOf]; omega
    · have hge : 32 ≤ k := by omega
      go_wp2
      go_ret
      obtain rfl : k = 32 := by omega
      exact ⟨_, rfl, ownsRow_base hrow (by omega), hB⟩

theorem boxed_far {W : World} {B : Nat} {t : TypeId} {v : Value} (h : Boxed W B t v) {p : Addr} (hp : B ≠ p.block) (u : Value) : Boxed (W.setCell p u) B t v := (Below.heap_setCell W p u B hp).trans h
theorem cells_two_new (W : World) (a b : Value) (t : TypeId) : ∀ (j : Nat) (u : Value), [a, b][j]? = some u → (W.alloc (.cells #[a, b] t)).cell? ((⟨W.heap.size, 0, none⟩ : Addr).add j) = some u := by
  intro j u hu
  match j, hu with
  | 0, hu => simp at hu; subst hu; simp [Addr.add]
  | 1, hu => simp at hu; subst hu; simp [Addr.add]
  | j + 2, hu => simp at hu

theorem runsOf_range (l : List N8) : -2 ≤ (runsOf (vals l)).2 ∧ (runsOf (vals l)).2 ≤ 255 := by
  rw [runsOf_last]
  split
  · omega
  · rename_i h
    have := List.getLast_mem h
    rw [List.getLast?_eq_some_getLast h, Option.getD_some]
    obtain ⟨x, _, e⟩ := List.mem_map.1 this
    have := x.isLt
    omega

set_option maxRecDepth 100000 in
set_option maxHeartbeats 4000000 in
/-- runs(w): pairs. -/
theorem runs_any (s : Nat) (w : World) (hT : Tab w) :
    Calls Tryd.prog 113 #[wv s] w fun e W' => ∃ v, e = .returned v ∧ W'.ownsRow w.heap.size 5 1 v (runs s).length ((runs s).map bv) ∧ Below w.heap.size w W' := by
  have hgB := hT.lt
  obtain ⟨i0, hi, hz0, hz1, hz2⟩ := info_parts info_u8
  refine (callsIn_wide (n := 9)).1 ?_
  refine callsIn_of_wp_marks Tryd.func113 rfl trivial ?_ rfl
  simp only [Tryd.ntmps113, wv, List.size_toArray, List.length_cons, List.length_nil, Nat.reduceAdd, Nat.reduceSub, Array.replicate_succ, Array.replicate_zero, List.push_toArray, List.append_toArray, List.nil_append, List.cons_append]
  gi_wp2_with (refine ⟨trivial, ?_⟩; gi_at_call 116; refine (numbers_in _ _ _).mono ?_; rintro e w' ⟨rfl, rfl⟩)
  obtain ⟨w1, hw1⟩ : ∃ w1, w1 = (w.alloc (.cells (wcs s) 113)).alloc (.cells #[.slice none 0 0] 148) := ⟨_, rfl⟩
  have hs1 : w1.heap.size = w.heap.size + 2 := by rw [hw1]; simp
  have bW1 : Words 113 w1 w.heap.size s := by rw [hw1]; exact (Words.new w _ s).alloc _
  have bO1 : Boxed w1 (w.heap.size + 1) 148 (.slice none 0 0) := by
    have := Boxed.new (w.alloc (.cells (wcs s) 113)) 148 (.slice none 0 0)
    rw [World.size_alloc] at this
    rw [hw1]; exact this
  have hB1 : Below w.heap.size w w1 := by rw [hw1]; exact ((Below.refl _ w).alloc (Nat.le_refl _) _).alloc (by simp) _
  rw [← hw1]
  clear hw1
  have bL := Boxed.new w1 3 (.int .i64 (-2))
  rw [hs1] at bL
  have bN := Boxed.new (w1.alloc (.cells #[.int .i64 (-2)] 3)) 138 (.pointer (some ⟨w.heap.size, 0, none⟩))
  rw [World.size_alloc, hs1] at bN
  have hB0 := (hB1.alloc (by omega) (.cells #[.int .i64 (-2)] 3)).alloc (by simp; omega) (.cells #[.pointer (some ⟨w.heap.size, 0, none⟩)] 138)
  have hT3 := hT.below hB0 hgB
  have bW3 := (bW1.alloc (.cells #[.int .i64 (-2)] 3)).alloc (.cells #[.pointer (some ⟨w.heap.size, 0, none⟩)] 138)
  refine wpIn_rangeFunc_ownG rfl (by omega) (gf := 118) (lb := #[.pointer (some ⟨w.heap.size + 1 + 1 + 1, 0, none⟩)]) rfl trivial (enters_of Tryd.func118 (by kernel_rfl) rfl)
    (numbers_stops _ (by omega) (w.heap.size + 1 + 1 + 1) w.heap.size (w.heap.size + 1) s _ (by omega) (by omega) (by simp; omega) (by simp; omega) bN.cell bW3 hT3) belowK_t (belowK_b (by simp; omega)) (Below.refl _ _) (fun _ => rfl)
    (fun pre W => (∃ v, Boxed W (w.heap.size + 1) 148 v ∧ W.ownsRow (w.heap.size + 1) 5 1 v (runsOf (vals pre)).1.length ((runsOf (vals pre)).1.map bv) ∧ (fun (_ : List N8) (_ : Value) => True) pre v) ∧ (Boxed W (w.heap.size + 1 + 1) 3 (.int .i64 (runsOf (vals pre)).2) ∧ (Below w.heap.size w W ∧ w.heap.size + 2 < W.heap.size)))
    (fun _ _ _ => False)
    (OwnFrom.and (Own.from (holdsRow_own (w.heap.size + 1) (w.heap.size + 1) 148 5 1 (fun pre => (runsOf (vals pre)).1.length) (fun pre => (runsOf (vals pre)).1.map bv) (fun _ _ => True)) _)
      (OwnFrom.and (Own.from (boxed_own (w.heap.size + 1 + 1) 3 (fun pre => .int .i64 (runsOf (vals pre)).2)) _) (OwnFrom.and (ownFrom_below (Nat.le_refl _) (by simp; omega)) (fun _ _ _ _ h hg _ => Nat.lt_of_lt_of_le h hg.size))))
    (fun _ _ _ _ _ hs _ _ => hs)
    ⟨⟨_, (bO1.alloc _).alloc _, World.ownsRow_nil _ _ _ _, trivial⟩, bL.alloc _, hB0, by simp; omega⟩
    (fun x => { tmps := #[.agg (wcs s), .pointer (some ⟨w.heap.size, 0, none⟩), .slice none 0 0, .pointer (some ⟨w.heap.size + 1, 0, none⟩), .pointer (some ⟨w.heap.size + 1 + 1, 0, none⟩), .int .i64 (x.val : Int), .func (.func 118) #[] #[.pointer (some ⟨w.heap.size + 1 + 1 + 1, 0, none⟩)], .int .i64 (x.val : Int),
      undef, undef, undef, undef, undef, undef, undef, undef, undef, undef, undef, undef, undef, undef, undef, undef, undef, undef, undef], defers := [] }) ?assign ?body ?done ?stop
  case assign =>
    intro l x W K hK
    gi_wp2
    exact hK
  case body =>
    rintro l pre x W ⟨⟨v, hv, hrow, _⟩, hL, hB, hlt0⟩ hlt
    have hc := hv.cell
    have hlc := hL.cell
    have hlf := hL.frozen
    have hx := x.isLt
    have hxb : IntKind.u8.wrap (x.val : Int) = (x.val : Int) := by rw [IntKind.wrap_u8']; omega
    have hrl := runsOf_length (vals pre)
    have hvl : (vals pre).length = pre.length := by simp [vals]
    obtain ⟨hr1, hr2⟩ := runsOf_range pre
    have hpair := fun h => runsOf_two (l := vals pre) h
    have hempty : vals pre = [] → (runsOf (vals pre)).2 = -2 := fun h => by rw [h]; rfl
    have hst : ∀ (R : List Nat × Int), R = runsOf (vals pre) → runsOf (vals (pre ++ [x])) = runStep R x.val := fun R e => by rw [vals_snoc, runsOf_snoc, e]
    generalize runsOf (vals pre) = R at *
    obtain ⟨o, last⟩ := R
    have hst := hst _ rfl
    simp only at *
    by_cases he : (x.val : Int) = last + 1
    · have he' : ((x.val : Int) == last + 1) = true := by simpa using he
      have hne : vals pre ≠ [] := fun h => by have := hempty h; omega
      have h2 := hpair hne
      obtain ⟨m, hm⟩ : ∃ m, o.length = m + 1 := ⟨o.length - 1, by omega⟩
      have hstep : runStep (o, last) x.val = (o.set m ((o[m]?.getD 0 + 1) % 256), (x.val : Int)) := by
        unfold runStep; simp only [he, if_true, hm, Nat.add_sub_cancel]
      rw [hstep] at hst
      rw [hm] at hrow
      obtain ⟨g', cap', rfl⟩ := ownsRow_succ hrow
      have hoc : (o.map bv)[m]? = some (.int .u8 ((o[m]?.getD 0 : Nat) : Int)) := by
        rw [List.getElem?_map, List.getElem?_eq_getElem (by omega)]; simp [bv]
      have hcg := hrow.cellAt m (by omega)
      rw [hoc] at hcg
      have hfg := hrow.frozenAt m
      have hmb : m ≤ 511 := by omega
      have hm' := Lib.hid hm
      have hst' := Lib.hid hst
      have hne' := Lib.hid he
      clear he hst hm hoc hstep hempty hpair hne
      generalize hcx : o[m]?.getD 0 = c at hcg
      have hbv : Value.int .u8 (((c : Int) + 1) % 256) = bv ((c + 1) % 256) := by simp [bv]
      have hgL : w.heap.size + 1 + 1 ≠ g' := fun e => hL.not_row (by decide) hrow (by simp [Value.ownBlock, e])
      have hgO : w.heap.size + 1 ≠ g' := fun e => hv.not_row (by decide) hrow (by simp [Value.ownBlock, e])
      have hgb : w.heap.size + 1 ≤ g' := (hrow.lt g' rfl).1
      have hl2 : (W.setCell ⟨g', m, none⟩ (.int .u8 (((c : Int) + 1) % 256))).cell? ⟨w.heap.size + 1 + 1, 0, none⟩ = some (.int .i64 last) := (boxed_far hL (p := ⟨g', m, none⟩) hgL _).cell
      have hl3 : (W.setCell ⟨g', m, none⟩ (.int .u8 (((c : Int) + 1) % 256))).frozen? ⟨w.heap.size + 1 + 1, 0, none⟩ = false := by rw [World.frozen?_setCell]; exact hlf
      have hcx' := Lib.hid hcx
      have hbv' := Lib.hid hbv
      clear hcx hbv
      gi_wp2
      have hlen : (o.set m ((c + 1) % 256)).length = m + 1 := by rw [List.length_set]; exact hm'.out
      refine ⟨((KeepsOthers.setCell _ _ _).trans (KeepsOthers.setCell _ _ _)).from _, ((Below.refl _ W).setCell (p := ⟨g', m, none⟩) hgb _).setCell (p := ⟨w.heap.size + 1 + 1, 0, none⟩) (Nat.le_succ _) _,
        ⟨_, boxed_far (boxed_far hv (p := ⟨g', m, none⟩) hgO _) (p := ⟨w.heap.size + 1 + 1, 0, none⟩) (by simp) _, ?_, trivial⟩, ?_, ?_, ?_⟩
      · rw [hst'.out, hcx'.out, List.map_set, ← hbv'.out]
        simp only [List.length_set, hm'.out]
        exact ownsRow_setCell_other (hrow.stored m _).1 (fun e => hgL (by simpa [Value.ownBlock] using e.symm)) _
      · rw [hst'.out]
        exact (boxed_far hL (p := ⟨g', m, none⟩) hgL _).set _
      · exact (hB.setCell (p := ⟨g', m, none⟩) (show w.heap.size ≤ g' by omega) _).setCell (p := ⟨w.heap.size + 1 + 1, 0, none⟩) (by show w.heap.size ≤ w.heap.size + 1 + 1; omega) _
      · simpa using hlt0
    · have he' : ((x.val : Int) == last + 1) = false := by simpa using he
      have hstep : runStep (o, last) x.val = (o ++ [x.val, 0], (x.val : Int)) := by
        unfold runStep; simp only [he, if_false]
      rw [hstep] at hst
      have hob : o.length ≤ 512 := by omega
      have hst' := Lib.hid hst
      have hhe := Lib.hid he
      clear he hst hstep hempty hpair
      gi_wp2_with (gi_at_builtin; refine wpListIn_append_own _ rfl _ _ 148 rfl (w.heap.size + 1) 5 i0 (.int .u8 0) 1 1 Tryd.underlying148 hi hz0 hz1 hz2 rfl (by decide) _ _ _ rfl (hrow.alloc _) ⟨W.heap.size, 0, none⟩ 2 2 [.int .u8 (x.val : Int), .int .u8 0] rfl rfl (cells_two_new _ _ _ _) (by simp [Value.oneCell']) (by unfold maxLen; omega) (by omega) (by simp; omega) ?_; intro v' w2 hown' hgrow _; obtain ⟨g', cap', rfl⟩ := ownsRow_succ hown'; obtain ⟨hv1, hv2, hr2', hk2, hb2⟩ := hv.appended (by decide) hrow (by omega) (Nat.le_refl _) hown' hgrow; have hc1 := hv1.cell; have hf1 := hv1.frozen; have hL1 := boxed_far ((hL.alloc _).kept hgrow (hL.not_row (by decide) hrow)) (p := ⟨w.heap.size + 1, 0, none⟩) (by simp) (.slice (some ⟨g', 0, none⟩) (o.length + 1 + 1) cap'); have hlc1 := hL1.cell; have hlf1 := hL1.frozen)
      refine ⟨(hk2.trans (KeepsOthers.setCell _ _ _)).from _, hb2.setCell (p := ⟨w.heap.size + 1 + 1, 0, none⟩) (Nat.le_succ _) _,
        ⟨_, boxed_far hv2 (p := ⟨w.heap.size + 1 + 1, 0, none⟩) (by simp) _, ?_, trivial⟩, ?_, ?_, ?_⟩
      · rw [hst'.out]
        simp only [List.length_append, List.length_cons, List.length_nil, List.map_append, List.map_cons, List.map_nil]
        exact ownsRow_setCell_other hr2' (hL1.not_row (by decide) hr2').symm _
      · rw [hst'.out]
        exact hL1.set _
      · exact (hB.trans (hb2.mono (by omega))).setCell (p := ⟨w.heap.size + 1 + 1, 0, none⟩) (show w.heap.size ≤ w.heap.size + 1 + 1 by omega) _
      · have := hb2.size; simp at this ⊢; omega
  case done =>
    rintro D ys W hD hys ⟨⟨v, hv, hrow, _⟩, hL, hB, _⟩ hK
    have hc := hv.cell
    gi_wp2
    refine ⟨by simp, .inl ⟨_, _, rfl, run_takeDeferred hK, ?_⟩⟩
    rw [hys] at hrow
    exact ⟨_, results_tmp rfl _ _ _, v, rfl, ownsRow_base (ownsRow_putObj hrow _ hK rfl) (by omega), hB.trans (belowK_b (w := w) (Nat.le_refl _) W D _ _ (by simp at hD; omega) hK rfl rfl)⟩
  case stop =>
    rintro D c pre W _ _ h _
    exact h.elim
end Go.Proofs.YtnigpmbpipmgfaaDoor
