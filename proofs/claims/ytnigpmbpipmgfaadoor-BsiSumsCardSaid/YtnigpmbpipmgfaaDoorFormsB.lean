/-
  MapFn, Forms, As, Best: several texts in one (merge.py).
-/
import Derived.MapKept
import Derived.Carry
import Derived.RangeFuncRecord
import Derived.RangeFuncNested
import Derived.RangeFuncBound
import Derived.RangeFuncCalls
import Derived.RangeFuncLeaves
import Derived.Shelf.Abstract
import Derived.WalkKit
import Derived.OwnWalkIn
import Derived.TacticsInMore
import Derived.LoopNIn
import Derived.LoopIn
import Derived.Maps.AppendAt
import Derived.Lib.Hide
import Derived.Test.YtnigpmbpipmgfaaDoorBIter
import Derived.WalkLawsBesides
import Derived.WalkSpells
import Derived.Laws.IdiomStrings
import Derived.LoopN

/-
  A map keyed by int whose elements are function values: a store under a new key, a look-up with ok. Over any program.
-/
namespace Go.Proofs.YtnigpmbpipmgfaaDoor
open Go.MapKept

/-- No key of these is n. -/
def NoKey (es : Array MapEntry) (n : Int) : Prop := ∀ x ∈ es.toList, ∃ m : Int, x.key = .int .i64 m ∧ m ≠ n

theorem find_none {es : Array MapEntry} {n : Int} (h : NoKey es n) : Instr.findNow (.int .i64) (.int .i64 n) es.toList 0 = some none := by
  rcases findNow_spec (d := .int .i64) (k := .int .i64 n) (by simp [IsKey]) es.toList 0 (fun x hx => by obtain ⟨m, e, _⟩ := h x hx; rw [e]; simp [IsKey]) with ⟨h1, _⟩ | ⟨j, e, _, h2, h3⟩
  · exact h1
  · obtain ⟨m, e1, e2⟩ := h e (List.mem_of_getElem? h2)
    rw [h3] at e1
    simp at e1
    exact absurd e1.symm e2

theorem run_insert_new {P : Program} {T K E : TypeId} {w : World} {r clock : Nat} {es : Array MapEntry} (n : Int) (v : Value) (hT : P.underlying T = some (.map K E)) (hK : P.underlying K = some (.int .i64))
    (hb : w.heap[r]? = some (.map es clock)) (h : NoKey es n) :
    (Instr.mapUpdate T (.map (some r)) (.int .i64 n) v).run P w = .ok () (w.putObj r (.map (es.push { key := .int .i64 n, val := v, born := clock }) (clock + 1))) := by
  unfold Instr.mapUpdate
  simp [run_underlying hT, MapKept.run_getObj_map hb, run_checkKey hK (show IsKey (.int .i64) (.int .i64 n) by simp [IsKey]), run_findKey hK (find_none h), Result.andThen, run_setObj_map _ hb, World.putObj]

theorem run_look_none {P : Program} {T K E : TypeId} {w : World} {r clock : Nat} {es : Array MapEntry} (n : Int) (z : Value) (hT : P.underlying T = some (.map K E)) (hK : P.underlying K = some (.int .i64))
    (hb : w.heap[r]? = some (.map es clock)) (h : NoKey es n) (hz : (zeroValue E).run P w = .ok z w) :
    (Instr.lookup T (.map (some r)) (.int .i64 n) true).run P w = .ok (.tuple #[z, .bool false]) w := by
  unfold Instr.lookup
  simp [run_underlying hT, MapKept.run_getObj_map hb, run_checkKey hK (show IsKey (.int .i64) (.int .i64 n) by simp [IsKey]), run_findKey hK (find_none h), Result.andThen, hz]

theorem run_look_some {P : Program} {T K E : TypeId} {w : World} {r clock : Nat} {es : Array MapEntry} (n : Int) (j : Nat) (e : MapEntry) (hT : P.underlying T = some (.map K E)) (hK : P.underlying K = some (.int .i64))
    (hb : w.heap[r]? = some (.map es clock)) (hf : Instr.findNow (.int .i64) (.int .i64 n) es.toList 0 = some (some (j, e.val))) :
    (Instr.lookup T (.map (some r)) (.int .i64 n) true).run P w = .ok (.tuple #[e.val, .bool true]) w := by
  unfold Instr.lookup
  simp [run_underlying hT, MapKept.run_getObj_map hb, run_checkKey hK (show IsKey (.int .i64) (.int .i64 n) by simp [IsKey]), run_findKey hK hf, Result.andThen]

theorem putObj_alloc (W : World) (o o' : Obj) : (W.alloc o).putObj W.heap.size o' = W.alloc o' := by
  simp only [World.putObj, World.alloc]
  congr 1
  apply Array.ext_getElem?
  intro i
  rw [Array.getElem?_setIfInBounds, Array.getElem?_push, Array.getElem?_push, Array.size_push]
  by_cases hi : W.heap.size = i
  · subst hi; simp
  · rw [if_neg hi, if_neg (Ne.symm hi), if_neg (Ne.symm hi)]

/-- A store under a new key, into the map that lies last. -/
theorem insert_last {P : Program} {T K E : TypeId} (W : World) {clock : Nat} {es : Array MapEntry} (n : Int) (v : Value) (hT : P.underlying T = some (.map K E)) (hK : P.underlying K = some (.int .i64)) (h : NoKey es n) :
    (Instr.mapUpdate T (.map (some W.heap.size)) (.int .i64 n) v).run P (W.alloc (.map es clock)) = .ok () (W.alloc (.map (es.push { key := .int .i64 n, val := v, born := clock }) (clock + 1))) := by
  rw [run_insert_new n v hT hK (World.alloc_heap_new W _) h, putObj_alloc]

def fnEntry (n : Int) (f : FuncId) (born : Nat) : MapEntry := { key := .int .i64 n, val := .func (.func f) #[] #[], born := born }
/-- Three functions under 1, 2, 3. -/
def fn3 (f g h : FuncId) : Array MapEntry := #[fnEntry 1 f 0, fnEntry 2 g 1, fnEntry 3 h 2]
theorem insert3 {P : Program} {T K E : TypeId} (W : World) (f g h : FuncId) (hT : P.underlying T = some (.map K E)) (hK : P.underlying K = some (.int .i64)) :
    (Instr.mapUpdate T (.map (some W.heap.size)) (.int .i64 1) (.func (.func f) #[] #[])).run P (W.alloc (.map #[] 0)) = .ok () (W.alloc (.map #[fnEntry 1 f 0] 1)) ∧
    (Instr.mapUpdate T (.map (some W.heap.size)) (.int .i64 2) (.func (.func g) #[] #[])).run P (W.alloc (.map #[fnEntry 1 f 0] 1)) = .ok () (W.alloc (.map #[fnEntry 1 f 0, fnEntry 2 g 1] 2)) ∧
    (Instr.mapUpdate T (.map (some W.heap.size)) (.int .i64 3) (.func (.func h) #[] #[])).run P (W.alloc (.map #[fnEntry 1 f 0, fnEntry 2 g 1] 2)) = .ok () (W.alloc (.map (fn3 f g h) 3)) := by
  refine ⟨?_, ?_, ?_⟩
  · exact insert_last W 1 _ hT hK (fun x hx => by simp at hx)
  · exact insert_last W 2 _ hT hK (fun x hx => by simp at hx; subst hx; exact ⟨1, rfl, by decide⟩)
  · exact insert_last W 3 _ hT hK (fun x hx => by simp at hx; rcases hx with rfl | rfl; exact ⟨1, rfl, by decide⟩; exact ⟨2, rfl, by decide⟩)

theorem look3_none {P : Program} {T K E : TypeId} (W : World) (f g h : FuncId) (n : Int) (z : Value) (hT : P.underlying T = some (.map K E)) (hK : P.underlying K = some (.int .i64)) (hz : ∀ w, (zeroValue E).run P w = .ok z w)
    (h1 : n ≠ 1) (h2 : n ≠ 2) (h3 : n ≠ 3) : (Instr.lookup T (.map (some W.heap.size)) (.int .i64 n) true).run P (W.alloc (.map (fn3 f g h) 3)) = .ok (.tuple #[z, .bool false]) (W.alloc (.map (fn3 f g h) 3)) := by
  refine run_look_none n z hT hK (World.alloc_heap_new W _) (fun x hx => ?_) (hz _)
  simp [fn3] at hx
  rcases hx with rfl | rfl | rfl
  · exact ⟨1, rfl, Ne.symm h1⟩
  · exact ⟨2, rfl, Ne.symm h2⟩
  · exact ⟨3, rfl, Ne.symm h3⟩
theorem look3 {P : Program} {T K E : TypeId} (W : World) (f g h : FuncId) (hT : P.underlying T = some (.map K E)) (hK : P.underlying K = some (.int .i64)) :
    (Instr.lookup T (.map (some W.heap.size)) (.int .i64 1) true).run P (W.alloc (.map (fn3 f g h) 3)) = .ok (.tuple #[.func (.func f) #[] #[], .bool true]) (W.alloc (.map (fn3 f g h) 3)) ∧
    (Instr.lookup T (.map (some W.heap.size)) (.int .i64 2) true).run P (W.alloc (.map (fn3 f g h) 3)) = .ok (.tuple #[.func (.func g) #[] #[], .bool true]) (W.alloc (.map (fn3 f g h) 3)) ∧
    (Instr.lookup T (.map (some W.heap.size)) (.int .i64 3) true).run P (W.alloc (.map (fn3 f g h) 3)) = .ok (.tuple #[.func (.func h) #[] #[], .bool true]) (W.alloc (.map (fn3 f g h) 3)) :=
  ⟨run_look_some 1 0 (fnEntry 1 f 0) hT hK (World.alloc_heap_new W _) rfl, run_look_some 2 1 (fnEntry 2 g 1) hT hK (World.alloc_heap_new W _) rfl, run_look_some 3 2 (fnEntry 3 h 2) hT hK (World.alloc_heap_new W _) rfl⟩
end Go.Proofs.YtnigpmbpipmgfaaDoor

/-
  A set's bytes: cont's array, raw, runs: each hands back a new slice that owns them.
-/
namespace Go.Proofs.YtnigpmbpipmgfaaDoor
open Go.RowKit Go.Shelf Tess

attribute [local go_sem] Oper.semAt_some

theorem info_u8 : (Tryd.prog.info? 5).map (fun i => (i.zero, i.size, i.bytes)) = some (some (.int .u8 0), 1, 1) := by kernel_rfl

/-- A byte in memory. -/
def bv (x : Nat) : Value := .int .u8 (x : Int)

theorem ownsRow_base {w : World} {b b' : Nat} {e : TypeId} {size : Nat} {v : Value} {n : Nat} {xs : List Value} (h : w.ownsRow b e size v n xs) (hb : b' ≤ b) : w.ownsRow b' e size v n xs := by
  refine ⟨h.1, ?_⟩
  rcases h.2 with h0 | ⟨g, cap, cur, hv, hg, rest⟩
  · exact .inl h0
  · exact .inr ⟨g, cap, cur, hv, Nat.le_trans hb hg, rest⟩

set_option maxRecDepth 100000 in
set_option maxHeartbeats 2000000 in
/-- array(w): the numbers, a byte each. -/
theorem array_any (s : Nat) (w : World) (hT : Tab w) :
    Calls Tryd.prog 111 #[wv s] w fun e W' => ∃ v, e = .returned v ∧ W'.ownsRow w.heap.size 5 1 v (nums s).length ((nums s).map bv) ∧ Below w.heap.size w W' := by
  have hgB := hT.lt
  obtain ⟨i0, hi, hz0, hz1, hz2⟩ := info_parts info_u8
  refine (callsIn_wide (n := 9)).1 ?_
  refine callsIn_of_wp_marks Tryd.func111 rfl trivial ?_ rfl
  simp only [Tryd.ntmps111, wv, List.size_toArray, List.length_cons, List.length_nil, Nat.reduceAdd, Nat.reduceSub, Array.replicate_succ, Array.replicate_zero, List.push_toArray, List.append_toArray, List.nil_append, List.cons_append]
  gi_wp2_with (refine ⟨trivial, ?_⟩; gi_at_call 116; refine (numbers_in _ _ _).mono ?_; rintro e w' ⟨rfl, rfl⟩)
  have bW : Words 113 (w.alloc (.cells (wcs s) 113)) w.heap.size s := Words.new w _ s
  have bO := Boxed.new (w.alloc (.cells (wcs s) 113)) 148 (.slice none 0 0)
  have bN := Boxed.new ((w.alloc (.cells (wcs s) 113)).alloc (.cells #[.slice none 0 0] 148)) 138 (.pointer (some ⟨w.heap.size, 0, none⟩))
  rw [World.size_alloc] at bO
  rw [World.size_alloc, World.size_alloc] at bN
  have hB1 : Below w.heap.size w ((w.alloc (.cells (wcs s) 113)).alloc (.cells #[.slice none 0 0] 148)) := ((Below.refl _ w).alloc (Nat.le_refl _) _).alloc (by simp) _
  have hB0 := hB1.alloc (by simp; omega) (.cells #[.pointer (some ⟨w.heap.size, 0, none⟩)] 138)
  have hT3 := hT.below hB0 hgB
  have bW3 := (bW.alloc (.cells #[.slice none 0 0] 148)).alloc (.cells #[.pointer (some ⟨w.heap.size, 0, none⟩)] 138)
  refine wpIn_rangeFunc_ownG rfl (by omega) (gf := 118) (lb := #[.pointer (some ⟨w.heap.size + 1 + 1, 0, none⟩)]) rfl trivial (enters_of Tryd.func118 (by kernel_rfl) rfl)
    (numbers_stops _ (by omega) (w.heap.size + 1 + 1) w.heap.size (w.heap.size + 1) s _ (by omega) (by omega) (by simp) (by simp) bN.cell bW3 hT3) belowK_t (belowK_b (by simp)) (Below.refl _ _) (fun _ => rfl)
    (fun pre W => (∃ v, Boxed W (w.heap.size + 1) 148 v ∧ W.ownsRow (w.heap.size + 1) 5 1 v pre.length ((vals pre).map bv) ∧ (fun (_ : List N8) (_ : Value) => True) pre v) ∧ (Below w.heap.size w W ∧ w.heap.size + 1 < W.heap.size))
    (fun _ _ _ => False)
    (OwnFrom.and (Own.from (holdsRow_own (w.heap.size + 1) (w.heap.size + 1) 148 5 1 (fun pre => pre.length) (fun pre => (vals pre).map bv) (fun _ _ => True)) _) (OwnFrom.and (ownFrom_below (Nat.le_refl _) (by simp; omega)) (fun _ _ _ _ h hg _ => Nat.lt_of_lt_of_le h hg.size)))
    (fun _ _ _ _ _ hs _ _ => hs)
    ⟨⟨_, bO.alloc _, World.ownsRow_nil _ _ _ _, trivial⟩, hB0, by simp⟩
    (fun x => { tmps := #[.agg (wcs s), .pointer (some ⟨w.heap.size, 0, none⟩), .slice none 0 0, .pointer (some ⟨w.heap.size + 1, 0, none⟩), .int .i64 (x.val : Int), .func (.func 118) #[] #[.pointer (some ⟨w.heap.size + 1 + 1, 0, none⟩)], .int .i64 (x.val : Int), undef, undef, undef, undef, undef, undef], defers := [] }) ?assign ?body ?done ?stop
  case assign =>
    intro l x W K hK
    gi_wp2
    exact hK
  case body =>
    rintro l pre x W ⟨⟨v, hv, hrow, _⟩, hB, hlt0⟩ hlt
    have hc := hv.cell
    have hx := x.isLt
    have hxb : IntKind.u8.wrap (x.val : Int) = (x.val : Int) := by rw [IntKind.wrap_u8']; omega
    gi_wp2_with (gi_at_builtin; refine wpListIn_append_own _ rfl _ _ 148 rfl (w.heap.size + 1) 5 i0 (.int .u8 0) 1 1 Tryd.underlying148 hi hz0 hz1 hz2 rfl (by decide) _ _ _ rfl (hrow.alloc _) ⟨W.heap.size, 0, none⟩ 1 1 [.int .u8 (x.val : Int)] rfl rfl (cell_one_new _ _ _) (by simp [Value.oneCell']) (by unfold maxLen; omega) (by omega) (by simp; omega) ?_; intro v' w1 hown' hgrow _; obtain ⟨g', cap', rfl⟩ := ownsRow_succ hown'; obtain ⟨hv1, hv2, hr2, hk2, hb2⟩ := hv.appended (by decide) hrow (by omega) (Nat.le_refl _) hown' hgrow; have hc1 := hv1.cell; have hf1 := hv1.frozen)
    exact ⟨hk2.from _, hb2, ⟨_, hv2, by rw [List.length_append, vals_snoc, List.map_append]; exact hr2⟩, hB.trans (hb2.mono (by omega)), by have := hb2.size; omega⟩
  case done =>
    rintro D ys W hD hys ⟨⟨v, hv, hrow, _⟩, hB, _⟩ hK
    have hc := hv.cell
    gi_wp2
    refine ⟨by simp, .inl ⟨_, _, rfl, run_takeDeferred hK, ?_⟩⟩
    have hl : (nums s).length = ys.length := by rw [← hys]; simp [vals]
    exact ⟨_, results_tmp rfl _ _ _, v, rfl, by rw [hl, ← hys]; exact ownsRow_base (ownsRow_putObj hrow _ hK rfl) (by omega), hB.trans (belowK_b (w := w) (Nat.le_refl _) W D _ _ (by simp at hD; omega) hK rfl rfl)⟩
  case stop =>
    rintro D c pre W _ _ h _
    exact h.elim

theorem byte_limb (s : Nat) {k : Nat} (_hk : k < 32) : limb s (k * 8 / 64) / 2 ^ (k * 8 % 64) % 256 = byteAt s k := by
  apply Nat.eq_of_testBit_eq
  intro j
  rw [testBit_byteAt, show (256 : Nat) = 2 ^ 8 from rfl, Nat.testBit_mod_two_pow, Nat.testBit_div_two_pow, testBit_limb]
  by_cases hj : j < 8
  · have h1 : j + k * 8 % 64 < 64 := by omega
    have h2 : 64 * (k * 8 / 64) + (j + k * 8 % 64) = 8 * k + j := by omega
    simp [hj, h1, h2]
  · simp [hj]
theorem byte_limb_int (s : Nat) {k : Nat} (hk : k < 32) : ((limb s (k * 8 / 64) : Nat) : Int) / 2 ^ (k * 8 % 64) % 256 = ((byteAt s k : Nat) : Int) := by
  rw [← byte_limb s hk, Int.natCast_emod, Int.natCast_ediv, Int.natCast_pow]; rfl

/-- What has been written when k bytes are out. -/
def rawTo (s k : Nat) : List Nat := (List.range k).map (byteAt s)
theorem rawTo_succ (s k : Nat) : rawTo s (k + 1) = rawTo s k ++ [byteAt s k] := by simp [rawTo, List.range_succ]
theorem rawTo_len (s k : Nat) : (rawTo s k).length = k := by simp [rawTo]

set_option maxRecDepth 100000 in
set_option maxHeartbeats 2000000 in
/-- raw(w): the bits, eight a byte. -/
theorem raw_any (s : Nat) (w : World) :
    Calls Tryd.prog 112 #[wv s] w fun e W' => ∃ v, e = .returned v ∧ W'.ownsRow w.heap.size 5 1 v (raw s).length ((raw s).map bv) ∧ Below w.heap.size w W' := by
  obtain ⟨i0, hi, hz0, hz1, hz2⟩ := info_parts info_u8
  have hB1 : Below w.heap.size w (w.alloc (.cells (wcs s) 113)) := (Below.refl _ w).alloc (Nat.le_refl _) _
  go_enter Tryd.func112, Tryd.ntmps112
  simp only [wv]
  go_wp2
  go_loopw [3, 5] (fun v i wr => ∃ k : Nat, k ≤ 32 ∧ i = .int .i64 k ∧ wr.ownsRow (w.heap.size + 1) 5 1 v (rawTo s k).length ((rawTo s k).map bv) ∧ Below w.heap.size w wr ∧ Words 113 wr w.heap.size s)
    (fun _ i _ => 32 - (intOf i).toNat)
  case atStart => exact ⟨0, by omega, rfl, World.ownsRow_nil _ _ _ _, hB1, Words.new w _ s⟩
  case round =>
    obtain ⟨k, hk, rfl, hrow, hB, hw⟩ := hrel
    have hl := rawTo_len s k
    by_cases hlt : k < 32
    · have hck := hw.cell (i := k * 8 / 64) (by omega)
      have hll := limb_lt s (k * 8 / 64)
      have hkd : decide ((k : Int) < 32) = true := by simp; omega
      have hbl := byte_limb_int s hlt
      go_wp2_with (at_builtin; refine wpList_append_own _ rfl _ _ 148 rfl (w.heap.size + 1) 5 i0 (.int .u8 0) 1 1 Tryd.underlying148 hi hz0 hz1 hz2 rfl (by decide) _ _ _ rfl (hrow.alloc _) ⟨wr.heap.size, 0, none⟩ 1 1 [.int .u8 (byteAt s k : Int)] rfl rfl (cell_one_new _ _ _) (by simp [Value.oneCell']) (by unfold maxLen; omega) (by omega) (by have := hw.lt; simp; omega) ?_; intro v' w1 hown' hgrow _; obtain ⟨g', cap', rfl⟩ := ownsRow_succ hown')
      have hne : ∀ g, Value.ownBlock _ = some g → w.heap.size + 1 ≤ g := fun g hg => ((hrow.lt) g hg).1
      have hw1 := (hw.alloc (.cells #[.int .u8 (byteAt s k : Int)] 5)).grown hgrow (fun e => by have := hne _ e.symm; omega)
      have hB2 := (hB.alloc hB.size (.cells #[.int .u8 (byteAt s k : Int)] 5)).grown hgrow (by simp; have := hB.size; omega) (fun g hg => by have := hne g hg; omega)
      go_roundw
      case rel => exact ⟨k + 1, by omega, by go_num, by rw [rawTo_len, rawTo_succ, List.map_append]; rw [rawTo_len] at hown'; exact hown', hB2, hw1⟩
      case measure => simp [intOf]; omega
    · have hge : 32 ≤ k := by omega
      go_wp2
      go_ret
      obtain rfl : k = 32 := by omega
      exact ⟨_, rfl, ownsRow_base hrow (by omega), hB⟩

theorem boxed_far {W : World} {B : Nat} {t : TypeId} {v : Value} (h : Boxed W B t v) {p : Addr} (hp : B ≠ p.block) (u : Value) : Boxed (W.setCell p u) B t v := (Below.heap_setCell W p u B hp).trans h
theorem cells_two_new (W : World) (a b : Value) (t : TypeId) : ∀ (j : Nat) (u : Value), [a, b][j]? = some u → (W.alloc (.cells #[a, b] t)).cell? ((⟨W.heap.size, 0, none⟩ : Addr).add j) = some u := by
  intro j u hu
  match j, hu with
  | 0, hu => simp at hu; subst hu; simp [Addr.add]
  | 1, hu => simp at hu; subst hu; simp [Addr.add]
  | j + 2, hu => simp at hu

theorem runsOf_range (l : List N8) : -2 ≤ (runsOf (vals l)).2 ∧ (runsOf (vals l)).2 ≤ 255 := by
  rw [runsOf_last]
  split
  · omega
  · rename_i h
    have := List.getLast_mem h
    rw [List.getLast?_eq_some_getLast h, Option.getD_some]
    obtain ⟨x, _, e⟩ := List.mem_map.1 this
    have := x.isLt
    omega

set_option maxRecDepth 100000 in
set_option maxHeartbeats 4000000 in
/-- runs(w): pairs. -/
theorem runs_any (s : Nat) (w : World) (hT : Tab w) :
    Calls Tryd.prog 113 #[wv s] w fun e W' => ∃ v, e = .returned v ∧ W'.ownsRow w.heap.size 5 1 v (runs s).length ((runs s).map bv) ∧ Below w.heap.size w W' := by
  have hgB := hT.lt
  obtain ⟨i0, hi, hz0, hz1, hz2⟩ := info_parts info_u8
  refine (callsIn_wide (n := 9)).1 ?_
  refine callsIn_of_wp_marks Tryd.func113 rfl trivial ?_ rfl
  simp only [Tryd.ntmps113, wv, List.size_toArray, List.length_cons, List.length_nil, Nat.reduceAdd, Nat.reduceSub, Array.replicate_succ, Array.replicate_zero, List.push_toArray, List.append_toArray, List.nil_append, List.cons_append]
  gi_wp2_with (refine ⟨trivial, ?_⟩; gi_at_call 116; refine (numbers_in _ _ _).mono ?_; rintro e w' ⟨rfl, rfl⟩)
  obtain ⟨w1, hw1⟩ : ∃ w1, w1 = (w.alloc (.cells (wcs s) 113)).alloc (.cells #[.slice none 0 0] 148) := ⟨_, rfl⟩
  have hs1 : w1.heap.size = w.heap.size + 2 := by rw [hw1]; simp
  have bW1 : Words 113 w1 w.heap.size s := by rw [hw1]; exact (Words.new w _ s).alloc _
  have bO1 : Boxed w1 (w.heap.size + 1) 148 (.slice none 0 0) := by
    have := Boxed.new (w.alloc (.cells (wcs s) 113)) 148 (.slice none 0 0)
    rw [World.size_alloc] at this
    rw [hw1]; exact this
  have hB1 : Below w.heap.size w w1 := by rw [hw1]; exact ((Below.refl _ w).alloc (Nat.le_refl _) _).alloc (by simp) _
  rw [← hw1]
  clear hw1
  have bL := Boxed.new w1 3 (.int .i64 (-2))
  rw [hs1] at bL
  have bN := Boxed.new (w1.alloc (.cells #[.int .i64 (-2)] 3)) 138 (.pointer (some ⟨w.heap.size, 0, none⟩))
  rw [World.size_alloc, hs1] at bN
  have hB0 := (hB1.alloc (by omega) (.cells #[.int .i64 (-2)] 3)).alloc (by simp; omega) (.cells #[.pointer (some ⟨w.heap.size, 0, none⟩)] 138)
  have hT3 := hT.below hB0 hgB
  have bW3 := (bW1.alloc (.cells #[.int .i64 (-2)] 3)).alloc (.cells #[.pointer (some ⟨w.heap.size, 0, none⟩)] 138)
  refine wpIn_rangeFunc_ownG rfl (by omega) (gf := 118) (lb := #[.pointer (some ⟨w.heap.size + 1 + 1 + 1, 0, none⟩)]) rfl trivial (enters_of Tryd.func118 (by kernel_rfl) rfl)
    (numbers_stops _ (by omega) (w.heap.size + 1 + 1 + 1) w.heap.size (w.heap.size + 1) s _ (by omega) (by omega) (by simp; omega) (by simp; omega) bN.cell bW3 hT3) belowK_t (belowK_b (by simp; omega)) (Below.refl _ _) (fun _ => rfl)
    (fun pre W => (∃ v, Boxed W (w.heap.size + 1) 148 v ∧ W.ownsRow (w.heap.size + 1) 5 1 v (runsOf (vals pre)).1.length ((runsOf (vals pre)).1.map bv) ∧ (fun (_ : List N8) (_ : Value) => True) pre v) ∧ (Boxed W (w.heap.size + 1 + 1) 3 (.int .i64 (runsOf (vals pre)).2) ∧ (Below w.heap.size w W ∧ w.heap.size + 2 < W.heap.size)))
    (fun _ _ _ => False)
    (OwnFrom.and (Own.from (holdsRow_own (w.heap.size + 1) (w.heap.size + 1) 148 5 1 (fun pre => (runsOf (vals pre)).1.length) (fun pre => (runsOf (vals pre)).1.map bv) (fun _ _ => True)) _)
      (OwnFrom.and (Own.from (boxed_own (w.heap.size + 1 + 1) 3 (fun pre => .int .i64 (runsOf (vals pre)).2)) _) (OwnFrom.and (ownFrom_below (Nat.le_refl _) (by simp; omega)) (fun _ _ _ _ h hg _ => Nat.lt_of_lt_of_le h hg.size))))
    (fun _ _ _ _ _ hs _ _ => hs)
    ⟨⟨_, (bO1.alloc _).alloc _, World.ownsRow_nil _ _ _ _, trivial⟩, bL.alloc _, hB0, by simp; omega⟩
    (fun x => { tmps := #[.agg (wcs s), .pointer (some ⟨w.heap.size, 0, none⟩), .slice none 0 0, .pointer (some ⟨w.heap.size + 1, 0, none⟩), .pointer (some ⟨w.heap.size + 1 + 1, 0, none⟩), .int .i64 (x.val : Int), .func (.func 118) #[] #[.pointer (some ⟨w.heap.size + 1 + 1 + 1, 0, none⟩)], .int .i64 (x.val : Int),
      undef, undef, undef, undef, undef, undef, undef, undef, undef, undef, undef, undef, undef, undef, undef, undef, undef, undef, undef], defers := [] }) ?assign ?body ?done ?stop
  case assign =>
    intro l x W K hK
    gi_wp2
    exact hK
  case body =>
    rintro l pre x W ⟨⟨v, hv, hrow, _⟩, hL, hB, hlt0⟩ hlt
    have hc := hv.cell
    have hlc := hL.cell
    have hlf := hL.frozen
    have hx := x.isLt
    have hxb : IntKind.u8.wrap (x.val : Int) = (x.val : Int) := by rw [IntKind.wrap_u8']; omega
    have hrl := runsOf_length (vals pre)
    have hvl : (vals pre).length = pre.length := by simp [vals]
    obtain ⟨hr1, hr2⟩ := runsOf_range pre
    have hpair := fun h => runsOf_two (l := vals pre) h
    have hempty : vals pre = [] → (runsOf (vals pre)).2 = -2 := fun h => by rw [h]; rfl
    have hst : ∀ (R : List Nat × Int), R = runsOf (vals pre) → runsOf (vals (pre ++ [x])) = runStep R x.val := fun R e => by rw [vals_snoc, runsOf_snoc, e]
    generalize runsOf (vals pre) = R at *
    obtain ⟨o, last⟩ := R
    have hst := hst _ rfl
    simp only at *
    by_cases he : (x.val : Int) = last + 1
    · have he' : ((x.val : Int) == last + 1) = true := by simpa using he
      have hne : vals pre ≠ [] := fun h => by have := hempty h; omega
      have h2 := hpair hne
      obtain ⟨m, hm⟩ : ∃ m, o.length = m + 1 := ⟨o.length - 1, by omega⟩
      have hstep : runStep (o, last) x.val = (o.set m ((o[m]?.getD 0 + 1) % 256), (x.val : Int)) := by
        unfold runStep; simp only [he, if_true, hm, Nat.add_sub_cancel]
      rw [hstep] at hst
      rw [hm] at hrow
      obtain ⟨g', cap', rfl⟩ := ownsRow_succ hrow
      have hoc : (o.map bv)[m]? = some (.int .u8 ((o[m]?.getD 0 : Nat) : Int)) := by
        rw [List.getElem?_map, List.getElem?_eq_getElem (by omega)]; simp [bv]
      have hcg := hrow.cellAt m (by omega)
      rw [hoc] at hcg
      have hfg := hrow.frozenAt m
      have hmb : m ≤ 511 := by omega
      have hm' := Lib.hid hm
      have hst' := Lib.hid hst
      have hne' := Lib.hid he
      clear he hst hm hoc hstep hempty hpair hne
      generalize hcx : o[m]?.getD 0 = c at hcg
      have hbv : Value.int .u8 (((c : Int) + 1) % 256) = bv ((c + 1) % 256) := by simp [bv]
      have hgL : w.heap.size + 1 + 1 ≠ g' := fun e => hL.not_row (by decide) hrow (by simp [Value.ownBlock, e])
      have hgO : w.heap.size + 1 ≠ g' := fun e => hv.not_row (by decide) hrow (by simp [Value.ownBlock, e])
      have hgb : w.heap.size + 1 ≤ g' := (hrow.lt g' rfl).1
      have hl2 : (W.setCell ⟨g', m, none⟩ (.int .u8 (((c : Int) + 1) % 256))).cell? ⟨w.heap.size + 1 + 1, 0, none⟩ = some (.int .i64 last) := (boxed_far hL (p := ⟨g', m, none⟩) hgL _).cell
      have hl3 : (W.setCell ⟨g', m, none⟩ (.int .u8 (((c : Int) + 1) % 256))).frozen? ⟨w.heap.size + 1 + 1, 0, none⟩ = false := by rw [World.frozen?_setCell]; exact hlf
      have hcx' := Lib.hid hcx
      have hbv' := Lib.hid hbv
      clear hcx hbv
      gi_wp2
      have hlen : (o.set m ((c + 1) % 256)).length = m + 1 := by rw [List.length_set]; exact hm'.out
      refine ⟨((KeepsOthers.setCell _ _ _).trans (KeepsOthers.setCell _ _ _)).from _, ((Below.refl _ W).setCell (p := ⟨g', m, none⟩) hgb _).setCell (p := ⟨w.heap.size + 1 + 1, 0, none⟩) (Nat.le_succ _) _,
        ⟨_, boxed_far (boxed_far hv (p := ⟨g', m, none⟩) hgO _) (p := ⟨w.heap.size + 1 + 1, 0, none⟩) (by simp) _, ?_, trivial⟩, ?_, ?_, ?_⟩
      · rw [hst'.out, hcx'.out, List.map_set, ← hbv'.out]
        simp only [List.length_set, hm'.out]
        exact ownsRow_setCell_other (hrow.stored m _).1 (fun e => hgL (by simpa [Value.ownBlock] using e.symm)) _
      · rw [hst'.out]
        exact (boxed_far hL (p := ⟨g', m, none⟩) hgL _).set _
      · exact (hB.setCell (p := ⟨g', m, none⟩) (show w.heap.size ≤ g' by omega) _).setCell (p := ⟨w.heap.size + 1 + 1, 0, none⟩) (by show w.heap.size ≤ w.heap.size + 1 + 1; omega) _
      · simpa using hlt0
    · have he' : ((x.val : Int) == last + 1) = false := by simpa using he
      have hstep : runStep (o, last) x.val = (o ++ [x.val, 0], (x.val : Int)) := by
        unfold runStep; simp only [he, if_false]
      rw [hstep] at hst
      have hob : o.length ≤ 512 := by omega
      have hst' := Lib.hid hst
      have hhe := Lib.hid he
      clear he hst hstep hempty hpair
      gi_wp2_with (gi_at_builtin; refine wpListIn_append_own _ rfl _ _ 148 rfl (w.heap.size + 1) 5 i0 (.int .u8 0) 1 1 Tryd.underlying148 hi hz0 hz1 hz2 rfl (by decide) _ _ _ rfl (hrow.alloc _) ⟨W.heap.size, 0, none⟩ 2 2 [.int .u8 (x.val : Int), .int .u8 0] rfl rfl (cells_two_new _ _ _ _) (by simp [Value.oneCell']) (by unfold maxLen; omega) (by omega) (by simp; omega) ?_; intro v' w2 hown' hgrow _; obtain ⟨g', cap', rfl⟩ := ownsRow_succ hown'; obtain ⟨hv1, hv2, hr2', hk2, hb2⟩ := hv.appended (by decide) hrow (by omega) (Nat.le_refl _) hown' hgrow; have hc1 := hv1.cell; have hf1 := hv1.frozen; have hL1 := boxed_far ((hL.alloc _).kept hgrow (hL.not_row (by decide) hrow)) (p := ⟨w.heap.size + 1, 0, none⟩) (by simp) (.slice (some ⟨g', 0, none⟩) (o.length + 1 + 1) cap'); have hlc1 := hL1.cell; have hlf1 := hL1.frozen)
      refine ⟨(hk2.trans (KeepsOthers.setCell _ _ _)).from _, hb2.setCell (p := ⟨w.heap.size + 1 + 1, 0, none⟩) (Nat.le_succ _) _,
        ⟨_, boxed_far hv2 (p := ⟨w.heap.size + 1 + 1, 0, none⟩) (by simp) _, ?_, trivial⟩, ?_, ?_, ?_⟩
      · rw [hst'.out]
        simp only [List.length_append, List.length_cons, List.length_nil, List.map_append, List.map_cons, List.map_nil]
        exact ownsRow_setCell_other hr2' (hL1.not_row (by decide) hr2').symm _
      · rw [hst'.out]
        exact hL1.set _
      · exact (hB.trans (hb2.mono (by omega))).setCell (p := ⟨w.heap.size + 1 + 1, 0, none⟩) (show w.heap.size ≤ w.heap.size + 1 + 1 by omega) _
      · have := hb2.size; simp at this ⊢; omega
  case done =>
    rintro D ys W hD hys ⟨⟨v, hv, hrow, _⟩, hL, hB, _⟩ hK
    have hc := hv.cell
    gi_wp2
    refine ⟨by simp, .inl ⟨_, _, rfl, run_takeDeferred hK, ?_⟩⟩
    rw [hys] at hrow
    exact ⟨_, results_tmp rfl _ _ _, v, rfl, ownsRow_base (ownsRow_putObj hrow _ hK rfl) (by omega), hB.trans (belowK_b (w := w) (Nat.le_refl _) W D _ _ (by simp at hD; omega) hK rfl rfl)⟩
  case stop =>
    rintro D c pre W _ _ h _
    exact h.elim
end Go.Proofs.YtnigpmbpipmgfaaDoor

/-
  cont's as: a set in a form.
-/
namespace Go.Proofs.YtnigpmbpipmgfaaDoor
open Go.RowKit Tess

/-- Bytes, as a string. -/
def bs (d : List Nat) : ByteArray := ⟨(d.map UInt8.ofNat).toArray⟩
/-- A container as a value. -/
def cv (form : Int) (d : List Nat) : Value := .agg #[.int .i64 form, .string (bs d)]

theorem string_back {P : Program} {w : World} {src dst e : TypeId} {base : Nat} {et : TypeId} {v : Value} {d : List Nat} (hs : P.underlying src = some (.slice e)) (he : P.underlying e = some (.int .u8)) (hd : P.underlying dst = some .string)
    (h : w.ownsRow base et 1 v d.length (d.map bv)) (hb : ∀ x ∈ d, x < 256) : (convert src dst v).run P w = .ok (.string (bs d)) w := by
  rcases h.2 with ⟨rfl, h0⟩ | ⟨g, cap, cur, rfl, _, _⟩
  · have : d = [] := List.eq_nil_of_length_eq_zero h0
    subst this
    rw [Go.run_convert_bytes_string w src dst e none 0 0 hs he hd]
    rfl
  · have := Go.run_convert_bytes_back (P := P) w src dst e ⟨g, 0, none⟩ cap (d.map UInt8.ofNat) hs he hd (fun j hj => by
      have hj' : j < d.length := by simpa using hj
      have hc := h.cells (g := g) rfl j (bv d[j]) (by rw [List.getElem?_map, List.getElem?_eq_getElem hj']; rfl)
      rw [hc]
      have := hb _ (List.getElem_mem hj')
      simp [bv]
      omega)
    rw [List.length_map] at this
    exact this

/-- A block of two cells, ahead of another. -/
theorem blk2_new (w : World) (a b : Value) (t : TypeId) (o : Obj) : ((w.alloc (.cells #[a, b] t)).alloc o).heap[w.heap.size]? = some (.cells #[a, b] t (0, 0)) :=
  (Below.heap_alloc _ _ _ (by simp)).trans (heap_alloc_new w _)
theorem blk2_below {W W' : World} {B k : Nat} {a b : Value} {t : TypeId} (h : W.heap[k]? = some (.cells #[a, b] t (0, 0))) (hb : Below B W W') (hk : k < B := by simp) :
    W'.cell? ⟨k, 0, none⟩ = some a ∧ W'.cell? ⟨k, 1, none⟩ = some b ∧ W'.frozen? ⟨k, 0, none⟩ = false ∧ W'.frozen? ⟨k, 1, none⟩ = false := by
  have h' := (hb.block k hk).trans h
  refine ⟨?_, ?_, ?_, ?_⟩ <;> simp [World.cell?, World.frozen?, h']

theorem zero_fn (w : World) : (zeroValue 145).run Tryd.prog w = .ok .nilFunc w := by kernel_rfl

set_option maxRecDepth 100000 in
set_option maxHeartbeats 2000000 in
/-- of no form: none. -/
theorem as_none (s : Nat) (form : Int) (w : World) (h1 : form ≠ 1) (h2 : form ≠ 2) (h3 : form ≠ 3) :
    Calls Tryd.prog 101 #[wv s, .int .i64 form] w fun e W' => e = .returned (.tuple #[cv 0 [], .bool false]) ∧ Below w.heap.size w W' := by
  have hmm := @run_makeMap Tryd.prog
  obtain ⟨i1, i2, i3⟩ := insert3 (P := Tryd.prog) (T := 146) ((w.alloc (.cells (wcs s) 113)).alloc (.cells #[.int .i64 0, .string ⟨#[]⟩] 75)) 111 112 113 Tryd.underlying146 Tryd.underlying3
  have i4 := look3_none (P := Tryd.prog) (T := 146) ((w.alloc (.cells (wcs s) 113)).alloc (.cells #[.int .i64 0, .string ⟨#[]⟩] 75)) 111 112 113 form _ Tryd.underlying146 Tryd.underlying3 zero_fn h1 h2 h3
  simp only [World.size_alloc] at i1 i2 i3 i4
  go_enter Tryd.func101, Tryd.ntmps101
  simp only [wv]
  go_wp2
  exact bodyPost_ret (v := .tuple #[cv 0 [], .bool false]) (by simp [results, Tryd.results101, go_sem, cv, bs]) rfl ⟨rfl, ((((Below.refl _ w).alloc (Nat.le_refl _) _).alloc (by simp) _).alloc (by simp; omega) _)⟩

theorem raw_lt (s : Nat) : ∀ x ∈ raw s, x < 256 := by
  intro x hx
  obtain ⟨i, _, rfl⟩ := List.mem_map.1 hx
  exact byteAt_lt s i

set_option maxRecDepth 100000 in
set_option maxHeartbeats 2000000 in
theorem as_array (s : Nat) (w : World) (hT : Tab w) :
    Calls Tryd.prog 101 #[wv s, .int .i64 1] w fun e W' => e = .returned (.tuple #[cv 1 (nums s), .bool true]) ∧ Below w.heap.size w W' := by
  have hmm := @run_makeMap Tryd.prog
  obtain ⟨i1, i2, i3⟩ := insert3 (P := Tryd.prog) (T := 146) ((w.alloc (.cells (wcs s) 113)).alloc (.cells #[.int .i64 0, .string ⟨#[]⟩] 75)) 111 112 113 Tryd.underlying146 Tryd.underlying3
  have i4 := look3 (P := Tryd.prog) (T := 146) ((w.alloc (.cells (wcs s) 113)).alloc (.cells #[.int .i64 0, .string ⟨#[]⟩] 75)) 111 112 113 Tryd.underlying146 Tryd.underlying3
  have i5 := i4.1
  clear i4
  simp only [World.size_alloc] at i1 i2 i3 i5
  have hB3 : Below w.heap.size w (((w.alloc (.cells (wcs s) 113)).alloc (.cells #[.int .i64 0, .string ⟨#[]⟩] 75)).alloc (.map (fn3 111 112 113) 3)) := (((Below.refl _ w).alloc (Nat.le_refl _) _).alloc (by simp) _).alloc (by simp; omega) _
  have hw3 : Words 113 (((w.alloc (.cells (wcs s) 113)).alloc (.cells #[.int .i64 0, .string ⟨#[]⟩] 75)).alloc (.map (fn3 111 112 113) 3)) w.heap.size s := ((Words.new w _ s).alloc _).alloc _
  have c0 := hw3.cell (i := 0) (by decide)
  have c1 := hw3.cell (i := 1) (by decide)
  have c2 := hw3.cell (i := 2) (by decide)
  have c3 := hw3.cell (i := 3) (by decide)
  have hT3 := hT.below hB3 hT.lt
  have hcon := Lib.hid (array_any s _ hT3)
  have hr3 := Lib.hid (blk2_new ((w.alloc (.cells (wcs s) 113))) (.int .i64 0) (.string ⟨#[]⟩) 75 (.map (fn3 111 112 113) 3))
  go_enter Tryd.func101, Tryd.ntmps101
  simp only [wv]
  go_wp2_with (go_at_call 111; refine (hcon.out).mono ?_; rintro e W4 ⟨v, rfl, hown, hb4⟩; have hsv := string_back Tryd.underlying148 Tryd.underlying5 Tryd.underlying9 hown (fun x hx => (mem_nums.1 hx).1); obtain ⟨r0, r1, f0, f1⟩ := blk2_below hr3.out hb4; simp only [World.size_alloc] at r0 r1 f0 f1)
  have hB4 := hB3.trans (hb4.mono (by simp; omega))
  refine bodyPost_ret (v := .tuple #[cv 1 (nums s), .bool true]) ?_ rfl ⟨rfl, (hB4.setCell (p := ⟨w.heap.size + 1, 0, none⟩) (Nat.le_succ _) _).setCell (p := ⟨w.heap.size + 1, 1, none⟩) (Nat.le_succ _) _⟩
  have q0 := World.cell?_setCell_same' W4 ⟨w.heap.size + 1, 0, none⟩ (.int .i64 1) (by rw [r0]; rfl)
  simp [results, Tryd.results101, go_sem, cv, r0, r1]

set_option maxRecDepth 100000 in
set_option maxHeartbeats 2000000 in
theorem as_raw (s : Nat) (w : World) :
    Calls Tryd.prog 101 #[wv s, .int .i64 2] w fun e W' => e = .returned (.tuple #[cv 2 (raw s), .bool true]) ∧ Below w.heap.size w W' := by
  have hmm := @run_makeMap Tryd.prog
  obtain ⟨i1, i2, i3⟩ := insert3 (P := Tryd.prog) (T := 146) ((w.alloc (.cells (wcs s) 113)).alloc (.cells #[.int .i64 0, .string ⟨#[]⟩] 75)) 111 112 113 Tryd.underlying146 Tryd.underlying3
  have i4 := look3 (P := Tryd.prog) (T := 146) ((w.alloc (.cells (wcs s) 113)).alloc (.cells #[.int .i64 0, .string ⟨#[]⟩] 75)) 111 112 113 Tryd.underlying146 Tryd.underlying3
  have i5 := i4.2.1
  clear i4
  simp only [World.size_alloc] at i1 i2 i3 i5
  have hB3 : Below w.heap.size w (((w.alloc (.cells (wcs s) 113)).alloc (.cells #[.int .i64 0, .string ⟨#[]⟩] 75)).alloc (.map (fn3 111 112 113) 3)) := (((Below.refl _ w).alloc (Nat.le_refl _) _).alloc (by simp) _).alloc (by simp; omega) _
  have hw3 : Words 113 (((w.alloc (.cells (wcs s) 113)).alloc (.cells #[.int .i64 0, .string ⟨#[]⟩] 75)).alloc (.map (fn3 111 112 113) 3)) w.heap.size s := ((Words.new w _ s).alloc _).alloc _
  have c0 := hw3.cell (i := 0) (by decide)
  have c1 := hw3.cell (i := 1) (by decide)
  have c2 := hw3.cell (i := 2) (by decide)
  have c3 := hw3.cell (i := 3) (by decide)
  have hcon := Lib.hid (raw_any s (((w.alloc (.cells (wcs s) 113)).alloc (.cells #[.int .i64 0, .string ⟨#[]⟩] 75)).alloc (.map (fn3 111 112 113) 3)))
  have hr3 := Lib.hid (blk2_new ((w.alloc (.cells (wcs s) 113))) (.int .i64 0) (.string ⟨#[]⟩) 75 (.map (fn3 111 112 113) 3))
  go_enter Tryd.func101, Tryd.ntmps101
  simp only [wv]
  go_wp2_with (go_at_call 112; refine (hcon.out).mono ?_; rintro e W4 ⟨v, rfl, hown, hb4⟩; have hsv := string_back Tryd.underlying148 Tryd.underlying5 Tryd.underlying9 hown (raw_lt s); obtain ⟨r0, r1, f0, f1⟩ := blk2_below hr3.out hb4; simp only [World.size_alloc] at r0 r1 f0 f1)
  have hB4 := hB3.trans (hb4.mono (by simp; omega))
  refine bodyPost_ret (v := .tuple #[cv 2 (raw s), .bool true]) ?_ rfl ⟨rfl, (hB4.setCell (p := ⟨w.heap.size + 1, 0, none⟩) (Nat.le_succ _) _).setCell (p := ⟨w.heap.size + 1, 1, none⟩) (Nat.le_succ _) _⟩
  have q0 := World.cell?_setCell_same' W4 ⟨w.heap.size + 1, 0, none⟩ (.int .i64 2) (by rw [r0]; rfl)
  simp [results, Tryd.results101, go_sem, cv, r0, r1]

set_option maxRecDepth 100000 in
set_option maxHeartbeats 2000000 in
theorem as_runs (s : Nat) (w : World) (hT : Tab w) :
    Calls Tryd.prog 101 #[wv s, .int .i64 3] w fun e W' => e = .returned (.tuple #[cv 3 (runs s), .bool true]) ∧ Below w.heap.size w W' := by
  have hmm := @run_makeMap Tryd.prog
  obtain ⟨i1, i2, i3⟩ := insert3 (P := Tryd.prog) (T := 146) ((w.alloc (.cells (wcs s) 113)).alloc (.cells #[.int .i64 0, .string ⟨#[]⟩] 75)) 111 112 113 Tryd.underlying146 Tryd.underlying3
  have i4 := look3 (P := Tryd.prog) (T := 146) ((w.alloc (.cells (wcs s) 113)).alloc (.cells #[.int .i64 0, .string ⟨#[]⟩] 75)) 111 112 113 Tryd.underlying146 Tryd.underlying3
  have i5 := i4.2.2
  clear i4
  simp only [World.size_alloc] at i1 i2 i3 i5
  have hB3 : Below w.heap.size w (((w.alloc (.cells (wcs s) 113)).alloc (.cells #[.int .i64 0, .string ⟨#[]⟩] 75)).alloc (.map (fn3 111 112 113) 3)) := (((Below.refl _ w).alloc (Nat.le_refl _) _).alloc (by simp) _).alloc (by simp; omega) _
  have hw3 : Words 113 (((w.alloc (.cells (wcs s) 113)).alloc (.cells #[.int .i64 0, .string ⟨#[]⟩] 75)).alloc (.map (fn3 111 112 113) 3)) w.heap.size s := ((Words.new w _ s).alloc _).alloc _
  have c0 := hw3.cell (i := 0) (by decide)
  have c1 := hw3.cell (i := 1) (by decide)
  have c2 := hw3.cell (i := 2) (by decide)
  have c3 := hw3.cell (i := 3) (by decide)
  have hT3 := hT.below hB3 hT.lt
  have hcon := Lib.hid (runs_any s _ hT3)
  have hr3 := Lib.hid (blk2_new ((w.alloc (.cells (wcs s) 113))) (.int .i64 0) (.string ⟨#[]⟩) 75 (.map (fn3 111 112 113) 3))
  go_enter Tryd.func101, Tryd.ntmps101
  simp only [wv]
  go_wp2_with (go_at_call 113; refine (hcon.out).mono ?_; rintro e W4 ⟨v, rfl, hown, hb4⟩; have hsv := string_back Tryd.underlying148 Tryd.underlying5 Tryd.underlying9 hown (runsAt s).small; obtain ⟨r0, r1, f0, f1⟩ := blk2_below hr3.out hb4; simp only [World.size_alloc] at r0 r1 f0 f1)
  have hB4 := hB3.trans (hb4.mono (by simp; omega))
  refine bodyPost_ret (v := .tuple #[cv 3 (runs s), .bool true]) ?_ rfl ⟨rfl, (hB4.setCell (p := ⟨w.heap.size + 1, 0, none⟩) (Nat.le_succ _) _).setCell (p := ⟨w.heap.size + 1, 1, none⟩) (Nat.le_succ _) _⟩
  have q0 := World.cell?_setCell_same' W4 ⟨w.heap.size + 1, 0, none⟩ (.int .i64 3) (by rw [r0]; rfl)
  simp [results, Tryd.results101, go_sem, cv, r0, r1]

/-- **as(w, form)** -/
theorem as_some {s : Nat} {form : Int} {d : List Nat} (h : asOf s form = some d) (w : World) (hT : Tab w) :
    Calls Tryd.prog 101 #[wv s, .int .i64 form] w fun e W' => e = .returned (.tuple #[cv form d, .bool true]) ∧ Below w.heap.size w W' := by
  unfold asOf at h
  split at h
  · rename_i hf; subst hf; cases h; exact as_array s w hT
  · split at h
    · rename_i hf; subst hf; cases h; exact as_raw s w
    · split at h
      · rename_i hf; subst hf; cases h; exact as_runs s w hT
      · cases h
theorem asOf_none {s : Nat} {form : Int} (h : asOf s form = none) : form ≠ 1 ∧ form ≠ 2 ∧ form ≠ 3 := by
  unfold asOf at h
  split at h
  · cases h
  · split at h
    · cases h
    · split at h
      · cases h
      · exact ⟨by assumption, by assumption, by assumption⟩
theorem asOf_lt {s : Nat} {form : Int} {d : List Nat} (h : asOf s form = some d) : ∀ x ∈ d, x < 256 := by
  unfold asOf at h
  split at h
  · cases h; exact fun x hx => (mem_nums.1 hx).1
  · split at h
    · cases h; exact raw_lt s
    · split at h
      · cases h; exact (runsAt s).small
      · cases h
end Go.Proofs.YtnigpmbpipmgfaaDoor

/-
  cont's best: a set in its best form.
-/
namespace Go.Proofs.YtnigpmbpipmgfaaDoor
open Go.RowKit Tess

theorem bs_size (d : List Nat) : (bs d).size = d.length := by show ((d.map UInt8.ofNat).toArray).size = _; simp
theorem blk2_cells {W : World} {k : Nat} {a b : Value} {t : TypeId} (h : W.heap[k]? = some (.cells #[a, b] t (0, 0))) :
    W.cell? ⟨k, 0, none⟩ = some a ∧ W.cell? ⟨k, 1, none⟩ = some b ∧ W.frozen? ⟨k, 0, none⟩ = false ∧ W.frozen? ⟨k, 1, none⟩ = false := by
  refine ⟨?_, ?_, ?_, ?_⟩ <;> simp [World.cell?, World.frozen?, h]

/-- The best so far. -/
def bestTo (s : Nat) : Nat → C
  | 0 => ⟨1, nums s⟩
  | 1 => if (runs s).length < (nums s).length then ⟨3, runs s⟩ else ⟨1, nums s⟩
  | _ => best s
theorem bestTo_one (s : Nat) : bestTo s 1 = if (runs s).length < (bestTo s 0).data.length then ⟨3, runs s⟩ else bestTo s 0 := rfl
theorem bestTo_two (s : Nat) : bestTo s 2 = if (raw s).length < (bestTo s 1).data.length then ⟨2, raw s⟩ else bestTo s 1 := by
  show best s = _
  unfold best bestTo
  simp only [raw_length]

/-- What lies in memory between two rounds. -/
structure BestAt (w wr : World) (bO bS s : Nat) (c : C) : Prop where
  words : Words 113 wr w.heap.size s
  res : wr.heap[w.heap.size + 1]? = some (.cells #[.int .i64 0, .string ⟨#[]⟩] 75 (0, 0))
  row : wr.heap[bS]? = some (.cells #[.int .i64 3, .int .i64 2] 3 (0, 0))
  out : wr.heap[bO]? = some (.cells #[.int .i64 c.form, .string (bs c.data)] 75 (0, 0))
  below : Below w.heap.size w wr
  lo : w.heap.size + 1 < bO
theorem lt_of_heap {W : World} {k : Nat} {o : Obj} (h : W.heap[k]? = some o) : k < W.heap.size := (Array.getElem?_eq_some_iff.1 h).1
theorem BestAt.later {w wr W : World} {bO bS s : Nat} {c : C} (h : BestAt w wr bO bS s c) (hb : Below wr.heap.size wr W) : BestAt w W bO bS s c :=
  ⟨h.words.below hb h.words.lt, (hb.block _ (lt_of_heap h.res)).trans h.res, (hb.block _ (lt_of_heap h.row)).trans h.row, (hb.block _ (lt_of_heap h.out)).trans h.out, h.below.trans (hb.mono h.below.size), h.lo⟩

theorem heap_set2 {W : World} {k : Nat} {a b : Value} {t : TypeId} (h : W.heap[k]? = some (.cells #[a, b] t (0, 0))) (a' b' : Value) :
    ((W.setCell ⟨k, 0, none⟩ a').setCell ⟨k, 1, none⟩ b').heap[k]? = some (.cells #[a', b'] t (0, 0)) := by
  simp [World.setCell, Array.getElem?_modify, h]
theorem BestAt.put {w wr : World} {bO bS s : Nat} {c : C} (h : BestAt w wr bO bS s c) (hS : bS = bO + 1) (c' : C) :
    BestAt w ((wr.setCell ⟨bO, 0, none⟩ (.int .i64 c'.form)).setCell ⟨bO, 1, none⟩ (.string (bs c'.data))) bO bS s c' := by
  have hlo := h.lo
  refine ⟨(h.words.far (p := ⟨bO, 0, none⟩) (by simp; omega) _).far (p := ⟨bO, 1, none⟩) (by simp; omega) _, ?_, ?_, heap_set2 h.out _ _, (h.below.setCell (p := ⟨bO, 0, none⟩) (by simp; omega) _).setCell (p := ⟨bO, 1, none⟩) (by simp; omega) _, hlo⟩
  · exact (Below.heap_setCell _ ⟨bO, 1, none⟩ _ _ (by simp; omega)).trans ((Below.heap_setCell _ ⟨bO, 0, none⟩ _ _ (by simp; omega)).trans h.res)
  · exact (Below.heap_setCell _ ⟨bO, 1, none⟩ _ _ (by simp; omega)).trans ((Below.heap_setCell _ ⟨bO, 0, none⟩ _ _ (by simp; omega)).trans h.row)

set_option maxRecDepth 100000 in
set_option maxHeartbeats 4000000 in
theorem best_any (s : Nat) (w : World) (hT : Tab w) :
    Calls Tryd.prog 76 #[wv s] w fun e W' => e = .returned (cv (best s).form (best s).data) ∧ Below w.heap.size w W' := by
  have hB2 : Below w.heap.size w ((w.alloc (.cells (wcs s) 113)).alloc (.cells #[.int .i64 0, .string ⟨#[]⟩] 75)) := ((Below.refl _ w).alloc (Nat.le_refl _) _).alloc (by simp) _
  have hw2 : Words 113 ((w.alloc (.cells (wcs s) 113)).alloc (.cells #[.int .i64 0, .string ⟨#[]⟩] 75)) w.heap.size s := (Words.new w _ s).alloc _
  have hT2 := hT.below hB2 hT.lt
  have c0 := hw2.cell (i := 0) (by decide)
  have c1 := hw2.cell (i := 1) (by decide)
  have c2 := hw2.cell (i := 2) (by decide)
  have c3 := hw2.cell (i := 3) (by decide)
  have k1 := Lib.hid (as_some (s := s) (form := 1) (d := nums s) rfl _ hT2)
  go_enter Tryd.func76, Tryd.ntmps76
  simp only [wv]
  go_wp2_with fail
  refine (k1.out).mono ?_
  rintro e W1 ⟨rfl, hb1⟩
  have hR := heap_alloc_new (w.alloc (.cells (wcs s) 113)) (.cells #[.int .i64 0, .string ⟨#[]⟩] 75)
  have hs1 := hb1.size
  simp only [World.size_alloc] at hR hs1 hb1
  have hBW := hB2.trans (hb1.mono (by omega))
  have hA : Hid (BestAt w ((W1.alloc (.cells #[.int .i64 1, .string (bs (nums s))] 75)).alloc (.cells #[.int .i64 3, .int .i64 2] 3)) W1.heap.size (W1.heap.size + 1) s (bestTo s 0)) :=
    ⟨((hw2.below hb1 (by omega)).alloc _).alloc _, (Below.heap_alloc _ _ _ (by simp; omega)).trans ((Below.heap_alloc _ _ _ (by omega)).trans ((hb1.block _ (by omega)).trans hR)),
      by have := heap_alloc_new (W1.alloc (.cells #[.int .i64 1, .string (bs (nums s))] 75)) (.cells #[.int .i64 3, .int .i64 2] 3); rwa [World.size_alloc] at this,
      (Below.heap_alloc _ _ _ (by simp)).trans (heap_alloc_new W1 _), (hBW.alloc (by omega) _).alloc (by simp; omega) _, by omega⟩
  clear c0 c1 c2 c3 hR hw2
  simp only [cv]
  go_wp2
  go_loopw [16] (fun i wr => ∃ k : Nat, k ≤ 2 ∧ i = .int .i64 k ∧ Hid (BestAt w wr W1.heap.size (W1.heap.size + 1) s (bestTo s k)))
    (fun i _ => 2 - (intOf i).toNat)
  case atStart => exact ⟨0, by omega, rfl, hA⟩
  case round =>
    obtain ⟨k, hk, rfl, hM⟩ := hrel
    clear hA
    have hTr := hT.below hM.out.below hT.lt
    by_cases hlt : k < 2
    · rcases (show k = 0 ∨ k = 1 by omega) with hkk | hkk
      · have kc := blk2_cells hM.out.row
        have hk0 := Lib.hid hkk
        have hcx : wr.cell? ⟨W1.heap.size + 1, k, none⟩ = some (.int .i64 3) := by rw [hkk]; exact kc.1
        have ks := Lib.hid (as_some (s := s) (form := 3) (d := runs s) rfl wr hTr)
        have c0 := hM.out.words.cell (i := 0) (by decide)
        have c1 := hM.out.words.cell (i := 1) (by decide)
        have c2 := hM.out.words.cell (i := 2) (by decide)
        have c3 := hM.out.words.cell (i := 3) (by decide)
        have hkd : decide ((k : Int) < 2) = true := by simp; omega
        clear hkk kc
        go_wp2_with fail
        refine (ks.out).mono ?_
        rintro e W2 ⟨rfl, hb2⟩
        have hM3 : Hid (BestAt w (W2.alloc (.cells #[.int .i64 3, .string (bs (runs s))] 75)) W1.heap.size (W1.heap.size + 1) s (bestTo s k)) :=
          (hM.out.later hb2).later ((Below.refl _ W2).alloc (Nat.le_refl _) _)
        obtain ⟨o0, o1, g0, g1⟩ := blk2_cells hM3.out.out
        obtain ⟨n0, n1, _, _⟩ := blk2_cells (heap_alloc_new W2 (.cells #[.int .i64 3, .string (bs (runs s))] 75))
        clear c0 c1 c2 c3 hcx
        simp only [cv]
        by_cases hc : (bs (runs s)).size < (bs (bestTo s k).data).size
        · have hcd : decide ((bs (runs s)).size < (bs (bestTo s k).data).size) = true := by simpa using hc
          have hc' := Lib.hid hc
          clear hc
          go_wp2
          go_roundw
          case rel =>
            refine ⟨k + 1, by omega, by go_num, ?_⟩
            have e : bestTo s (k + 1) = ⟨3, runs s⟩ := by rw [hk0.out]; rw [hk0.out] at hc'; rw [bestTo_one, if_pos (by have := hc'.out; rwa [bs_size, bs_size] at this)]
            rw [e]
            exact hM3.out.put rfl ⟨3, runs s⟩
          case measure => simp [intOf]; omega
        · have hcd : decide ((bs (runs s)).size < (bs (bestTo s k).data).size) = false := by simpa using hc
          have hc' := Lib.hid hc
          clear hc
          go_wp2
          go_roundw
          case rel =>
            refine ⟨k + 1, by omega, by go_num, ?_⟩
            have e : bestTo s (k + 1) = bestTo s k := by rw [hk0.out]; rw [hk0.out] at hc'; rw [bestTo_one, if_neg (by have := hc'.out; rwa [bs_size, bs_size] at this)]
            rw [e]
            exact hM3
          case measure => simp [intOf]; omega
      · have kc := blk2_cells hM.out.row
        have hk0 := Lib.hid hkk
        have hcx : wr.cell? ⟨W1.heap.size + 1, k, none⟩ = some (.int .i64 2) := by rw [hkk]; exact kc.2.1
        have ks := Lib.hid (as_some (s := s) (form := 2) (d := raw s) rfl wr hTr)
        have c0 := hM.out.words.cell (i := 0) (by decide)
        have c1 := hM.out.words.cell (i := 1) (by decide)
        have c2 := hM.out.words.cell (i := 2) (by decide)
        have c3 := hM.out.words.cell (i := 3) (by decide)
        have hkd : decide ((k : Int) < 2) = true := by simp; omega
        clear hkk kc
        go_wp2_with fail
        refine (ks.out).mono ?_
        rintro e W2 ⟨rfl, hb2⟩
        have hM3 : Hid (BestAt w (W2.alloc (.cells #[.int .i64 2, .string (bs (raw s))] 75)) W1.heap.size (W1.heap.size + 1) s (bestTo s k)) :=
          (hM.out.later hb2).later ((Below.refl _ W2).alloc (Nat.le_refl _) _)
        obtain ⟨o0, o1, g0, g1⟩ := blk2_cells hM3.out.out
        obtain ⟨n0, n1, _, _⟩ := blk2_cells (heap_alloc_new W2 (.cells #[.int .i64 2, .string (bs (raw s))] 75))
        clear c0 c1 c2 c3 hcx
        simp only [cv]
        by_cases hc : (bs (raw s)).size < (bs (bestTo s k).data).size
        · have hcd : decide ((bs (raw s)).size < (bs (bestTo s k).data).size) = true := by simpa using hc
          have hc' := Lib.hid hc
          clear hc
          go_wp2
          go_roundw
          case rel =>
            refine ⟨k + 1, by omega, by go_num, ?_⟩
            have e : bestTo s (k + 1) = ⟨2, raw s⟩ := by rw [hk0.out]; rw [hk0.out] at hc'; rw [bestTo_two, if_pos (by have := hc'.out; rwa [bs_size, bs_size] at this)]
            rw [e]
            exact hM3.out.put rfl ⟨2, raw s⟩
          case measure => simp [intOf]; omega
        · have hcd : decide ((bs (raw s)).size < (bs (bestTo s k).data).size) = false := by simpa using hc
          have hc' := Lib.hid hc
          clear hc
          go_wp2
          go_roundw
          case rel =>
            refine ⟨k + 1, by omega, by go_num, ?_⟩
            have e : bestTo s (k + 1) = bestTo s k := by rw [hk0.out]; rw [hk0.out] at hc'; rw [bestTo_two, if_neg (by have := hc'.out; rwa [bs_size, bs_size] at this)]
            rw [e]
            exact hM3
          case measure => simp [intOf]; omega
    · have h2 : 2 ≤ k := by omega
      obtain ⟨o0, o1, _, _⟩ := blk2_cells hM.out.out
      obtain ⟨r0, r1, f0, f1⟩ := blk2_cells hM.out.res
      have hlo := hM.out.lo
      have hke := Lib.hid (show k = 2 by omega)
      go_wp2
      have hbk : best s = bestTo s k := by rw [hke.out]; rfl
      have hrs := blk2_cells (heap_set2 hM.out.res (.int .i64 (bestTo s k).form) (.string (bs (bestTo s k).data)))
      refine bodyPost_ret (v := cv (best s).form (best s).data) ?_ rfl ⟨rfl, (hM.out.below.setCell (p := ⟨w.heap.size + 1, 0, none⟩) (Nat.le_succ _) _).setCell (p := ⟨w.heap.size + 1, 1, none⟩) (Nat.le_succ _) _⟩
      rw [hbk]
      simp [results, Tryd.results76, go_sem, cv, hrs.1, hrs.2.1]
end Go.Proofs.YtnigpmbpipmgfaaDoor
