/-
  RMake6, Bools7, ROf7: several texts in one (merge.py).
-/
import Derived.Test.YtnigpmbpipmgfaaDoorRefC
import Derived.Test.YtnigpmbpipmgfaaDoorInts7
import Derived.Test.YtnigpmbpipmgfaaDoorBmM
import Derived.Test.YtnigpmbpipmgfaaDoorSame7

/-
  The reference's Make of a container.
-/
namespace Go.Proofs.YtnigpmbpipmgfaaDoor
open Go.RowKit Tess

/-- A result's box ahead of 256 truths. -/
structure MAt (w W : World) (s : Nat) : Prop where
  res : W.heap[w.heap.size]? = some (.cells #[.int .i64 0, .string ⟨#[]⟩] 75 (0, 0))
  set : Arr W (w.heap.size + 1) s
  below : Below w.heap.size w W
theorem MAt.put {w W : World} {s s' i : Nat} {v : Bool} (h : MAt w W s) (hi : i < 256) (hs : ∀ j, j < 256 → s'.testBit j = if j = i then v else s.testBit j) :
    MAt w (W.setCell ⟨w.heap.size + 1, i, none⟩ (.bool v)) s' :=
  ⟨(Below.heap_setCell W ⟨w.heap.size + 1, i, none⟩ _ _ (by show w.heap.size ≠ w.heap.size + 1; omega)).trans h.res, h.set.set_ hi hs, h.below.setCell (p := ⟨w.heap.size + 1, i, none⟩) (by show w.heap.size ≤ w.heap.size + 1; omega) _⟩
theorem MAt.later {w wr W : World} {s : Nat} (h : MAt w wr s) (hb : Below wr.heap.size wr W) : MAt w W s :=
  ⟨(hb.block _ (lt_of_heap h.res)).trans h.res, h.set.later hb, h.below.trans (hb.mono h.below.size)⟩
theorem MAt.set2 {w W : World} {s : Nat} (h : MAt w W s) (a b : Value) : Below w.heap.size w ((W.setCell ⟨w.heap.size, 0, none⟩ a).setCell ⟨w.heap.size, 1, none⟩ b) :=
  (h.below.setCell (p := ⟨w.heap.size, 0, none⟩) (Nat.le_refl _) _).setCell (p := ⟨w.heap.size, 1, none⟩) (Nat.le_refl _) _
theorem mkSet_step {zs : List Int} {k : Nat} (h : k < zs.length) : mkSet (zs.take (k + 1)) = put (mkSet (zs.take k)) (zs[k]?.getD 0).toNat := by
  unfold mkSet
  rw [List.take_succ_eq_append_getElem h, List.map_append]
  simp [putAll, h]
theorem bad_step {zs : List Int} {k : Nat} (h : k < zs.length) : (zs.take (k + 1)).any badI = ((zs.take k).any badI || badI (zs[k]?.getD 0)) := by
  rw [List.take_succ_eq_append_getElem h, List.any_append]; simp [h]
theorem mkRes_bad {zs : List Int} (h : zs.any badI = true) : mkRes zs = (⟨0, []⟩, 60) := by unfold mkRes; rw [if_pos h]
theorem mkRes_good {zs : List Int} (h : zs.any badI = false) : mkRes zs = (best (mkSet zs), 0) := by unfold mkRes; rw [h]; rfl

set_option maxRecDepth 100000 in
set_option maxHeartbeats 4000000 in
theorem rmake_any {zs : List Int} {sv : Value} {w : World} (h : Ints w.heap.size w sv zs) (hl : zs.length ≤ 1000000) :
    Calls Tryd.prog 105 #[sv] w fun e W' => e = .returned (.tuple #[cv (mkRes zs).1.form (mkRes zs).1.data, .int .i64 (mkRes zs).2]) ∧ Below w.heap.size w W' := by
  have hz := zeroArr
  have hA : Hid (MAt w ((w.alloc (.cells #[.int .i64 0, .string ⟨#[]⟩] 75)).alloc (.cells (bc 0) 149)) 0) :=
    ⟨CBox.alloc (CBox.new w 0 ⟨#[]⟩) _, by have := Arr.new (w.alloc (.cells #[.int .i64 0, .string ⟨#[]⟩] 75)) 0; rwa [World.size_alloc] at this, ((Below.refl _ w).alloc (Nat.le_refl _) _).alloc (by simp) _⟩
  obtain ⟨p, cap, rfl, hcell⟩ := h.slice
  have hc := Lib.hid hcell
  clear h hcell
  go_enter Tryd.func105, Tryd.ntmps105
  go_wp2
  go_loopw [5] (fun i wr => ∃ k : Nat, k ≤ zs.length ∧ i = .int .i64 k ∧ Hid ((zs.take k).any badI = false) ∧ Hid (MAt w wr (mkSet (zs.take k))))
    (fun i _ => zs.length - (intOf i).toNat)
  case atStart => exact ⟨0, Nat.zero_le _, rfl, by show _ = _; simp, hA⟩
  case round =>
    obtain ⟨k, hk, rfl, hgood, hM⟩ := hrel
    clear hA hz
    by_cases hlt : k < zs.length
    · obtain ⟨b1, o1, rfl, hb1, hx1⟩ := hc.out k hlt
      have hy1 := (hM.out.below.cell (p := ⟨b1, o1 + k, none⟩) hb1).trans hx1
      have hkd : decide (k < zs.length) = true := by simpa using hlt
      have hk0 : (0 : Int) ≤ (k : Int) := by omega
      have hk1 : (k : Int) < (zs.length : Int) := by omega
      have hbs := Lib.hid (bad_step hlt)
      have hms := Lib.hid (mkSet_step hlt)
      have hin : Hid (badI (zs[k]?.getD 0) = true → zs.any badI = true) := by
        show _ → _
        intro h
        exact List.any_eq_true.2 ⟨zs[k], List.getElem_mem hlt, by simpa [hlt] using h⟩
      clear hx1
      generalize zs[k]?.getD 0 = z at hy1 hbs hms hin
      by_cases h1 : z < 0
      · have g1 : decide (z < 0) = true := decide_eq_true h1
        have hre := Lib.hid (mkRes_bad (hin.out (by unfold badI; rw [g1]; rfl)))
        obtain ⟨r0, r1, p0, p1⟩ := blk2_cells hM.out.res
        go_wp2
        have hrs := blk2_cells (heap_set2 hM.out.res (.int .i64 0) (.string ⟨#[]⟩))
        refine bodyPost_ret (v := .tuple #[cv 0 [], .int .i64 60]) ?_ rfl ⟨by rw [hre.out], hM.out.set2 _ _⟩
        simp [results, Tryd.results105, go_sem, cv, hrs.1, hrs.2.1]
        try rfl
      · have g1 : decide (z < 0) = false := decide_eq_false h1
        by_cases h2 : 255 < z
        · have g2 : decide (255 < z) = true := decide_eq_true h2
          have hre := Lib.hid (mkRes_bad (hin.out (by unfold badI; rw [g1, decide_eq_true (show 256 ≤ z by omega)]; rfl)))
          obtain ⟨r0, r1, p0, p1⟩ := blk2_cells hM.out.res
          go_wp2
          have hrs := blk2_cells (heap_set2 hM.out.res (.int .i64 0) (.string ⟨#[]⟩))
          refine bodyPost_ret (v := .tuple #[cv 0 [], .int .i64 60]) ?_ rfl ⟨by rw [hre.out], hM.out.set2 _ _⟩
          simp [results, Tryd.results105, go_sem, cv, hrs.1, hrs.2.1]
          try rfl
        · obtain ⟨m, rfl⟩ : ∃ m : Nat, z = m := ⟨z.toNat, by omega⟩
          have g2 : decide (255 < (m : Int)) = false := decide_eq_false h2
          have g1' : decide ((m : Int) < 0) = false := g1
          have hm : m < 256 := by omega
          have hm' := Lib.hid hm
          have hm0 : (0 : Int) ≤ (m : Int) := by omega
          have hm1 : (m : Int) < 256 := by omega
          have hb' : Hid ((zs.take (k + 1)).any badI = false) := by
            show _ = _
            rw [hbs.out, hgood.out]; unfold badI; simp; omega
          have hct := hM.out.set.cell hm
          have hft := hM.out.set.frozen m
          clear hbs hin g1
          go_wp2
          go_roundw
          case rel => exact ⟨k + 1, by omega, by go_num, hb', by rw [hms.out]; exact hM.out.put hm'.out (put_bits _ _)⟩
          case measure => simp [intOf]; omega
    · have hkd : decide (k < zs.length) = false := by simpa using hlt
      have htk : zs.take k = zs := List.take_of_length_le (by omega)
      rw [htk] at hgood hM
      have hre := Lib.hid (mkRes_good hgood.out)
      generalize mkSet zs = t at hM hre
      have hkb := Lib.hid (rbest_any t wr)
      clear htk
      go_wp2
      refine Arr.wpLoad hM.out.set _ rfl rfl ?_
      go_wp2_with fail
      refine (hkb.out).mono ?_
      rintro e W3 ⟨rfl, hb3⟩
      have hM3 := Lib.hid (hM.out.later hb3)
      obtain ⟨r0, r1, f0, f1⟩ := blk2_cells hM3.out.res
      simp only [cv]
      go_wp2
      have hrs := blk2_cells (heap_set2 hM3.out.res (.int .i64 (best t).form) (.string (bs (best t).data)))
      refine bodyPost_ret (v := .tuple #[cv (best t).form (best t).data, .int .i64 0]) ?_ rfl ⟨by rw [hre.out], hM3.out.set2 _ _⟩
      simp [results, Tryd.results105, go_sem, cv, hrs.1, hrs.2.1]
end Go.Proofs.YtnigpmbpipmgfaaDoor

/-
  A slice of 65536 truths in memory.
-/
namespace Go.Proofs.YtnigpmbpipmgfaaDoor
open Go.RowKit Tess

theorem info_bool : (Tryd.prog.info? 4).map (fun i => (i.zero, i.size, i.bytes)) = some (some (.bool false), 1, 1) := by kernel_rfl
/-- BLOCK g HOLDS THE 65536 TRUTHS B. -/
def Bo (W : World) (g : Nat) (B : Nat → Bool) : Prop := ∃ cur : Array Value, W.heap[g]? = some (.cells cur 4 (0, 0)) ∧ cur.size = 65536 ∧ ∀ j, j < 65536 → cur[j]? = some (.bool (B j))
section
variable {W W' : World} {g : Nat} {B : Nat → Bool}
theorem Bo.lt (h : Bo W g B) : g < W.heap.size := by obtain ⟨_, h, _⟩ := h; exact lt_of_heap h
theorem Bo.cell (h : Bo W g B) {j : Nat} (hj : j < 65536) : W.cell? ⟨g, j, none⟩ = some (.bool (B j)) := by
  obtain ⟨cur, h, _, hc⟩ := h
  rw [cell_of_row W g j _ _ (0, 0) h, hc j hj]
theorem Bo.frozen (h : Bo W g B) (i : Nat) : W.frozen? ⟨g, i, none⟩ = false := by
  obtain ⟨cur, h, _⟩ := h
  simp [World.frozen?, h]
theorem Bo.later (h : Bo W g B) (hb : Below W.heap.size W W') : Bo W' g B := by
  have hl := h.lt
  obtain ⟨cur, h, r⟩ := h
  exact ⟨cur, (hb.block g hl).trans h, r⟩
theorem Bo.alloc (h : Bo W g B) (o : Obj) : Bo (W.alloc o) g B := h.later ((Below.refl _ W).alloc (Nat.le_refl _) _)
theorem Bo.drew (h : Bo W g B) : Bo W.drew g B := h
theorem Bo.grown {row : Option Nat} (h : Bo W g B) (hg : W.grownBy W' row) (hne : some g ≠ row) : Bo W' g B := by
  have hl := h.lt
  obtain ⟨cur, h, r⟩ := h
  exact ⟨cur, (hg.block g hl hne).trans h, r⟩
theorem Bo.far (h : Bo W g B) {p : Addr} (hp : g ≠ p.block) (u : Value) : Bo (W.setCell p u) g B := by
  obtain ⟨cur, h, r⟩ := h
  exact ⟨cur, (Below.heap_setCell W p u g hp).trans h, r⟩
theorem Bo.congr (h : Bo W g B) {B' : Nat → Bool} (hB : ∀ j, j < 65536 → B j = B' j) : Bo W g B' := by
  obtain ⟨cur, h, hs, hc⟩ := h
  exact ⟨cur, h, hs, fun j hj => by rw [hc j hj, hB j hj]⟩
theorem Bo.set (h : Bo W g B) {i : Nat} (hi : i < 65536) (v : Bool) : Bo (W.setCell ⟨g, i, none⟩ (.bool v)) g (fun j => if j = i then v else B j) := by
  obtain ⟨cur, h, hs, hc⟩ := h
  refine ⟨cur.setIfInBounds i (.bool v), ?_, by simpa using hs, fun j hj => ?_⟩
  · simp [World.setCell, Array.getElem?_modify, h]
  · rw [Array.getElem?_setIfInBounds]
    by_cases e : i = j
    · subst e; simp [hs, hi]
    · have e' : ¬ j = i := fun h => e h.symm
      simp [e, e', hc j hj]
end
theorem Bo.new (W : World) : Bo (W.alloc (.cells (madeCells #[.bool false] 65536) 4)) W.heap.size (fun _ => false) := by
  refine ⟨_, heap_alloc_new W _, size_madeCells _ _, fun j hj => ?_⟩
  simp [madeCells, hj, Nat.mod_one]
theorem mkBools (w : World) : (Instr.makeSlice 23 (.int .i64 65536) (.int .i64 65536)).run Tryd.prog w = .ok (.slice (some ⟨w.heap.size, 0, none⟩) 65536 65536) (w.alloc (.cells (madeCells #[.bool false] 65536) 4)) := by
  obtain ⟨i0, hi, hz0, hz1, hz2⟩ := info_parts info_bool
  have h := run_make (P := Tryd.prog) w 23 4 i0 (.bool false) Tryd.underlying23 hi hz0 .i64 .i64 65536 65536 (by omega) (by omega) (by rw [hz2]; decide) (by decide)
  rw [hz1] at h
  exact h
end Go.Proofs.YtnigpmbpipmgfaaDoor

/-
  The reference's of: the bitmap of 65536 truths.
-/
namespace Go.Proofs.YtnigpmbpipmgfaaDoor
open Go.RowKit Tess

/-- A key's numbers, the first i. -/
def upB (B : Nat → Bool) (k i : Nat) : List Nat := (List.range i).filter fun j => B (256 * k + j)
theorem upB_yes {B : Nat → Bool} {k i : Nat} (h : B (256 * k + i) = true) : upB B k (i + 1) = upB B k i ++ [i] := by
  unfold upB; rw [List.range_succ, List.filter_append]; simp [h]
theorem upB_no {B : Nat → Bool} {k i : Nat} (h : B (256 * k + i) = false) : upB B k (i + 1) = upB B k i := by
  unfold upB; rw [List.range_succ, List.filter_append]; simp [h]
theorem upB_len (B : Nat → Bool) (k i : Nat) : (upB B k i).length ≤ i := by
  have := List.length_filter_le (fun j => B (256 * k + j)) (List.range i)
  rw [List.length_range] at this; exact this
theorem upB_mem {B : Nat → Bool} {k i j : Nat} : j ∈ upB B k i ↔ j < i ∧ B (256 * k + j) = true := by
  unfold upB; rw [List.mem_filter, List.mem_range]
/-- A key's set. -/
def setB (B : Nat → Bool) (k : Nat) : Nat := putAll 0 (upB B k 256)
theorem setB_lt (B : Nat → Bool) (k : Nat) : setB B k < big := putAll_lt (by decide +kernel) fun j hj => (upB_mem.1 hj).1
theorem setB_bit {B : Nat → Bool} {k j : Nat} (hj : j < 256) : (setB B k).testBit j = B (256 * k + j) := by
  unfold setB
  rw [testBit_putAll, Nat.zero_testBit, Bool.false_or]
  cases h : B (256 * k + j)
  · exact decide_eq_false fun hm => by have := (upB_mem.1 hm).2; rw [h] at this; cases this
  · exact decide_eq_true (upB_mem.2 ⟨hj, h⟩)
/-- The bitmap of truths. -/
def ofB (B : Nat → Bool) : List Ch := canon (setB B)
theorem ofB_right (B : Nat → Bool) : rightL (ofB B) = true := canon_right fun k _ => setB_lt B k
theorem ofB_bit {B : Nat → Bool} {n : Nat} (hn : n < 65536) : bitL (ofB B) n = B n := by
  unfold ofB
  rw [bitL_canon (fun k _ => setB_lt B k) hn]
  unfold bitM
  rw [setB_bit (by omega)]
  congr 1
  omega
theorem setB_none {B : Nat → Bool} {k : Nat} (h : (upB B k 256).length = 0) : setB B k = 0 := by
  unfold setB; rw [List.length_eq_zero_iff.1 h]; rfl
theorem setB_some {B : Nat → Bool} {k : Nat} (h : 0 < (upB B k 256).length) : setB B k ≠ 0 := by
  obtain ⟨j, hj⟩ := List.exists_mem_of_length_pos h
  have := upB_mem.1 hj
  intro e
  have hb := setB_bit (B := B) (k := k) this.1
  rw [e, Nat.zero_testBit, this.2] at hb
  cases hb
theorem mkRes_up (B : Nat → Bool) (k : Nat) : mkRes ((upB B k 256).map Int.ofNat) = (best (setB B k), 0) := by
  have hg : ((upB B k 256).map Int.ofNat).any badI = false := by
    rw [List.any_eq_false]
    intro z hz
    obtain ⟨j, hj, rfl⟩ := List.mem_map.1 hz
    have := (upB_mem.1 hj).1
    unfold badI
    simp
    omega
  rw [mkRes_good hg]
  unfold mkSet setB
  rw [List.map_map]
  congr 2
  congr 1
  rw [show (Int.toNat ∘ Int.ofNat) = id from funext fun n => rfl, List.map_id]
theorem canonTo_none {M : Nat → Nat} {k : Nat} (h : M k = 0) : canonFrom M 0 (k + 1) = canonFrom M 0 k := by
  rw [canonFrom_snoc, Nat.zero_add, if_pos h, List.append_nil]
theorem canonTo_more {M : Nat → Nat} {k : Nat} (h : M k ≠ 0) : canonFrom M 0 (k + 1) = canonFrom M 0 k ++ [mkCh k (M k)] := by
  rw [canonFrom_snoc, Nat.zero_add, if_neg h]

theorem row_slice {W : World} {base n k : Nat} {e : TypeId} {v : Value} {xs : List Value} (h : W.ownsRow base e k v n xs) : ∃ p c, v = .slice p n c := by
  obtain ⟨_, ⟨rfl, h0⟩ | ⟨g, cap, cur, rfl, _⟩⟩ := h
  · have : n = 0 := h0
    subst this
    exact ⟨_, _, rfl⟩
  · exact ⟨_, _, rfl⟩

set_option maxRecDepth 100000 in
set_option maxHeartbeats 8000000 in
theorem rof_fr {B : Nat → Bool} {g : Nat} {w : World} (h : Bo w g B) :
    Calls Tryd.prog 85 #[.slice (some ⟨g, 0, none⟩) 65536 65536] w fun e W' => ∃ v, e = .returned (.agg #[v]) ∧ HC W' v (ofB B) ∧ Below w.heap.size w W' ∧ Fr w.heap.size v := by
  obtain ⟨i0, hi, hz0, hz1, hz2⟩ := info_parts info_chunk
  obtain ⟨j0, hj, hy0, hy1, hy2⟩ := info_parts info_int
  have hA0 := Lib.hid (OfAt7.start w)
  have hb := Lib.hid h
  clear h
  go_enter Tryd.func85, Tryd.ntmps85
  go_wp2
  go_loopw [4] (fun i wr => ∃ (k : Nat) (v : Value), k ≤ 256 ∧ i = .int .i64 k ∧ Hid (OfAt7 w wr v (canonFrom (setB B) 0 k)))
    (fun i _ => 256 - (intOf i).toNat)
  case atStart => exact ⟨0, _, Nat.zero_le _, rfl, hA0⟩
  case round =>
    obtain ⟨k, v, hk, rfl, hA⟩ := hrel
    clear hA0
    obtain ⟨V, rfl⟩ : ∃ V, V = wr := ⟨_, rfl⟩
    by_cases hlt : k < 256
    · have hkd : decide ((k : Int) < 256) = true := by simp; omega
      have hwr := Lib.hid hA.out.below.size
      go_wp2
      go_loopw [5, 6] (fun l i W => ∃ j : Nat, j ≤ 256 ∧ i = .int .i64 j ∧ Hid (W.ownsRow V.heap.size 3 1 l (upB B k j).length ((upB B k j).map fun n : Nat => .int .i64 (n : Int))) ∧ Hid (Below V.heap.size V W))
        (fun _ i _ => 256 - (intOf i).toNat)
      case atStart => exact ⟨0, Nat.zero_le _, rfl, World.ownsRow_nil _ _ _ _, Lib.hid (Below.refl _ _)⟩
      case round =>
        obtain ⟨j, hjj, rfl, hrow, hB⟩ := hrel
        have hA1 := Lib.hid (hA.out.later hB.out)
        by_cases hlt2 : j < 256
        · have hjd : decide ((j : Int) < 256) = true := by simp; omega
          have hcl := ((hb.out.later hA1.out.below).cell (j := 256 * k + j) (by omega))
          have hi0 : (0 : Int) ≤ 256 * (k : Int) + (j : Int) := by omega
          have hi1 : 256 * (k : Int) + (j : Int) < 65536 := by omega
          have hi2 : (256 * (k : Int) + (j : Int)).toNat = 256 * k + j := by omega
          have hul := upB_len B k j
          have hyes := Lib.hid (@upB_yes B k j)
          have hno := Lib.hid (@upB_no B k j)
          have hrow' := hrow.out
          have hsz := Lib.hid hB.out.size
          generalize B (256 * k + j) = t at hcl hyes hno
          cases t with
          | true =>
            have hst := Lib.hid (hyes.out rfl)
            clear hyes hno
            go_wp2_with (at_builtin; refine wpList_append_own _ rfl _ _ 24 rfl V.heap.size 3 j0 (.int .i64 0) 1 8 Tryd.underlying24 hj hy0 hy1 hy2 rfl (by decide) _ _ _ rfl (hrow'.alloc _) ⟨wr.heap.size, 0, none⟩ 1 1 [.int .i64 (j : Int)] rfl rfl (cell_one_new _ _ _) (ints_one _) (by unfold maxLen; omega) (by omega) (by simp; have := hsz.out; omega) ?_; intro v' w1 hown' hgrow _)
            have hne : ∀ g, Value.ownBlock _ = some g → V.heap.size ≤ g := fun g hg => ((hrow'.lt) g hg).1
            have hBB := Lib.hid ((hB.out.alloc hB.out.size (.cells #[.int .i64 (j : Int)] 3)).grown hgrow (by simp; have := hB.out.size; omega) (fun g hg => hne g hg))
            go_roundw
            case rel => exact ⟨j + 1, by omega, by go_num, by rw [hst.out, List.length_append, List.map_append]; exact hown', hBB⟩
            case measure => simp [intOf]; omega
          | false =>
            have hst := Lib.hid (hno.out rfl)
            clear hyes hno
            go_wp2
            go_roundw
            case rel => exact ⟨j + 1, by omega, by go_num, by rw [hst.out]; exact hrow, hB⟩
            case measure => simp [intOf]; omega
        · have hjd : decide ((j : Int) < 256) = false := by simp; omega
          obtain rfl : j = 256 := by omega
          have hin := Lib.hid (ints_of_row (zs := (upB B k 256).map Int.ofNat) hrow.out (by rw [List.map_map]; rfl))
          have hul := upB_len B k 256
          obtain ⟨p5, c5, rfl⟩ := row_slice hrow.out
          have hnone := Lib.hid (@setB_none B k)
          have hsome := Lib.hid (@setB_some B k)
          have hmk := mkRes_up B k
          have km := Lib.hid (rmake_any hin.out (by rw [List.length_map]; omega))
          rw [hmk] at km
          clear hin hmk hrow hB hwr hb
          generalize (upB B k 256).length = n at hul hnone hsome km
          by_cases hn : 0 < n
          · have hn1 : decide ((n : Int) > 0) = true := by simp; omega
            have hn2 : decide ((0 : Int) < (n : Int)) = true := by simp; omega
            have hst := Lib.hid (canonTo_more (M := setB B) (k := k) (hsome.out hn))
            clear hnone hsome
            go_wp2_with fail
            refine (km.out).mono ?_
            rintro e W2 ⟨rfl, hb2⟩
            have hA2 := Lib.hid ((hA1.out.later hb2).alloc (.cells #[.int .i64 (best (setB B k)).form, .string (bs (best (setB B k)).data)] 75))
            obtain ⟨d0, d1, -, -⟩ := blk2_cells (CBox.new W2 (best (setB B k)).form (bs (best (setB B k)).data))
            have hol := canonFrom_len (setB B) 0 k
            have hrow := hA2.out.row
            have oc := hA2.out.out.cell
            have of := hA2.out.out.frozen
            have hsz2 := Lib.hid hA2.out.out.lt
            have hch : Hid ((⟨(k : Int), (best (setB B k)).form, bs (best (setB B k)).data⟩ : Ch) = mkCh k (setB B k)) := rfl
            simp only [cv]
            generalize canonFrom (setB B) 0 k = l at hA2 hst hol hrow
            generalize (best (setB B k)).form = f at *
            generalize bs (best (setB B k)).data = D at *
            clear km hb2 hA1 hA
            have hnew := cells_three_new (W2.alloc (.cells #[.int .i64 f, .string D] 75)) (.int .i64 (k : Int)) (.int .i64 f) (.string D) 91
            rw [World.size_alloc] at hnew
            have hnew' := Lib.hid hnew
            clear hnew
            go_wp2_with (at_builtin; refine wpList_append_own _ rfl _ _ 26 rfl (w.heap.size + 2) 91 i0 (.agg #[.int .i64 0, .int .i64 0, .string ⟨#[]⟩]) 3 32 Tryd.underlying26 hi hz0 hz1 hz2 rfl (by decide) _ _ _ rfl (hrow.alloc _) ⟨W2.heap.size + 1, 0, none⟩ 1 1 [.int .i64 (k : Int), .int .i64 f, .string D] rfl rfl hnew'.out (by simp [Value.oneCell']) (by unfold maxLen; omega) (by omega) (by have := hsz2.out; simp at this; simp; omega) ?_; intro v' w1 hown' hgrow _; have oc1 := ((hA2.out.alloc (.cells #[.int .i64 (k : Int), .int .i64 f, .string D] 91)).out.grown hgrow (fun e => by have := (hrow.lt _ e.symm).1; omega)).cell; have of1 := ((hA2.out.alloc (.cells #[.int .i64 (k : Int), .int .i64 f, .string D] 91)).out.grown hgrow (fun e => by have := (hrow.lt _ e.symm).1; omega)).frozen; obtain ⟨g', cap', rfl⟩ := ownsRow_succ hown')
            go_roundw
            case rel => exact ⟨k + 1, _, by omega, by go_num, Lib.hid (by rw [hst.out, ← hch.out]; exact (hA2.out.alloc (.cells #[.int .i64 (k : Int), .int .i64 f, .string D] 91)).appended ⟨k, f, D⟩ hown' hgrow)⟩
            case measure => simp [intOf]; omega
          · have hn1 : decide ((n : Int) > 0) = false := by simp; omega
            have hn2 : decide ((0 : Int) < (n : Int)) = false := by simp; omega
            have hst := Lib.hid (canonTo_none (M := setB B) (k := k) (hnone.out (by omega)))
            clear hnone hsome km
            go_wp2
            go_roundw
            case rel => exact ⟨k + 1, _, by omega, by go_num, by rw [hst.out]; exact hA1⟩
            case measure => simp [intOf]; omega
    · have hkd : decide ((k : Int) < 256) = false := by simp; omega
      obtain rfl : k = 256 := by omega
      have oc := hA.out.out.cell
      have rc := hA.out.res.cell
      have rf := hA.out.res.frozen
      have hfin := HC.of_row hA.out.row
      obtain ⟨p, cap, rfl, -, -⟩ := Hid.out hfin
      have hfin' := Lib.hid hfin
      clear hfin
      go_wp2
      refine bodyPost_ret (v := .agg #[.slice p (canonFrom (setB B) 0 256).length cap]) ?_ rfl ⟨_, rfl, ?_, hA.out.below.setCell (p := ⟨w.heap.size, 0, none⟩) (Nat.le_refl _) _, fun g hg => by have := (hA.out.row.lt g hg).1; omega⟩
      case refine_2 => exact HC.of_row ((hA.out.row).kept (grown_cell V ⟨w.heap.size, 0, none⟩ _) (by
        cases hv : Value.ownBlock (.slice p (canonFrom (setB B) 0 256).length cap) with
        | none => left; rfl
        | some g => right; have := (hA.out.row.lt g hv).1; simp; omega))
      have hrs := (hA.out.res.set (.slice p (canonFrom (setB B) 0 256).length cap)).cell
      simp [results, Tryd.results85, go_sem, hrs]
theorem rof_any {B : Nat → Bool} {g : Nat} {w : World} (h : Bo w g B) :
    Calls Tryd.prog 85 #[.slice (some ⟨g, 0, none⟩) 65536 65536] w fun e W' => ∃ v, e = .returned (.agg #[v]) ∧ HC W' v (ofB B) ∧ Below w.heap.size w W' :=
  (rof_fr h).mono fun _ _ ⟨v, h1, h2, h3, _⟩ => ⟨v, h1, h2, h3⟩
end Go.Proofs.YtnigpmbpipmgfaaDoor
