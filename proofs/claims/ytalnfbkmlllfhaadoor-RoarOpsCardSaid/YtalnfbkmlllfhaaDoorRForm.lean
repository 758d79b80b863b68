/-
  The reference's form: a set's bytes in a form.
-/
import Derived.Test.YtalnfbkmlllfhaaDoorRSet
namespace Go.Proofs.YtalnfbkmlllfhaaDoor
open Go.RowKit Go.Shelf Tess

/-- The numbers below k. -/
def numsUp (s k : Nat) : List Nat := (List.range k).filter fun n => s.testBit n
theorem numsUp_all (s : Nat) : numsUp s 256 = nums s := rfl
theorem numsUp_yes {s k : Nat} (h : s.testBit k = true) : numsUp s (k + 1) = numsUp s k ++ [k] := by
  unfold numsUp; rw [List.range_succ, List.filter_append]; simp [h]
theorem numsUp_no {s k : Nat} (h : s.testBit k = false) : numsUp s (k + 1) = numsUp s k := by
  unfold numsUp; rw [List.range_succ, List.filter_append]; simp [h]
theorem numsUp_len (s k : Nat) : (numsUp s k).length ≤ k := by
  have := List.length_filter_le (fun n => s.testBit n) (List.range k)
  simpa [numsUp] using this
theorem numsUp_lt {s k : Nat} : ∀ x ∈ numsUp s k, x < k := by
  intro x hx
  simpa using (List.mem_filter.1 hx).1
/-- The last number below k + 1 is k just if k is there. -/
theorem last_up (s k : Nat) : ((k : Int) = (runsOf (numsUp s k)).2 + 1) ↔ (0 < k ∧ s.testBit (k - 1) = true) := by
  rw [runsOf_last]
  cases k with
  | zero => simp [numsUp]
  | succ k =>
    by_cases hb : s.testBit k = true
    · rw [numsUp_yes hb]
      simp [hb]
    · have hb' : s.testBit k = false := by simpa using hb
      rw [numsUp_no hb']
      simp only [Nat.add_sub_cancel, hb', Bool.false_eq_true, and_false, iff_false]
      split
      · omega
      · rename_i hne
        have := numsUp_lt _ (List.getLast_mem hne)
        rw [List.getLast?_eq_some_getLast hne, Option.getD_some]
        omega

/-- What lies in memory while form works. -/
structure FormAt (w W : World) (s : Nat) : Prop where
  res : W.heap[w.heap.size + 1]? = some (.cells #[.int .i64 0, .string ⟨#[]⟩] 57 (0, 0))
  arr : Arr W w.heap.size s
  below : Below w.heap.size w W
theorem FormAt.grown {w wr W : World} {s : Nat} {row : Option Nat} (h : FormAt w wr s) (hg : wr.grownBy W row) (hr : ∀ g, row = some g → w.heap.size + 2 ≤ g) : FormAt w W s :=
  ⟨(hg.block _ (lt_of_heap h.res) (fun e => by have := hr _ e.symm; omega)).trans h.res, h.arr.grown hg (fun e => by have := hr _ e.symm; omega), h.below.grown hg h.below.size (fun g e => by have := hr g e; omega)⟩
theorem FormAt.alloc {w wr : World} {s : Nat} (h : FormAt w wr s) (o : Obj) : FormAt w (wr.alloc o) s :=
  ⟨(Below.heap_alloc _ _ _ (lt_of_heap h.res)).trans h.res, h.arr.alloc _, h.below.alloc h.below.size _⟩

set_option maxRecDepth 100000 in
set_option maxHeartbeats 4000000 in
theorem form_array (s : Nat) (w : World) :
    Calls Tryd.prog 105 #[.agg (bc s), .int .i64 1] w fun e W' => e = .returned (cv 1 (nums s)) ∧ Below w.heap.size w W' := by
  obtain ⟨i0, hi, hz0, hz1, hz2⟩ := info_parts info_u8
  have hA : Hid (FormAt w ((w.alloc (.cells (bc s) 118)).alloc (.cells #[.int .i64 0, .string ⟨#[]⟩] 57)) s) :=
    ⟨by have := heap_alloc_new (w.alloc (.cells (bc s) 118)) (.cells #[.int .i64 0, .string ⟨#[]⟩] 57); rwa [World.size_alloc] at this,
      (Arr.new w s).alloc _, ((Below.refl _ w).alloc (Nat.le_refl _) _).alloc (by simp) _⟩
  go_enter Tryd.func105, Tryd.ntmps105
  go_wp2
  go_loopw [5, 6] (fun v i wr => ∃ k : Nat, k ≤ 256 ∧ i = .int .i64 k ∧ wr.ownsRow (w.heap.size + 2) 5 1 v (numsUp s k).length ((numsUp s k).map bv) ∧ Hid (FormAt w wr s))
    (fun _ i _ => 256 - (intOf i).toNat)
  case atStart => exact ⟨0, by omega, rfl, World.ownsRow_nil _ _ _ _, hA⟩
  case round =>
    obtain ⟨k, hk, rfl, hrow, hM⟩ := hrel
    clear hA
    have hnl := numsUp_len s k
    by_cases hlt : k < 256
    · have hkd : decide ((k : Int) < 256) = true := by simp; omega
      have hk0 : (0 : Int) ≤ (k : Int) := by omega
      have hk1 : (k : Int) < 256 := by omega
      have hct := hM.out.arr.cell hlt
      cases hb : s.testBit k with
      | true =>
        rw [hb] at hct
        have hup := Lib.hid (numsUp_yes hb)
        have hxb : IntKind.u8.wrap (k : Int) = (k : Int) := by rw [IntKind.wrap_u8']; omega
        go_wp2_with (at_builtin; refine wpList_append_own _ rfl _ _ 85 rfl (w.heap.size + 2) 5 i0 (.int .u8 0) 1 1 Tryd.underlying85 hi hz0 hz1 hz2 rfl (by decide) _ _ _ rfl (hrow.alloc _) ⟨wr.heap.size, 0, none⟩ 1 1 [.int .u8 (k : Int)] rfl rfl (cell_one_new _ _ _) (by simp [Value.oneCell']) (by unfold maxLen; omega) (by omega) (by have := lt_of_heap hM.out.res; simp; omega) ?_; intro v' w1 hown' hgrow _; obtain ⟨g', cap', rfl⟩ := ownsRow_succ hown')
        have hM2 := Lib.hid ((hM.out.alloc (.cells #[.int .u8 (k : Int)] 5)).grown hgrow (fun g hg => (hrow.lt g hg).1))
        go_roundw
        case rel => exact ⟨k + 1, by omega, by go_num, by rw [hup.out, List.length_append, List.map_append]; exact hown', hM2⟩
        case measure => simp [intOf]; omega
      | false =>
        rw [hb] at hct
        have hup := Lib.hid (numsUp_no hb)
        go_wp2
        go_roundw
        case rel => exact ⟨k + 1, by omega, by go_num, by rw [hup.out]; exact hrow, hM⟩
        case measure => simp [intOf]; omega
    · have hkd : decide ((k : Int) < 256) = false := by simp; omega
      obtain rfl : k = 256 := by omega
      rw [numsUp_all] at hrow
      have hsv := string_back Tryd.underlying85 Tryd.underlying5 Tryd.underlying9 hrow (fun x hx => (mem_nums.1 hx).1)
      obtain ⟨r0, r1, f0, f1⟩ := blk2_cells hM.out.res
      go_wp2
      have hrs := blk2_cells (heap_set2 hM.out.res (.int .i64 1) (.string (bs (nums s))))
      refine bodyPost_ret (v := cv 1 (nums s)) ?_ rfl ⟨rfl, (hM.out.below.setCell (p := ⟨w.heap.size + 1, 0, none⟩) (Nat.le_succ _) _).setCell (p := ⟨w.heap.size + 1, 1, none⟩) (Nat.le_succ _) _⟩
      simp [results, Tryd.results105, go_sem, cv, hrs.1, hrs.2.1]

set_option maxRecDepth 100000 in
set_option maxHeartbeats 8000000 in
theorem form_runs (s : Nat) (w : World) :
    Calls Tryd.prog 105 #[.agg (bc s), .int .i64 3] w fun e W' => e = .returned (cv 3 (runs s)) ∧ Below w.heap.size w W' := by
  obtain ⟨i0, hi, hz0, hz1, hz2⟩ := info_parts info_u8
  have hA : Hid (FormAt w ((w.alloc (.cells (bc s) 118)).alloc (.cells #[.int .i64 0, .string ⟨#[]⟩] 57)) s) :=
    ⟨by have := heap_alloc_new (w.alloc (.cells (bc s) 118)) (.cells #[.int .i64 0, .string ⟨#[]⟩] 57); rwa [World.size_alloc] at this,
      (Arr.new w s).alloc _, ((Below.refl _ w).alloc (Nat.le_refl _) _).alloc (by simp) _⟩
  go_enter Tryd.func105, Tryd.ntmps105
  go_wp2
  go_loopw [5, 8] (fun v i wr => ∃ k : Nat, k ≤ 256 ∧ i = .int .i64 k ∧ wr.ownsRow (w.heap.size + 2) 5 1 v (runsOf (numsUp s k)).1.length ((runsOf (numsUp s k)).1.map bv) ∧ Hid (FormAt w wr s))
    (fun _ i _ => 256 - (intOf i).toNat)
  case atStart => exact ⟨0, by omega, rfl, World.ownsRow_nil _ _ _ _, hA⟩
  case round =>
    obtain ⟨k, hk, rfl, hrow, hM⟩ := hrel
    clear hA
    have hrl := runsOf_length (numsUp s k)
    have hnl := numsUp_len s k
    by_cases hlt : k < 256
    · have hkd : decide ((k : Int) < 256) = true := by simp; omega
      have hk0 : (0 : Int) ≤ (k : Int) := by omega
      have hk1 : (k : Int) < 256 := by omega
      have hct := hM.out.arr.cell hlt
      cases hb : s.testBit k with
      | false =>
        rw [hb] at hct
        have hup := Lib.hid (numsUp_no hb)
        go_wp2
        go_roundw
        case rel => exact ⟨k + 1, by omega, by go_num, by rw [hup.out]; exact hrow, hM⟩
        case measure => simp [intOf]; omega
      | true =>
        rw [hb] at hct
        have hup := numsUp_yes hb
        have hlast := last_up s k
        have hpair := fun h => runsOf_two (l := numsUp s k) h
        have hempty : numsUp s k = [] → (runsOf (numsUp s k)).2 = -2 := fun h => by rw [h]; rfl
        have hst : ∀ (R : List Nat × Int), R = runsOf (numsUp s k) → runsOf (numsUp s (k + 1)) = runStep R k := fun R e => by rw [hup, runsOf_snoc, e]
        have hxb : IntKind.u8.wrap (k : Int) = (k : Int) := by rw [IntKind.wrap_u8']; omega
        generalize runsOf (numsUp s k) = R at hrow hrl hlast hpair hempty hst
        obtain ⟨o, last⟩ := R
        have hst := hst _ rfl
        simp only at hrow hrl hlast hpair hempty hst
        by_cases hc : 0 < k ∧ s.testBit (k - 1) = true
        · obtain ⟨k', rfl⟩ : ∃ k', k = k' + 1 := ⟨k - 1, by omega⟩
          have he : (((k' + 1 : Nat) : Int)) = last + 1 := hlast.2 hc
          have hb2 : s.testBit k' = true := by simpa using hc.2
          have hct2 := hM.out.arr.cell (i := k') (by omega)
          rw [hb2] at hct2
          have hne : numsUp s (k' + 1) ≠ [] := fun h => by have := hempty h; omega
          have h2 := hpair hne
          obtain ⟨m, hm⟩ : ∃ m, o.length = m + 1 := ⟨o.length - 1, by omega⟩
          have hstep : runStep (o, last) (k' + 1) = (o.set m ((o[m]?.getD 0 + 1) % 256), ((k' + 1 : Nat) : Int)) := by
            unfold runStep; simp only [he, if_true, hm, Nat.add_sub_cancel]
          rw [hstep] at hst
          rw [hm] at hrow
          obtain ⟨g', cap', rfl⟩ := ownsRow_succ hrow
          have hoc : (o.map bv)[m]? = some (.int .u8 ((o[m]?.getD 0 : Nat) : Int)) := by
            rw [List.getElem?_map, List.getElem?_eq_getElem (by omega)]; simp [bv]
          have hcg := hrow.cellAt m (by omega)
          rw [hoc] at hcg
          have hfg := hrow.frozenAt m
          have hmb : m ≤ 511 := by omega
          have hm' := Lib.hid hm
          have hst' := Lib.hid hst
          have hd0 : decide ((0 : Int) < (k' : Int) + 1) = true := decide_eq_true (by omega)
          have hkk0 : (0 : Int) ≤ (k' : Int) := by omega
          have hkk1 : (k' : Int) < 256 := by omega
          have hmm0 : (0 : Int) ≤ (m : Int) := by omega
          clear he hst hm hoc hstep hempty hpair hne hlast hc hup hb hb2
          generalize hcx : o[m]?.getD 0 = c at hcg
          have hbv : Value.int .u8 (((c : Int) + 1) % 256) = bv ((c + 1) % 256) := by simp [bv]
          have hgb : w.heap.size + 2 ≤ g' := (hrow.lt g' rfl).1
          have hcx' := Lib.hid hcx
          have hbv' := Lib.hid hbv
          clear hcx hbv
          go_wp2
          go_roundw
          case rel =>
            refine ⟨k' + 1 + 1, by omega, by go_num, ?_, Lib.hid (hM.out.grown (hrow.stored m _).2 (fun g hg => by cases hg; exact hgb))⟩
            rw [hst'.out, hcx'.out, List.map_set, ← hbv'.out]
            simp only [List.length_set, hm'.out]
            exact (hrow.stored m _).1
          case measure => simp [intOf]; omega
        · have he : ¬ ((k : Nat) : Int) = last + 1 := fun h => hc (hlast.1 h)
          have hstep : runStep (o, last) k = (o ++ [k, 0], (k : Int)) := by
            unfold runStep; simp only [he, if_false]
          rw [hstep] at hst
          have hst' := Lib.hid hst
          have hob : o.length ≤ 512 := by omega
          by_cases hk00 : k = 0
          · subst hk00
            clear he hst hstep hempty hpair hlast hc hup
            go_wp2_with (at_builtin; refine wpList_append_own _ rfl _ _ 85 rfl (w.heap.size + 2) 5 i0 (.int .u8 0) 1 1 Tryd.underlying85 hi hz0 hz1 hz2 rfl (by decide) _ _ _ rfl (hrow.alloc _) ⟨wr.heap.size, 0, none⟩ 2 2 [.int .u8 0, .int .u8 0] rfl rfl (cells_two_new _ _ _ _) (by simp [Value.oneCell']) (by unfold maxLen; omega) (by omega) (by have := lt_of_heap hM.out.res; simp; omega) ?_; intro v' w1 hown' hgrow _; obtain ⟨g', cap', rfl⟩ := ownsRow_succ hown')
            have hM2 := Lib.hid ((hM.out.alloc (.cells #[.int .u8 0, .int .u8 0] 5)).grown hgrow (fun g hg => (hrow.lt g hg).1))
            go_roundw
            case rel =>
              refine ⟨0 + 1, by omega, by go_num, ?_, hM2⟩
              rw [hst'.out]
              simp only [List.length_append, List.length_cons, List.length_nil, List.map_append, List.map_cons, List.map_nil]
              exact hown'
            case measure => simp [intOf]
          · obtain ⟨k', rfl⟩ : ∃ k', k = k' + 1 := ⟨k - 1, by omega⟩
            have hb2 : s.testBit k' = false := by
              cases h : s.testBit k'
              · rfl
              · exact absurd ⟨by omega, by simpa using h⟩ hc
            have hct2 := hM.out.arr.cell (i := k') (by omega)
            rw [hb2] at hct2
            have hd0 : decide ((0 : Int) < (k' : Int) + 1) = true := decide_eq_true (by omega)
            have hkk0 : (0 : Int) ≤ (k' : Int) := by omega
            have hkk1 : (k' : Int) < 256 := by omega
            clear he hst hstep hempty hpair hlast hc hup hb hb2
            go_wp2_with (at_builtin; refine wpList_append_own _ rfl _ _ 85 rfl (w.heap.size + 2) 5 i0 (.int .u8 0) 1 1 Tryd.underlying85 hi hz0 hz1 hz2 rfl (by decide) _ _ _ rfl (hrow.alloc _) ⟨wr.heap.size, 0, none⟩ 2 2 [.int .u8 ((k' : Int) + 1), .int .u8 0] rfl rfl (cells_two_new _ _ _ _) (by simp [Value.oneCell']) (by unfold maxLen; omega) (by omega) (by have := lt_of_heap hM.out.res; simp; omega) ?_; intro v' w1 hown' hgrow _; obtain ⟨g', cap', rfl⟩ := ownsRow_succ hown')
            have hM2 := Lib.hid ((hM.out.alloc (.cells #[.int .u8 ((k' : Int) + 1), .int .u8 0] 5)).grown hgrow (fun g hg => (hrow.lt g hg).1))
            go_roundw
            case rel =>
              refine ⟨k' + 1 + 1, by omega, by go_num, ?_, hM2⟩
              rw [hst'.out]
              simp only [List.length_append, List.length_cons, List.length_nil, List.map_append, List.map_cons, List.map_nil]
              exact hown'
            case measure => simp [intOf]; omega
    · have hkd : decide ((k : Int) < 256) = false := by simp; omega
      obtain rfl : k = 256 := by omega
      have hsm : ∀ x ∈ (runsOf (numsUp s 256)).1, x < 256 := (runsAt s).small
      have hsv := string_back Tryd.underlying85 Tryd.underlying5 Tryd.underlying9 hrow hsm
      obtain ⟨r0, r1, f0, f1⟩ := blk2_cells hM.out.res
      go_wp2
      have hrs := blk2_cells (heap_set2 hM.out.res (.int .i64 3) (.string (bs (runsOf (numsUp s 256)).1)))
      refine bodyPost_ret (v := cv 3 (runs s)) ?_ rfl ⟨rfl, (hM.out.below.setCell (p := ⟨w.heap.size + 1, 0, none⟩) (Nat.le_succ _) _).setCell (p := ⟨w.heap.size + 1, 1, none⟩) (Nat.le_succ _) _⟩
      simp [results, Tryd.results105, go_sem, cv, hrs.1, hrs.2.1]
      try rfl

/-! ## the bits, one by one -/
theorem byteUp_other {s k j : Nat} (h : j ≠ k / 8) : byteAt (s % 2 ^ (k + 1)) j = byteAt (s % 2 ^ k) j := by
  apply Nat.eq_of_testBit_eq
  intro i
  rw [testBit_byteAt, testBit_byteAt, Nat.testBit_mod_two_pow, Nat.testBit_mod_two_pow]
  by_cases hi : i < 8
  · have e : (8 * j + i < k + 1) = (8 * j + i < k) := by
      apply propext
      constructor
      · intro h1; omega
      · intro h1; omega
    simp only [e]
  · simp [hi]
theorem byteUp_low (s k : Nat) : byteAt (s % 2 ^ k) (k / 8) < 2 ^ (k % 8) := by
  refine Nat.lt_pow_two_of_testBit _ fun i hi => ?_
  rw [testBit_byteAt, Nat.testBit_mod_two_pow]
  have : ¬ 8 * (k / 8) + i < k := by omega
  simp [this]
theorem byteUp_yes {s k : Nat} (hb : s.testBit k = true) : byteAt (s % 2 ^ (k + 1)) (k / 8) = byteAt (s % 2 ^ k) (k / 8) + 2 ^ (k % 8) := by
  have h1 := Nat.two_pow_add_eq_or_of_lt (byteUp_low s k) 1
  rw [Nat.mul_one] at h1
  rw [Nat.add_comm (byteAt (s % 2 ^ k) (k / 8)), h1]
  apply Nat.eq_of_testBit_eq
  intro i
  rw [testBit_byteAt, Nat.testBit_or, Nat.testBit_two_pow, testBit_byteAt, Nat.testBit_mod_two_pow, Nat.testBit_mod_two_pow]
  by_cases hi : i < 8
  · by_cases he : i = k % 8
    · have e1 : 8 * (k / 8) + i = k := by omega
      have e2 : k % 8 = i := he.symm
      simp [e1, e2, hb, hi]
    · have e2 : ¬ k % 8 = i := fun e => he e.symm
      have e : (8 * (k / 8) + i < k + 1) = (8 * (k / 8) + i < k) := by
        apply propext
        constructor
        · intro h1; omega
        · intro h1; omega
      simp only [e, e2, decide_false, Bool.false_or]
  · have e2 : ¬ k % 8 = i := by omega
    simp [hi, e2]
theorem byteUp_lt (s k : Nat) : byteAt (s % 2 ^ k) (k / 8) + 2 ^ (k % 8) < 256 := by
  have h1 := byteUp_low s k
  have h2 : (2 : Nat) ^ (k % 8 + 1) ≤ 2 ^ 8 := Nat.pow_le_pow_right (by decide) (by omega)
  rw [Nat.pow_succ] at h2
  omega
theorem rawUp_yes {s k : Nat} (hk : k < 256) (hb : s.testBit k = true) : raw (s % 2 ^ (k + 1)) = (raw (s % 2 ^ k)).set (k / 8) (byteAt (s % 2 ^ k) (k / 8) + 2 ^ (k % 8)) := by
  apply List.ext_getElem?
  intro j
  rw [List.getElem?_set]
  by_cases hj : k / 8 = j
  · subst hj
    have h32 : k / 8 < 32 := by omega
    simp [raw, h32, byteUp_yes hb]
  · rw [if_neg hj]
    by_cases h32 : j < 32
    · simp [raw, h32, byteUp_other (Ne.symm hj)]
    · simp [raw, h32]
theorem rawUp_no {s k : Nat} (hb : s.testBit k = false) : raw (s % 2 ^ (k + 1)) = raw (s % 2 ^ k) := by
  have : s % 2 ^ (k + 1) = s % 2 ^ k := by
    apply Nat.eq_of_testBit_eq
    intro i
    rw [Nat.testBit_mod_two_pow, Nat.testBit_mod_two_pow]
    by_cases he : i = k
    · subst he; simp [hb]
    · have e : (i < k + 1) = (i < k) := by
        apply propext
        constructor
        · intro h1; omega
        · intro h1; omega
      simp only [e]
  rw [this]
theorem rawUp_zero (s : Nat) : raw (s % 2 ^ 0) = raw 0 := by rw [Nat.pow_zero, Nat.mod_one]
theorem rawUp_all (s : Nat) : raw (s % 2 ^ 256) = raw s := by
  unfold raw
  refine List.map_congr_left fun j hj => ?_
  have h32 : j < 32 := by simpa using hj
  apply Nat.eq_of_testBit_eq
  intro i
  rw [testBit_byteAt, testBit_byteAt, Nat.testBit_mod_two_pow]
  by_cases hi : i < 8
  · have : 8 * j + i < 256 := by omega
    simp [this]
  · simp [hi]
theorem mk32 (w : World) : (Instr.makeSlice 85 (.int .i64 32) (.int .i64 32)).run Tryd.prog w = .ok (.slice (some ⟨w.heap.size, 0, none⟩) 32 32) (w.alloc (.cells ((raw 0).map bv).toArray 5)) := by kernel_rfl

set_option maxRecDepth 100000 in
set_option maxHeartbeats 4000000 in
theorem form_raw (s : Nat) (w : World) :
    Calls Tryd.prog 105 #[.agg (bc s), .int .i64 2] w fun e W' => e = .returned (cv 2 (raw s)) ∧ Below w.heap.size w W' := by
  have hmk := mk32
  obtain ⟨w2, hw2⟩ : ∃ w2, w2 = ((w.alloc (.cells (bc s) 118)).alloc (.cells #[.int .i64 0, .string ⟨#[]⟩] 57)) := ⟨_, rfl⟩
  have hs2 : w2.heap.size = w.heap.size + 2 := by rw [hw2]; simp
  have hA : FormAt w w2 s := by
    rw [hw2]
    exact ⟨by have := heap_alloc_new (w.alloc (.cells (bc s) 118)) (.cells #[.int .i64 0, .string ⟨#[]⟩] 57); rwa [World.size_alloc] at this,
      (Arr.new w s).alloc _, ((Below.refl _ w).alloc (Nat.le_refl _) _).alloc (by simp) _⟩
  have hA2 := Lib.hid (hA.alloc (.cells ((raw 0).map bv).toArray 5))
  have hrow0 : (w2.alloc (.cells ((raw 0).map bv).toArray 5)).ownsRow (w.heap.size + 2) 5 1 (.slice (some ⟨w.heap.size + 2, 0, none⟩) 32 32) 32 ((raw 0).map bv) := by
    have := World.ownsRow_lit (base := w.heap.size + 2) (e := 5) (size := 1) w2 ((raw 0).map bv).toArray 32 (by omega) (by decide) (by simp [raw])
    rw [hs2] at this
    exact this
  go_enter Tryd.func105, Tryd.ntmps105
  go_wp2
  rw [← hw2]
  clear hw2 hA hmk
  go_loopw [7] (fun i wr => ∃ k : Nat, k ≤ 256 ∧ i = .int .i64 k ∧ wr.ownsRow (w.heap.size + 2) 5 1 (.slice (some ⟨w.heap.size + 2, 0, none⟩) 32 32) 32 ((raw (s % 2 ^ k)).map bv) ∧ Hid (FormAt w wr s))
    (fun i _ => 256 - (intOf i).toNat)
  case atStart => exact ⟨0, by omega, rfl, by rw [rawUp_zero]; exact hrow0, hA2⟩
  case round =>
    obtain ⟨k, hk, rfl, hrow, hM⟩ := hrel
    clear hA2 hrow0
    by_cases hlt : k < 256
    · have hkd : decide ((k : Int) < 256) = true := by simp; omega
      have hk0 : (0 : Int) ≤ (k : Int) := by omega
      have hk1 : (k : Int) < 256 := by omega
      have hct := hM.out.arr.cell hlt
      cases hb : s.testBit k with
      | false =>
        rw [hb] at hct
        have hup := Lib.hid (rawUp_no hb)
        go_wp2
        go_roundw
        case rel => exact ⟨k + 1, by omega, by go_num, by rw [hup.out]; exact hrow, hM⟩
        case measure => simp [intOf]; omega
      | true =>
        rw [hb] at hct
        have hup := Lib.hid (rawUp_yes hlt hb)
        have hcg := hrow.cellAt (k / 8) (by omega)
        have hrl : (raw (s % 2 ^ k))[k / 8]? = some (byteAt (s % 2 ^ k) (k / 8)) := by
          rw [List.getElem?_eq_getElem (by rw [raw_length]; omega)]; simp [raw]
        rw [List.getElem?_map, hrl] at hcg
        simp only [Option.map_some, bv] at hcg
        have hfg := hrow.frozenAt (k / 8)
        have hbl := byteUp_lt s k
        have hq0 : (0 : Int) ≤ (k : Int) / 8 := by omega
        have hq1 : (k : Int) / 8 < 32 := by omega
        clear hrl hb
        generalize byteAt (s % 2 ^ k) (k / 8) = x at hup hcg hbl
        have hval : Hid (Value.int .u8 (((x : Int) + 2 ^ (k % 8)) % 256) = bv (x + 2 ^ (k % 8))) := by
          show _ = _
          unfold bv
          rw [show ((2 : Int) ^ (k % 8)) = ((2 ^ (k % 8) : Nat) : Int) from by rw [Int.natCast_pow]; rfl, ← Int.natCast_add, show (256 : Int) = ((256 : Nat) : Int) from rfl, ← Int.natCast_emod, Nat.mod_eq_of_lt hbl]
        go_wp2
        go_region
        all_goals
          go_wp2
          go_roundw
          case rel =>
            refine ⟨k + 1, by omega, by go_num, ?_, Lib.hid (hM.out.grown (grown_set _ _ _ _) (fun g hg => by cases hg; exact Nat.le_refl _))⟩
            rw [hup.out, List.map_set, ← hval.out]
            exact (hrow.stored (k / 8) _).1.drew
          case measure => simp [intOf]; omega
    · have hkd : decide ((k : Int) < 256) = false := by simp; omega
      obtain rfl : k = 256 := by omega
      rw [rawUp_all] at hrow
      have hrow' : wr.ownsRow (w.heap.size + 2) 5 1 (.slice (some ⟨w.heap.size + 2, 0, none⟩) 32 32) (raw s).length ((raw s).map bv) := by rw [raw_length]; exact hrow
      have hsv := string_back Tryd.underlying85 Tryd.underlying5 Tryd.underlying9 hrow' (raw_lt s)
      obtain ⟨r0, r1, f0, f1⟩ := blk2_cells hM.out.res
      clear hrow'
      go_wp2
      have hrs := blk2_cells (heap_set2 hM.out.res (.int .i64 2) (.string (bs (raw s))))
      refine bodyPost_ret (v := cv 2 (raw s)) ?_ rfl ⟨rfl, (hM.out.below.setCell (p := ⟨w.heap.size + 1, 0, none⟩) (Nat.le_succ _) _).setCell (p := ⟨w.heap.size + 1, 1, none⟩) (Nat.le_succ _) _⟩
      simp [results, Tryd.results105, go_sem, cv, hrs.1, hrs.2.1]

/-- **form(s, f)**, of the three forms. -/
theorem form_any {s : Nat} {f : Int} {d : List Nat} (h : asOf s f = some d) (w : World) :
    Calls Tryd.prog 105 #[.agg (bc s), .int .i64 f] w fun e W' => e = .returned (cv f d) ∧ Below w.heap.size w W' := by
  unfold asOf at h
  split at h
  · rename_i hf; subst hf; obtain rfl := Option.some.inj h; exact form_array s w
  · split at h
    · rename_i hf; subst hf; obtain rfl := Option.some.inj h; exact form_raw s w
    · split at h
      · rename_i hf; subst hf; obtain rfl := Option.some.inj h; exact form_runs s w
      · cases h
end Go.Proofs.YtalnfbkmlllfhaaDoor
