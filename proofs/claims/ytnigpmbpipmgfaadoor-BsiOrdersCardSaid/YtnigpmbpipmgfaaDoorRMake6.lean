/-
  The reference's Make of a container.
-/
import Derived.Test.YtnigpmbpipmgfaaDoorRefC
import Derived.Test.YtnigpmbpipmgfaaDoorInts7
namespace Go.Proofs.YtnigpmbpipmgfaaDoor
open Go.RowKit Tess

/-- A result's box ahead of 256 truths. -/
structure MAt (w W : World) (s : Nat) : Prop where
  res : W.heap[w.heap.size]? = some (.cells #[.int .i64 0, .string ⟨#[]⟩] 75 (0, 0))
  set : Arr W (w.heap.size + 1) s
  below : Below w.heap.size w W
theorem MAt.put {w W : World} {s s' i : Nat} {v : Bool} (h : MAt w W s) (hi : i < 256) (hs : ∀ j, j < 256 → s'.testBit j = if j = i then v else s.testBit j) :
    MAt w (W.setCell ⟨w.heap.size + 1, i, none⟩ (.bool v)) s' :=
  ⟨(Below.heap_setCell W ⟨w.heap.size + 1, i, none⟩ _ _ (by show w.heap.size ≠ w.heap.size + 1; omega)).trans h.res, h.set.set_ hi hs, h.below.setCell (p := ⟨w.heap.size + 1, i, none⟩) (by show w.heap.size ≤ w.heap.size + 1; omega) _⟩
theorem MAt.later {w wr W : World} {s : Nat} (h : MAt w wr s) (hb : Below wr.heap.size wr W) : MAt w W s :=
  ⟨(hb.block _ (lt_of_heap h.res)).trans h.res, h.set.later hb, h.below.trans (hb.mono h.below.size)⟩
theorem MAt.set2 {w W : World} {s : Nat} (h : MAt w W s) (a b : Value) : Below w.heap.size w ((W.setCell ⟨w.heap.size, 0, none⟩ a).setCell ⟨w.heap.size, 1, none⟩ b) :=
  (h.below.setCell (p := ⟨w.heap.size, 0, none⟩) (Nat.le_refl _) _).setCell (p := ⟨w.heap.size, 1, none⟩) (Nat.le_refl _) _
theorem mkSet_step {zs : List Int} {k : Nat} (h : k < zs.length) : mkSet (zs.take (k + 1)) = put (mkSet (zs.take k)) (zs[k]?.getD 0).toNat := by
  unfold mkSet
  rw [List.take_succ_eq_append_getElem h, List.map_append]
  simp [putAll, h]
theorem bad_step {zs : List Int} {k : Nat} (h : k < zs.length) : (zs.take (k + 1)).any badI = ((zs.take k).any badI || badI (zs[k]?.getD 0)) := by
  rw [List.take_succ_eq_append_getElem h, List.any_append]; simp [h]
theorem mkRes_bad {zs : List Int} (h : zs.any badI = true) : mkRes zs = (⟨0, []⟩, 60) := by unfold mkRes; rw [if_pos h]
theorem mkRes_good {zs : List Int} (h : zs.any badI = false) : mkRes zs = (best (mkSet zs), 0) := by unfold mkRes; rw [h]; rfl

set_option maxRecDepth 100000 in
set_option maxHeartbeats 4000000 in
theorem rmake_any {zs : List Int} {sv : Value} {w : World} (h : Ints w.heap.size w sv zs) (hl : zs.length ≤ 1000000) :
    Calls Tryd.prog 105 #[sv] w fun e W' => e = .returned (.tuple #[cv (mkRes zs).1.form (mkRes zs).1.data, .int .i64 (mkRes zs).2]) ∧ Below w.heap.size w W' := by
  have hz := zeroArr
  have hA : Hid (MAt w ((w.alloc (.cells #[.int .i64 0, .string ⟨#[]⟩] 75)).alloc (.cells (bc 0) 149)) 0) :=
    ⟨CBox.alloc (CBox.new w 0 ⟨#[]⟩) _, by have := Arr.new (w.alloc (.cells #[.int .i64 0, .string ⟨#[]⟩] 75)) 0; rwa [World.size_alloc] at this, ((Below.refl _ w).alloc (Nat.le_refl _) _).alloc (by simp) _⟩
  obtain ⟨p, cap, rfl, hcell⟩ := h.slice
  have hc := Lib.hid hcell
  clear h hcell
  go_enter Tryd.func105, Tryd.ntmps105
  go_wp2
  go_loopw [5] (fun i wr => ∃ k : Nat, k ≤ zs.length ∧ i = .int .i64 k ∧ Hid ((zs.take k).any badI = false) ∧ Hid (MAt w wr (mkSet (zs.take k))))
    (fun i _ => zs.length - (intOf i).toNat)
  case atStart => exact ⟨0, Nat.zero_le _, rfl, by show _ = _; simp, hA⟩
  case round =>
    obtain ⟨k, hk, rfl, hgood, hM⟩ := hrel
    clear hA hz
    by_cases hlt : k < zs.length
    · obtain ⟨b1, o1, rfl, hb1, hx1⟩ := hc.out k hlt
      have hy1 := (hM.out.below.cell (p := ⟨b1, o1 + k, none⟩) hb1).trans hx1
      have hkd : decide (k < zs.length) = true := by simpa using hlt
      have hk0 : (0 : Int) ≤ (k : Int) := by omega
      have hk1 : (k : Int) < (zs.length : Int) := by omega
      have hbs := Lib.hid (bad_step hlt)
      have hms := Lib.hid (mkSet_step hlt)
      have hin : Hid (badI (zs[k]?.getD 0) = true → zs.any badI = true) := by
        show _ → _
        intro h
        exact List.any_eq_true.2 ⟨zs[k], List.getElem_mem hlt, by simpa [hlt] using h⟩
      clear hx1
      generalize zs[k]?.getD 0 = z at hy1 hbs hms hin
      by_cases h1 : z < 0
      · have g1 : decide (z < 0) = true := decide_eq_true h1
        have hre := Lib.hid (mkRes_bad (hin.out (by unfold badI; rw [g1]; rfl)))
        obtain ⟨r0, r1, p0, p1⟩ := blk2_cells hM.out.res
        go_wp2
        have hrs := blk2_cells (heap_set2 hM.out.res (.int .i64 0) (.string ⟨#[]⟩))
        refine bodyPost_ret (v := .tuple #[cv 0 [], .int .i64 60]) ?_ rfl ⟨by rw [hre.out], hM.out.set2 _ _⟩
        simp [results, Tryd.results105, go_sem, cv, hrs.1, hrs.2.1]
        try rfl
      · have g1 : decide (z < 0) = false := decide_eq_false h1
        by_cases h2 : 255 < z
        · have g2 : decide (255 < z) = true := decide_eq_true h2
          have hre := Lib.hid (mkRes_bad (hin.out (by unfold badI; rw [g1, decide_eq_true (show 256 ≤ z by omega)]; rfl)))
          obtain ⟨r0, r1, p0, p1⟩ := blk2_cells hM.out.res
          go_wp2
          have hrs := blk2_cells (heap_set2 hM.out.res (.int .i64 0) (.string ⟨#[]⟩))
          refine bodyPost_ret (v := .tuple #[cv 0 [], .int .i64 60]) ?_ rfl ⟨by rw [hre.out], hM.out.set2 _ _⟩
          simp [results, Tryd.results105, go_sem, cv, hrs.1, hrs.2.1]
          try rfl
        · obtain ⟨m, rfl⟩ : ∃ m : Nat, z = m := ⟨z.toNat, by omega⟩
          have g2 : decide (255 < (m : Int)) = false := decide_eq_false h2
          have g1' : decide ((m : Int) < 0) = false := g1
          have hm : m < 256 := by omega
          have hm' := Lib.hid hm
          have hm0 : (0 : Int) ≤ (m : Int) := by omega
          have hm1 : (m : Int) < 256 := by omega
          have hb' : Hid ((zs.take (k + 1)).any badI = false) := by
            show _ = _
            rw [hbs.out, hgood.out]; unfold badI; simp; omega
          have hct := hM.out.set.cell hm
          have hft := hM.out.set.frozen m
          clear hbs hin g1
          go_wp2
          go_roundw
          case rel => exact ⟨k + 1, by omega, by go_num, hb', by rw [hms.out]; exact hM.out.put hm'.out (put_bits _ _)⟩
          case measure => simp [intOf]; omega
    · have hkd : decide (k < zs.length) = false := by simpa using hlt
      have htk : zs.take k = zs := List.take_of_length_le (by omega)
      rw [htk] at hgood hM
      have hre := Lib.hid (mkRes_good hgood.out)
      generalize mkSet zs = t at hM hre
      have hkb := Lib.hid (rbest_any t wr)
      clear htk
      go_wp2
      refine Arr.wpLoad hM.out.set _ rfl rfl ?_
      go_wp2_with fail
      refine (hkb.out).mono ?_
      rintro e W3 ⟨rfl, hb3⟩
      have hM3 := Lib.hid (hM.out.later hb3)
      obtain ⟨r0, r1, f0, f1⟩ := blk2_cells hM3.out.res
      simp only [cv]
      go_wp2
      have hrs := blk2_cells (heap_set2 hM3.out.res (.int .i64 (best t).form) (.string (bs (best t).data)))
      refine bodyPost_ret (v := .tuple #[cv (best t).form (best t).data, .int .i64 0]) ?_ rfl ⟨by rw [hre.out], hM3.out.set2 _ _⟩
      simp [results, Tryd.results105, go_sem, cv, hrs.1, hrs.2.1]
end Go.Proofs.YtnigpmbpipmgfaaDoor
