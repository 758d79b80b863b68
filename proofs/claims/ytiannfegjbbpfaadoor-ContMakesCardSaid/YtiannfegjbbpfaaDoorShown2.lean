/-
  shown: the law's own example.
-/
import Derived.Test.YtiannfegjbbpfaaDoorShown
namespace Go.Proofs.YtiannfegjbbpfaaDoor
open Go.RowKit Tess

theorem info_int : (Tryd.prog.info? 3).map (fun i => (i.zero, i.size, i.bytes)) = some (some (.int .i64 0), 1, 8) := by kernel_rfl
/-- A container in a box of its own. -/
def CBox (W : World) (b : Nat) (f : Int) (D : ByteArray) : Prop := W.heap[b]? = some (.cells #[.int .i64 f, .string D] 25 (0, 0))
theorem CBox.new (W : World) (f : Int) (D : ByteArray) : CBox (W.alloc (.cells #[.int .i64 f, .string D] 25)) W.heap.size f D := heap_alloc_new W _
theorem CBox.lt {W : World} {b : Nat} {f : Int} {D : ByteArray} (h : CBox W b f D) : b < W.heap.size := lt_of_heap h
theorem CBox.below {W W' : World} {b B : Nat} {f : Int} {D : ByteArray} (h : CBox W b f D) (hb : Below B W W') (hB : b < B) : CBox W' b f D := (hb.block b hB).trans h
theorem CBox.later {W W' : World} {b : Nat} {f : Int} {D : ByteArray} (h : CBox W b f D) (hb : Below W.heap.size W W') : CBox W' b f D := h.below hb h.lt
theorem CBox.alloc {W : World} {b : Nat} {f : Int} {D : ByteArray} (h : CBox W b f D) (o : Obj) : CBox (W.alloc o) b f D := h.later ((Below.refl _ W).alloc (Nat.le_refl _) _)

theorem CBox.grown {W W' : World} {b : Nat} {row : Option Nat} {f : Int} {D : ByteArray} (h : CBox W b f D) (hg : W.grownBy W' row) (hne : some b ≠ row) : CBox W' b f D := (hg.block b h.lt hne).trans h

theorem ints_of_row {W : World} {base n : Nat} {v : Value} {zs : List Int} {xs : List Value} (h : W.ownsRow base 3 1 v n xs) (hx : xs = zs.map (Value.int .i64)) : Ints W.heap.size W v zs := by
  subst hx
  obtain ⟨hl, ⟨rfl, rfl⟩ | ⟨g, cap, cur, rfl, _, hg, hn, hc, hs, ht⟩⟩ := h
  · left
    exact ⟨⟨_, rfl⟩, List.length_eq_zero_iff.1 (by simpa using hl)⟩
  · right
    have hzl : zs.length = n := by simpa using hl
    subst hzl
    refine ⟨g, 0, cap, rfl, lt_of_heap hg, fun j hj => ?_⟩
    have e : cur[j]? = some (.int .i64 (zs[j]?.getD 0)) := by
      have h1 : (cur.toList.take (zs.length * 1))[j]? = (zs.map (Value.int .i64))[j]? := by rw [ht]
      rw [List.getElem?_take_of_lt (by omega)] at h1
      simpa [hj] using h1
    simp [World.cell?, hg, e]
theorem row_cap {W : World} {base n : Nat} {e : TypeId} {k : Nat} {v : Value} {xs : List Value} (h : W.ownsRow base e k v n xs) : ∀ p m c, v = .slice p m c → m ≤ c := by
  intro p m c hv
  obtain ⟨_, ⟨rfl, _⟩ | ⟨g, cap, cur, rfl, _, _, hn, _⟩⟩ := h
  · cases hv; exact Nat.le_refl _
  · cases hv; exact hn

theorem sh1 : mkRes [9, 1] = (⟨1, [1, 9]⟩, 0) := by decide +kernel
def up16 (k : Nat) : List Int := (List.range k).map fun i : Nat => 5 + (i : Int)
theorem up16_succ (k : Nat) : up16 (k + 1) = up16 k ++ [5 + (k : Int)] := by simp [up16, List.range_succ]
theorem up16_len (k : Nat) : (up16 k).length = k := by simp [up16]
theorem sh3 : mkRes (up16 16) = (⟨3, [5, 15]⟩, 0) := by decide +kernel
theorem sh4 : mkRes [256] = (⟨0, []⟩, 60) := by decide +kernel
theorem sh2 : (flRes 1 (bs [1, 9]) 0 256).2 = 0 := by decide +kernel
theorem sh5 : count (ofRes (flRes 1 (bs [1, 9]) 0 256).1.form (bs (flRes 1 (bs [1, 9]) 0 256).1.data)).1 = 254 := by decide +kernel
theorem sh6 : (flRes 1 (bs [1, 9]) 0 256).1.data.length ≤ 32 := by decide +kernel

theorem two_ints (W : World) (a b : Int) : Ints (W.heap.size + 1) (W.alloc (.cells #[.int .i64 a, .int .i64 b] 3)) (.slice (some ⟨W.heap.size, 0, none⟩) 2 2) [a, b] := by
  refine .inr ⟨W.heap.size, 0, 2, rfl, Nat.lt_succ_self _, fun j hj => ?_⟩
  have hj' : j < 2 := hj
  have h := heap_alloc_new W (.cells #[.int .i64 a, .int .i64 b] 3)
  rcases (show j = 0 ∨ j = 1 by omega) with rfl | rfl <;> simp
theorem one_int (W : World) (a : Int) : Ints (W.heap.size + 1) (W.alloc (.cells #[.int .i64 a] 3)) (.slice (some ⟨W.heap.size, 0, none⟩) 1 1) [a] := by
  refine .inr ⟨W.heap.size, 0, 1, rfl, Nat.lt_succ_self _, fun j hj => ?_⟩
  have hj' : j < 1 := hj
  obtain rfl : j = 0 := by omega
  simp

set_option maxRecDepth 100000 in
set_option maxHeartbeats 4000000 in
theorem shown_any (w : World) (hT : Tab w) :
    Calls Tryd.prog 11 #[] w fun e W' => e = .returned (.bool true) ∧ Below w.heap.size w W' := by
  have hB0 : Below w.heap.size w (w.alloc (.cells #[.int .i64 9, .int .i64 1] 3)) := (Below.refl _ w).alloc (Nat.le_refl _) _
  have k1 := Lib.hid (make_any (by rw [World.size_alloc]; exact two_ints w 9 1) (by simp) (hT.below hB0 hT.lt))
  rw [sh1] at k1
  go_enter Tryd.func11, Tryd.ntmps11
  go_wp2_with fail
  refine (k1.out).mono ?_
  rintro e W1 ⟨rfl, hb1⟩
  have hB1 := (hB0.trans (hb1.mono hB0.size)).alloc (by have := hb1.size; simp at this; omega) (.cells #[.int .i64 1, .string (bs [1, 9])] 25)
  have hx1 := CBox.new W1 1 (bs [1, 9])
  have k2 := Lib.hid (flip_any 1 (bs [1, 9]) 0 256 _ (by decide) (hT.below hB1 hT.lt))
  obtain ⟨d0, d1, _, _⟩ := blk2_cells hx1
  simp only [cv]
  go_wp2_with fail
  refine (k2.out).mono ?_
  rintro e W2 ⟨rfl, hb2⟩
  have hF6 := Lib.hid sh6
  have hF5 := Lib.hid sh5
  simp only [cv, sh2]
  clear k1 k2 d0 d1
  generalize flRes 1 (bs [1, 9]) 0 256 = F at hF5 hF6 ⊢
  have hB2 := (hB1.trans (hb2.mono hB1.size)).alloc (by have := hb2.size; simp at this; have := hb1.size; simp at this; omega) (.cells #[.int .i64 F.1.form, .string (bs F.1.data)] 25)
  have hx2 := CBox.new W2 F.1.form (bs F.1.data)
  have hx1' := (hx1.later hb2).alloc (.cells #[.int .i64 F.1.form, .string (bs F.1.data)] 25)
  obtain ⟨i0, hi, hz0, hz1, hz2⟩ := info_parts info_int
  have hlt1 := Lib.hid hx1'.lt
  have hlt2 := Lib.hid hx2.lt
  have hW2 := Lib.hid (show w.heap.size ≤ W2.heap.size by have := hB1.size; have := hb2.size; omega)
  clear hb1 hb2 hx1 hB1 hB0
  generalize W1.heap.size = b1 at *
  have hx1 := Lib.hid hx1'
  have hx2' := Lib.hid hx2
  have hB := Lib.hid hB2
  clear hx1' hx2 hB2
  go_wp2
  go_loopw [5, 6] (fun v i wr => ∃ k : Nat, k ≤ 16 ∧ i = .int .i64 (5 + k) ∧ Hid (wr.ownsRow (W2.heap.size + 1) 3 1 v (up16 k).length ((up16 k).map (Value.int .i64))) ∧ Hid (Below w.heap.size w wr) ∧ Hid (CBox wr b1 1 (bs [1, 9])) ∧ Hid (CBox wr W2.heap.size F.1.form (bs F.1.data)))
    (fun _ i _ => 21 - (intOf i).toNat)
  case atStart => exact ⟨0, by omega, rfl, World.ownsRow_nil _ _ _ _, hB, hx1, hx2'⟩
  case round =>
    obtain ⟨k, hk, rfl, hrow, hBr, h1, h2⟩ := hrel
    clear hx1 hx2' hB
    have hl := up16_len k
    by_cases hlt : k < 16
    · have hkd : decide ((5 : Int) + (k : Int) ≤ 20) = true := by simp; omega
      have hrow' := hrow.out
      have hsz := Lib.hid (show W2.heap.size < wr.heap.size from h2.out.lt)
      go_wp2_with (at_builtin; refine wpList_append_own _ rfl _ _ 22 rfl (W2.heap.size + 1) 3 i0 (.int .i64 0) 1 8 Tryd.underlying22 hi hz0 hz1 hz2 rfl (by decide) _ _ _ rfl (hrow'.alloc _) ⟨wr.heap.size, 0, none⟩ 1 1 [.int .i64 (5 + (k : Int))] rfl rfl (cell_one_new _ _ _) (by simp [Value.oneCell']) (by unfold maxLen; omega) (by omega) (by have := hsz.out; simp; omega) ?_; intro v' w1 hown' hgrow _; obtain ⟨g', cap', rfl⟩ := ownsRow_succ hown')
      have hne : ∀ g, Value.ownBlock _ = some g → W2.heap.size + 1 ≤ g := fun g hg => ((hrow'.lt) g hg).1
      have hw2 := (h2.out.alloc (.cells #[.int .i64 (5 + (k : Int))] 3))
      have hw2' := Lib.hid (CBox.grown hw2 hgrow (fun e => by have := hne _ e.symm; omega))
      have hw1 := (h1.out.alloc (.cells #[.int .i64 (5 + (k : Int))] 3))
      have hw1' := Lib.hid (CBox.grown hw1 hgrow (fun e => by have := hne _ e.symm; have := hlt1.out; simp at this; omega))
      have hBB := Lib.hid ((hBr.out.alloc hBr.out.size (.cells #[.int .i64 (5 + (k : Int))] 3)).grown hgrow (by simp; have := hBr.out.size; omega) (fun g hg => by have := hne g hg; have := hW2.out; omega))
      go_roundw
      case rel => exact ⟨k + 1, by omega, by go_num, by show World.ownsRow _ _ _ _ _ _ _; rw [up16_len, up16_succ, List.map_append]; rw [up16_len] at hown'; exact hown', hBB, hw1', hw2'⟩
      case measure => simp [intOf]; omega
    · have hkd : decide ((5 : Int) + (k : Int) ≤ 20) = false := by simp; omega
      obtain rfl : k = 16 := by omega
      have hin := Lib.hid (ints_of_row hrow.out rfl)
      have k3 := Lib.hid (make_any hin.out (by simp [up16]) (hT.below hBr.out hT.lt))
      rw [sh3] at k3
      clear hl hlt hkd
      go_wp2_with fail
      refine (k3.out).mono ?_
      rintro e W3 ⟨rfl, hb3⟩
      have hB3 := (hBr.out.trans (hb3.mono hBr.out.size)).alloc (by have := hb3.size; have := hBr.out.size; omega) (.cells #[.int .i64 3, .string (bs [5, 15])] 25)
      have hB3' := hB3.alloc hB3.size (.cells #[.int .i64 256] 3)
      have hx3 := (CBox.new W3 3 (bs [5, 15])).alloc (.cells #[.int .i64 256] 3)
      have h1 := ((h1.out.later hb3).alloc (.cells #[.int .i64 3, .string (bs [5, 15])] 25)).alloc (.cells #[.int .i64 256] 3)
      have h2 := ((h2.out.later hb3).alloc (.cells #[.int .i64 3, .string (bs [5, 15])] 25)).alloc (.cells #[.int .i64 256] 3)
      have k4 := Lib.hid (make_any (by rw [World.size_alloc]; exact one_int (W3.alloc (.cells #[.int .i64 3, .string (bs [5, 15])] 25)) 256) (by simp) (hT.below hB3' hT.lt))
      rw [sh4] at k4
      simp only [World.size_alloc] at k4
      have hx3' := Lib.hid hx3
      have hh1 := Lib.hid h1
      have hh2 := Lib.hid h2
      have hBB := Lib.hid hB3'
      clear h1 h2 hx3 hB3 hB3' k3 hin hb3 hrow
      simp only [cv]
      go_wp2_with fail
      refine (k4.out).mono ?_
      rintro e W4 ⟨rfl, hb4⟩
      replace hb4 := hb4.mono (show ((W3.alloc (.cells #[.int .i64 3, .string (bs [5, 15])] 25)).alloc (.cells #[.int .i64 256] 3)).heap.size ≤ _ by simp)
      have hB4 := Lib.hid ((hBB.out.trans (hb4.mono hBB.out.size)).alloc (by have := hb4.size; have := hBB.out.size; omega) (.cells #[.int .i64 0, .string (bs [])] 25))
      have h1 := (hh1.out.later hb4).alloc (.cells #[.int .i64 0, .string (bs [])] 25)
      have h2 := (hh2.out.later hb4).alloc (.cells #[.int .i64 0, .string (bs [])] 25)
      have h3 := (hx3'.out.later hb4).alloc (.cells #[.int .i64 0, .string (bs [])] 25)
      obtain ⟨d0, d1, _, _⟩ := blk2_cells h1
      obtain ⟨e0, e1, _, _⟩ := blk2_cells h2
      obtain ⟨g0, g1, _, _⟩ := blk2_cells h3
      have hq1 := cont_eq 1 1 (bs [1, 9]) ⟨#[1, 9]⟩
      have hq2 := cont_eq 3 3 (bs [5, 15]) ⟨#[5, 15]⟩
      rw [show sameC 1 (bs [1, 9]) 1 ⟨#[1, 9]⟩ = true by decide +kernel] at hq1
      rw [show sameC 3 (bs [5, 15]) 3 ⟨#[5, 15]⟩ = true by decide +kernel] at hq2
      have hgd := cont_guard
      have k5 := Lib.hid (Count_any F.1.form (bs F.1.data) _ (by rw [bs_size]; have := hF6.out; omega) (hT.below hB4.out hT.lt))
      rw [hF5.out] at k5
      clear h1 h2 h3 hb4 hh1 hh2 hx3' hBB k4
      simp only [cv]
      go_wp2_with fail
      refine (k5.out).mono ?_
      rintro e W5 ⟨rfl, hb5⟩
      go_wp2
      exact bodyPost_ret (v := .bool true) (by simp [results, Tryd.results11, go_sem]) rfl ⟨rfl, hB4.out.trans (hb5.mono hB4.out.size)⟩
end Go.Proofs.YtiannfegjbbpfaaDoor
