/-
  cont's Rank: how many of a set's numbers are at most n.
-/
import Derived.Test.YtalnfbkmlllfhaaDoorCBase
import Derived.Test.YtalnfbkmlllfhaaDoorIter
namespace Go.Proofs.YtalnfbkmlllfhaaDoor
open Go.RowKit Go.Shelf Tess

theorem nums_rising (s : Nat) : (nums s).Pairwise (· < ·) := by
  unfold nums
  exact List.Pairwise.filter _ (List.pairwise_lt_range)
theorem filter_all_le (l : List Nat) (n : Int) (h : ∀ x ∈ l, (x : Int) ≤ n) : (l.filter fun m : Nat => decide ((m : Int) ≤ n)) = l :=
  List.filter_eq_self.2 fun x hx => by simpa using h x hx
theorem rank_done {s : Nat} {ys : List Nat} {n : Int} (hy : ys = nums s) (h : ∀ x ∈ ys, (x : Int) ≤ n) : rank s n = ys.length := by
  unfold rank
  rw [← hy, filter_all_le ys n h]
theorem rank_stop {s : Nat} {pre : List Nat} {x : Nat} {n : Int} (hp : pre ++ [x] <+: nums s) (h : ∀ y ∈ pre, (y : Int) ≤ n) (hx : n < x) : rank s n = pre.length := by
  obtain ⟨t, ht⟩ := hp
  unfold rank
  have hs := nums_rising s
  rw [← ht] at hs ⊢
  rw [List.filter_append, List.filter_append, filter_all_le pre n h]
  have h1 : ([x].filter fun m : Nat => decide ((m : Int) ≤ n)) = [] := by
    rw [List.filter_eq_nil_iff]
    intro y hy
    simp at hy; subst hy; simp; omega
  have h2 : (t.filter fun m : Nat => decide ((m : Int) ≤ n)) = [] := by
    rw [List.filter_eq_nil_iff]
    intro y hy
    have := (List.pairwise_append.1 hs).2.2 x (by simp) y hy
    simp; omega
  rw [h1, h2]; simp

attribute [local go_sem] Oper.semAt_some

set_option maxRecDepth 100000 in
set_option maxHeartbeats 4000000 in
theorem Rank_any (form : Int) (D : ByteArray) (n : Int) (w : World) (hD : D.size ≤ 1000000) (hT : Tab w) :
    Calls Tryd.prog 52 #[.agg #[.int .i64 form, .string D], .int .i64 n] w fun e W' => e = .returned (.int .i64 (rank (ofRes form D).1 n)) ∧ Below w.heap.size w W' := by
  have hgB := hT.lt
  have bn0 := Boxed.new (w.alloc (.cells #[.int .i64 form, .string D] 57)) 3 (.int .i64 n)
  rw [World.size_alloc] at bn0
  have hR : Below w.heap.size w ((w.alloc (.cells #[.int .i64 form, .string D] 57)).alloc (.cells #[.int .i64 n] 3)) := ((Below.refl _ w).alloc (Nat.le_refl _) _).alloc (by simp) _
  have hc0 := blk2_cells (blk2_new w (.int .i64 form) (.string D) 57 (.cells #[.int .i64 n] 3))
  obtain ⟨c0, c1, _, _⟩ := hc0
  have hs0 : ((w.alloc (.cells #[.int .i64 form, .string D] 57)).alloc (.cells #[.int .i64 n] 3)).heap.size = w.heap.size + 2 := by simp
  refine (callsIn_wide (n := 9)).1 ?_
  refine callsIn_of_wp_marks Tryd.func52 rfl trivial ?_ rfl
  simp only [Tryd.ntmps52, List.size_toArray, List.length_cons, List.length_nil, Nat.reduceAdd, Nat.reduceSub, Array.replicate_succ, Array.replicate_zero, List.push_toArray, List.append_toArray, List.nil_append, List.cons_append]
  gi_wp2
  generalize ((w.alloc (.cells #[.int .i64 form, .string D] 57)).alloc (.cells #[.int .i64 n] 3)) = w0 at hR bn0 c0 c1 hs0 ⊢
  have ho := Lib.hid (of_any form D w0 hD (hT.below hR hT.lt))
  refine scopeIn ?_
  gi_wp2_with (refine ⟨trivial, ?_⟩; gi_at_call 64; refine CallsIn.mono (callsIn_wide.2 ho.out) ?_; rintro e W1 ⟨rfl, hb1⟩; simp only [wv, wcs, lv])
  have hs1 := hb1.size
  rw [hs0] at hs1
  have hbW1 : Boxed W1 (w.heap.size + 1) 3 (.int .i64 n) := (hb1.block _ (by omega)).trans bn0
  have hBW1 := hR.trans (hb1.mono (by omega))
  clear ho hb1 c0 c1 bn0 hR
  generalize hss : (ofRes form D).1 = s
  generalize (ofRes form D).2 = okk
  generalize hbk : W1.heap.size = b at hs1 ⊢
  obtain ⟨w2, hw2⟩ : ∃ w2, w2 = ((W1.alloc (.cells #[.int .u64 (limb s 0 : Int), .int .u64 (limb s 1 : Int), .int .u64 (limb s 2 : Int), .int .u64 (limb s 3 : Int)] 109)).alloc (.cells #[.int .i64 0] 3)) := ⟨_, rfl⟩
  have hs2 : w2.heap.size = b + 2 := by rw [hw2]; simp [hbk]
  have bW2 : Words 109 w2 b s := by rw [hw2, ← hbk]; exact (Words.new W1 _ s).alloc _
  have bK2 : Boxed w2 (b + 1) 3 (.int .i64 0) := by
    have := Boxed.new (W1.alloc (.cells #[.int .u64 (limb s 0 : Int), .int .u64 (limb s 1 : Int), .int .u64 (limb s 2 : Int), .int .u64 (limb s 3 : Int)] 109)) 3 (.int .i64 0)
    rw [World.size_alloc, hbk] at this
    rw [hw2]; exact this
  have bn2 : Boxed w2 (w.heap.size + 1) 3 (.int .i64 n) := by rw [hw2]; exact (hbW1.alloc _).alloc _
  have hB2 : Below w.heap.size w w2 := by rw [hw2]; exact (hBW1.alloc (by omega) _).alloc (by simp; omega) _
  refine wpIn_label ?_
  rw [← hw2]
  clear hw2 hbW1 hBW1 hbk
  gi_wp2_with (refine ⟨trivial, ?_⟩; gi_at_call 82; refine (numbers_in _ _ _).mono ?_; rintro e w' ⟨rfl, rfl⟩)
  have bN := Boxed.new w2 145 (.pointer (some ⟨b, 0, none⟩))
  rw [hs2] at bN
  have hB0 := hB2.alloc (by omega) (.cells #[.pointer (some ⟨b, 0, none⟩)] 145)
  have hT3 := hT.below hB0 hgB
  have bW3 := bW2.alloc (.cells #[.pointer (some ⟨b, 0, none⟩)] 145)
  refine wpIn_rangeFunc_ownG rfl (by omega) (gf := 95) (lb := #[.pointer (some ⟨b + 2, 0, none⟩)]) rfl trivial (enters_of Tryd.func95 (by kernel_rfl) rfl)
    (numbers_stops _ (by omega) (b + 2) b (b + 1) s _ (by omega) (by omega) (by simp; omega) (by simp; omega) bN.cell bW3 hT3) belowK_t (belowK_b (by simp; omega)) (Below.refl _ _) (fun _ => rfl)
    (fun pre W => (∀ x ∈ vals pre, (x : Int) ≤ n) ∧ (Boxed W (b + 1) 3 (.int .i64 ((pre.length : Nat) : Int)) ∧ (Boxed W (w.heap.size + 1) 3 (.int .i64 n) ∧ (Below w.heap.size w W ∧ b + 1 < W.heap.size))))
    (fun c pre W => (c = .exit 0 ∧ ∃ q : List N8, ∃ x : N8, pre = q ++ [x] ∧ (∀ y ∈ vals q, (y : Int) ≤ n) ∧ n < ((x.val : Nat) : Int)) ∧ (Boxed W (b + 1) 3 (.int .i64 ((pre.length - 1 : Nat) : Int)) ∧ (Below w.heap.size w W ∧ b + 1 < W.heap.size)))
    (OwnFrom.and (fun _ _ _ _ h _ _ => h) (OwnFrom.and (Own.from (boxed_own (b + 1) 3 (fun pre : List N8 => .int .i64 ((pre.length : Nat) : Int))) _) (OwnFrom.and (Own.from (boxed_own (w.heap.size + 1) 3 (fun _ : List N8 => .int .i64 n)) _) (OwnFrom.and (ownFrom_below (Nat.le_refl _) (by simp; omega)) (fun _ _ _ _ h hg _ => Nat.lt_of_lt_of_le h hg.size)))))
    (fun c => OwnFrom.and (fun _ _ _ _ h _ _ => h) (OwnFrom.and (Own.from (boxed_own (b + 1) 3 (fun pre : List N8 => .int .i64 ((pre.length - 1 : Nat) : Int))) _) (OwnFrom.and (ownFrom_below (Nat.le_refl _) (by simp; omega)) (fun _ _ _ _ h hg _ => Nat.lt_of_lt_of_le h hg.size))))
    ⟨by simp [vals], bK2.alloc _, bn2.alloc _, hB0, by simp; omega⟩
    (fun x => { tmps := #[.agg #[.int .i64 form, .string D], .int .i64 n, .pointer (some ⟨w.heap.size, 0, none⟩), .pointer (some ⟨w.heap.size + 1, 0, none⟩), .int .i64 0, .pointer (some ⟨b, 0, none⟩), .bool okk, .pointer (some ⟨b + 1, 0, none⟩), .int .i64 (x.val : Int),
      .tuple #[.agg #[.int .u64 (limb s 0 : Int), .int .u64 (limb s 1 : Int), .int .u64 (limb s 2 : Int), .int .u64 (limb s 3 : Int)], .bool okk], .agg #[.int .i64 form, .string D], .tuple #[.agg #[.int .u64 (limb s 0 : Int), .int .u64 (limb s 1 : Int), .int .u64 (limb s 2 : Int), .int .u64 (limb s 3 : Int)], .bool okk],
      .agg #[.int .u64 (limb s 0 : Int), .int .u64 (limb s 1 : Int), .int .u64 (limb s 2 : Int), .int .u64 (limb s 3 : Int)], .bool okk, .func (.func 95) #[] #[.pointer (some ⟨b + 2, 0, none⟩)], .int .i64 (x.val : Int), undef, undef, undef, undef, undef, undef], defers := [] }) ?assign ?body ?done ?stop
  case assign =>
    intro l x W K hK
    gi_wp2
    exact hK
  case body =>
    rintro l pre x W ⟨hle, hK, hN, hB, hlt0⟩ hlt
    have hkc := hK.cell
    have hkf := hK.frozen
    have hnc := hN.cell
    have hvl : vals (pre ++ [x]) = vals pre ++ [x.val] := vals_snoc pre x
    cases hcmp : decide (n < ((x.val : Nat) : Int)) with
    | true =>
      have hx' := Lib.hid (of_decide_eq_true hcmp)
      gi_wp2
      exact ⟨KeepsFrom.refl _ _, ⟨⟨rfl, pre, x, rfl, hle, hx'.out⟩, by simpa using hK, hB, hlt0⟩⟩
    | false =>
      have hx' := Lib.hid (of_decide_eq_false hcmp)
      have hpl : pre.length ≤ 256 := by omega
      gi_wp2
      refine ⟨(KeepsOthers.setCell _ _ _).from _, (Below.refl _ W).setCell (p := ⟨b + 1, 0, none⟩) (Nat.le_refl _) _, ?_, ?_, boxed_far hN (p := ⟨b + 1, 0, none⟩) (by show w.heap.size + 1 ≠ b + 1; omega) _, hB.setCell (p := ⟨b + 1, 0, none⟩) (by show w.heap.size ≤ b + 1; omega) _, by simpa using hlt0⟩
      · intro y hy
        rw [hvl] at hy
        rcases List.mem_append.1 hy with h | h
        · exact hle y h
        · have := hx'.out; simp at h; subst h; omega
      · rw [List.length_append]
        exact hK.set _
  case done =>
    rintro D ys W hD hys ⟨hle, hK, hN, hB, hlt0⟩ hcol
    have hkc := hK.cell
    gi_wp2
    refine ⟨by simp, .inl ⟨_, _, rfl, run_takeDeferred hcol, ?_⟩⟩
    refine ⟨_, results_tmp rfl _ _ _, ?_, hB.trans (belowK_b (w := w) (Nat.le_refl _) W D _ _ (by simp at hD; omega) hcol rfl rfl)⟩
    rw [hss, rank_done hys hle]
    simp [vals]
  case stop =>
    rintro D c pre W hD hpre ⟨⟨rfl, q, x, rfl, hq, hx⟩, hK, hB, hlt0⟩ hcol
    have hkc := hK.cell
    have hrs := Lib.hid (rank_stop (by rw [← vals_snoc]; exact hpre) hq hx)
    gi_wp2
    refine ⟨by simp, .inl ⟨_, _, rfl, run_takeDeferred hcol, ?_⟩⟩
    refine ⟨_, results_tmp rfl _ _ _, ?_, hB.trans (belowK_b (w := w) (Nat.le_refl _) W D _ _ (by simp at hD; omega) hcol rfl rfl)⟩
    rw [hss, hrs.out]
    simp [vals]
end Go.Proofs.YtalnfbkmlllfhaaDoor
