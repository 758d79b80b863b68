/-
  Plain, Rank, Vals, Held: several texts in one (merge.py).
-/
import Derived.Test.YtalnfbkmlllfhaaDoorFlipC
import Derived.Test.YtalnfbkmlllfhaaDoorBIter
import Derived.Deep.RegionHeld3

/-
  The plain laws of ContRanks, ContPlaces, ContParts, ContBack: what the functions answer, in lists and numbers.
-/
namespace Go.Proofs.YtalnfbkmlllfhaaDoor
open Go.RowKit Tess

/-- What Make has made, read again. -/
theorem ofRes_mk {zs : List Int} (h0 : (mkRes zs).2 = 0) : ∃ s, s < big ∧ mkRes zs = (best s, 0) ∧ ofRes (mkRes zs).1.form (bs (mkRes zs).1.data) = (s, true) ∧ zs.any badI = false ∧ s = mkSet zs := by
  rcases mkRes_cases zs with hm | ⟨s, hs, hm, hb, he⟩
  · rw [hm] at h0; cases h0
  · exact ⟨s, hs, hm, by rw [hm]; exact ofRes_best hs, hb, he⟩
theorem ofRes_mk_bad {zs : List Int} (h0 : (mkRes zs).2 ≠ 0) : ofRes (mkRes zs).1.form (bs (mkRes zs).1.data) = (0, false) := by
  rcases mkRes_cases zs with hm | ⟨s, hs, hm, hb, he⟩
  · rw [hm]; exact ofRes_zero
  · rw [hm] at h0; exact absurd rfl h0

/-! ## ranks -/
theorem hasI_nat {s n : Nat} (h : n < 256) : hasI s (n : Int) = s.testBit n := by unfold hasI; simp; omega
theorem rank_jump {s n : Nat} (h : n < 256) : (rank s n : Int) = (rank s ((n : Int) - 1) : Int) + (if s.testBit n = true then 1 else 0) := by
  have := rank_succ s n
  by_cases hb : s.testBit n = true
  · rw [this]; simp [h, hb]
  · rw [this]; simp [hb]
theorem rank_le (s : Nat) (n : Int) : rank s n ≤ 256 := Nat.le_trans (rank_le_count s n) (count_le s)

/-! ## places -/
/-- What Select answers, of a set. -/
def selRes (s : Nat) (p : Int) : Int × Bool := if 0 ≤ p ∧ p < (count s : Int) then (((nums s)[p.toNat]?.getD 0 : Nat), true) else (0, false)
theorem count_zero : count 0 = 0 := by decide +kernel
theorem sel_zero (p : Int) : selRes 0 p = (0, false) := by
  unfold selRes; rw [if_neg]; rw [count_zero]; omega
theorem sel_out {s : Nat} {p : Int} (h : p < 0 ∨ (count s : Int) ≤ p) : selRes s p = (0, false) := by
  unfold selRes; rw [if_neg]; omega
theorem sel_in {s : Nat} {p : Int} (h1 : 0 ≤ p) (h2 : p < (count s : Int)) :
    ∃ m : Nat, m < 256 ∧ selRes s p = ((m : Int), true) ∧ hasI s m = true ∧ (rank s m : Int) = p + 1 ∧ (rank s ((m : Int) - 1) : Int) = p := by
  obtain ⟨k, rfl⟩ : ∃ k : Nat, p = k := ⟨p.toNat, by omega⟩
  have hk : k < (nums s).length := by have : k < count s := by omega
                                      exact this
  have hm := mem_nums.1 (List.getElem_mem hk)
  obtain ⟨r1, r2⟩ := rank_place hk
  refine ⟨(nums s)[k], hm.1, ?_, ?_, ?_, ?_⟩
  · unfold selRes; rw [if_pos ⟨h1, h2⟩]; simp [hk]
  · rw [hasI_nat hm.1]; exact hm.2
  · rw [r1]; omega
  · rw [r2]

/-! ## parts -/
/-- What Op answers. -/
def opRes (op : Int) (f1 : Int) (D1 : ByteArray) (f2 : Int) (D2 : ByteArray) : C × Int :=
  if (ofRes f1 D1).2 = true ∧ (ofRes f2 D2).2 = true ∧ 1 ≤ op ∧ op ≤ 4 then (best (opOf op (ofRes f1 D1).1 (ofRes f2 D2).1), 0) else (⟨0, []⟩, 60)
theorem opRes_len (op f1 : Int) (D1 : ByteArray) (f2 : Int) (D2 : ByteArray) : (bs (opRes op f1 D1 f2 D2).1.data).size ≤ 1000000 := by
  rw [bs_size]
  unfold opRes
  split
  · have := best_length_le (opOf op (ofRes f1 D1).1 (ofRes f2 D2).1); show (best _).data.length ≤ _; omega
  · decide
/-- Op of two best forms. -/
theorem opRes_best {op : Int} {s t : Nat} (hs : s < big) (ht : t < big) (h1 : 1 ≤ op) (h2 : op ≤ 4) :
    opRes op (best s).form (bs (best s).data) (best t).form (bs (best t).data) = (best (opOf op s t), 0) := by
  unfold opRes
  rw [ofRes_best hs, ofRes_best ht, if_pos ⟨rfl, rfl, h1, h2⟩]
theorem opOf_ext {a b : Nat} (h : ∀ n, a.testBit n = b.testBit n) : a = b := Nat.eq_of_testBit_eq h
theorem op_or (s t : Nat) : opOf 2 (opOf 2 (opOf 4 s t) (opOf 4 t s)) (opOf 1 s t) = opOf 2 s t :=
  opOf_ext fun n => by simp only [testBit_opOf]; cases s.testBit n <;> cases t.testBit n <;> rfl
theorem op_xor (s t : Nat) : opOf 2 (opOf 4 s t) (opOf 4 t s) = opOf 3 s t :=
  opOf_ext fun n => by simp only [testBit_opOf]; cases s.testBit n <;> cases t.testBit n <;> rfl
theorem op_xor2 (s t : Nat) : opOf 4 (opOf 2 s t) (opOf 1 s t) = opOf 3 s t :=
  opOf_ext fun n => by simp only [testBit_opOf]; cases s.testBit n <;> cases t.testBit n <;> rfl
theorem op_count (s t : Nat) : count s + count t = count (opOf 2 s t) + count (opOf 1 s t) := (count_or_and s t).symm

/-! ## back -/
/-- What As answers. -/
def asRes (f : Int) (D : ByteArray) (form : Int) : C × Int :=
  match (ofRes f D).2, asOf (ofRes f D).1 form with
  | true, some d => (⟨form, d⟩, 0)
  | _, _ => (⟨0, []⟩, 60)
theorem asRes_len (f : Int) (D : ByteArray) (form : Int) : (bs (asRes f D form).1.data).size ≤ 1000000 := by
  rw [bs_size]
  unfold asRes
  split
  · rename_i d _ h
    unfold asOf at h
    show d.length ≤ _
    split at h
    · obtain rfl := Option.some.inj h; exact Nat.le_trans (count_le (ofRes f D).1) (by decide)
    · split at h
      · obtain rfl := Option.some.inj h; rw [raw_length]; decide
      · split at h
        · obtain rfl := Option.some.inj h; exact Nat.le_trans (runs_length_le (ofRes f D).1) (by decide)
        · cases h
  · decide
/-- What Right answers. -/
def rightRes (f : Int) (D : ByteArray) : Bool := (ofRes f D).2 && (((ofRes f D).1 != 0 || D.toList.isEmpty) || f == 2)
theorem runs_zero : runs 0 = [] := by decide +kernel
theorem nums_zero : nums 0 = [] := by decide +kernel
theorem asOf_empty {f : Int} {d : List Nat} (h : asOf 0 f = some d) : d = [] ∨ f = 2 := by
  unfold asOf at h
  rw [nums_zero, runs_zero] at h
  split at h
  · exact .inl (Option.some.inj h).symm
  · split at h
    · exact .inr (by assumption)
    · split at h
      · exact .inl (Option.some.inj h).symm
      · cases h
theorem right_as {s : Nat} (hs : s < big) {f : Int} {d : List Nat} (h : asOf s f = some d) : ofRes f (bs d) = (s, true) ∧ rightRes f (bs d) = true := by
  have e : ofRes f (bs d) = (s, true) := by
    unfold ofRes
    rw [dn_bs (asOf_lt h), ofC_as hs h]
  refine ⟨e, ?_⟩
  unfold rightRes
  rw [e]
  by_cases h0 : s = 0
  · subst h0
    rcases asOf_empty h with rfl | rfl
    · rw [show (bs []).toList.isEmpty = true from by decide +kernel]; rfl
    · simp
  · simp [h0]
theorem right_best {s : Nat} (hs : s < big) : rightRes (best s).form (bs (best s).data) = true := (right_as hs (best_as s)).2
theorem right_zero : rightRes 0 (bs []) = false := by
  unfold rightRes; rw [ofRes_zero]; rfl

theorem mkSet_nums {s : Nat} (hs : s < big) : mkSet ((nums s).map Int.ofNat) = s := by
  unfold mkSet
  rw [List.map_map]
  have e : (Int.toNat ∘ Int.ofNat) = id := by funext x; simp
  rw [e, List.map_id]
  refine set_ext (putAll_lt (by decide +kernel) fun n hn => (mem_nums.1 hn).1) hs fun n hn => ?_
  rw [testBit_putAll, Nat.zero_testBit, Bool.false_or]
  by_cases hb : s.testBit n = true
  · simp [mem_nums, hn, hb]
  · simp [mem_nums, hb]
theorem mkRes_nums {s : Nat} (hs : s < big) : mkRes ((nums s).map Int.ofNat) = (best s, 0) := by
  unfold mkRes
  rw [mkSet_nums hs, if_neg]
  intro h
  obtain ⟨z, hz, hb⟩ := List.any_eq_true.1 h
  obtain ⟨n, hn, rfl⟩ := List.mem_map.1 hz
  have := (mem_nums.1 hn).1
  unfold badI at hb
  simp at hb
  omega
theorem hasI_mk {zs : List Int} (h : zs.any badI = false) (n : Int) : hasI (mkSet zs) n = zs.any (· == n) := by
  have hz := badI_false h
  by_cases h1 : 0 ≤ n ∧ n < 256
  · obtain ⟨m, rfl⟩ : ∃ m : Nat, n = m := ⟨n.toNat, by omega⟩
    rw [hasI_nat (by omega)]
    unfold mkSet
    rw [testBit_putAll, Nat.zero_testBit, Bool.false_or, Bool.eq_iff_iff]
    simp only [decide_eq_true_eq, List.mem_map, List.any_eq_true, beq_iff_eq]
    constructor
    · rintro ⟨z, hzm, e⟩; exact ⟨z, hzm, by have := hz z hzm; omega⟩
    · rintro ⟨z, hzm, e⟩; exact ⟨z, hzm, by omega⟩
  · have e1 : hasI (mkSet zs) n = false := by
      unfold hasI
      by_cases h2 : 0 ≤ n
      · have h3 : ¬ n < 256 := by omega
        simp [h3]
      · simp [h2]
    rw [e1]
    symm
    rw [List.any_eq_false]
    intro z hzm
    have := hz z hzm
    simp only [beq_iff_eq]
    omega
theorem asRes_best {s : Nat} (hs : s < big) {form : Int} (h1 : 1 ≤ form) (h3 : form ≤ 3) :
    ∃ d, asOf s form = some d ∧ asRes (best s).form (bs (best s).data) form = (⟨form, d⟩, 0) ∧ (best s).data.length ≤ d.length := by
  have hd : ∃ d, asOf s form = some d := by
    unfold asOf
    by_cases e1 : form = 1
    · exact ⟨_, by rw [if_pos e1]⟩
    · by_cases e2 : form = 2
      · exact ⟨_, by rw [if_neg e1, if_pos e2]⟩
      · exact ⟨_, by rw [if_neg e1, if_neg e2, if_pos (by omega)]⟩
  obtain ⟨d, hd⟩ := hd
  refine ⟨d, hd, ?_, best_least hd⟩
  unfold asRes
  rw [ofRes_best hs]
  simp only [hd]
end Go.Proofs.YtalnfbkmlllfhaaDoor

/-
  cont's Rank: how many of a set's numbers are at most n.
-/
namespace Go.Proofs.YtalnfbkmlllfhaaDoor
open Go.RowKit Go.Shelf Tess

theorem nums_rising (s : Nat) : (nums s).Pairwise (· < ·) := by
  unfold nums
  exact List.Pairwise.filter _ (List.pairwise_lt_range)
theorem filter_all_le (l : List Nat) (n : Int) (h : ∀ x ∈ l, (x : Int) ≤ n) : (l.filter fun m : Nat => decide ((m : Int) ≤ n)) = l :=
  List.filter_eq_self.2 fun x hx => by simpa using h x hx
theorem rank_done {s : Nat} {ys : List Nat} {n : Int} (hy : ys = nums s) (h : ∀ x ∈ ys, (x : Int) ≤ n) : rank s n = ys.length := by
  unfold rank
  rw [← hy, filter_all_le ys n h]
theorem rank_stop {s : Nat} {pre : List Nat} {x : Nat} {n : Int} (hp : pre ++ [x] <+: nums s) (h : ∀ y ∈ pre, (y : Int) ≤ n) (hx : n < x) : rank s n = pre.length := by
  obtain ⟨t, ht⟩ := hp
  unfold rank
  have hs := nums_rising s
  rw [← ht] at hs ⊢
  rw [List.filter_append, List.filter_append, filter_all_le pre n h]
  have h1 : ([x].filter fun m : Nat => decide ((m : Int) ≤ n)) = [] := by
    rw [List.filter_eq_nil_iff]
    intro y hy
    simp at hy; subst hy; simp; omega
  have h2 : (t.filter fun m : Nat => decide ((m : Int) ≤ n)) = [] := by
    rw [List.filter_eq_nil_iff]
    intro y hy
    have := (List.pairwise_append.1 hs).2.2 x (by simp) y hy
    simp; omega
  rw [h1, h2]; simp

attribute [local go_sem] Oper.semAt_some

set_option maxRecDepth 100000 in
set_option maxHeartbeats 4000000 in
theorem Rank_any (form : Int) (D : ByteArray) (n : Int) (w : World) (hD : D.size ≤ 1000000) (hT : Tab w) :
    Calls Tryd.prog 52 #[.agg #[.int .i64 form, .string D], .int .i64 n] w fun e W' => e = .returned (.int .i64 (rank (ofRes form D).1 n)) ∧ Below w.heap.size w W' := by
  have hgB := hT.lt
  have bn0 := Boxed.new (w.alloc (.cells #[.int .i64 form, .string D] 57)) 3 (.int .i64 n)
  rw [World.size_alloc] at bn0
  have hR : Below w.heap.size w ((w.alloc (.cells #[.int .i64 form, .string D] 57)).alloc (.cells #[.int .i64 n] 3)) := ((Below.refl _ w).alloc (Nat.le_refl _) _).alloc (by simp) _
  have hc0 := blk2_cells (blk2_new w (.int .i64 form) (.string D) 57 (.cells #[.int .i64 n] 3))
  obtain ⟨c0, c1, _, _⟩ := hc0
  have hs0 : ((w.alloc (.cells #[.int .i64 form, .string D] 57)).alloc (.cells #[.int .i64 n] 3)).heap.size = w.heap.size + 2 := by simp
  refine (callsIn_wide (n := 9)).1 ?_
  refine callsIn_of_wp_marks Tryd.func52 rfl trivial ?_ rfl
  simp only [Tryd.ntmps52, List.size_toArray, List.length_cons, List.length_nil, Nat.reduceAdd, Nat.reduceSub, Array.replicate_succ, Array.replicate_zero, List.push_toArray, List.append_toArray, List.nil_append, List.cons_append]
  gi_wp2
  generalize ((w.alloc (.cells #[.int .i64 form, .string D] 57)).alloc (.cells #[.int .i64 n] 3)) = w0 at hR bn0 c0 c1 hs0 ⊢
  have ho := Lib.hid (of_any form D w0 hD (hT.below hR hT.lt))
  refine scopeIn ?_
  gi_wp2_with (refine ⟨trivial, ?_⟩; gi_at_call 64; refine CallsIn.mono (callsIn_wide.2 ho.out) ?_; rintro e W1 ⟨rfl, hb1⟩; simp only [wv, wcs, lv])
  have hs1 := hb1.size
  rw [hs0] at hs1
  have hbW1 : Boxed W1 (w.heap.size + 1) 3 (.int .i64 n) := (hb1.block _ (by omega)).trans bn0
  have hBW1 := hR.trans (hb1.mono (by omega))
  clear ho hb1 c0 c1 bn0 hR
  generalize hss : (ofRes form D).1 = s
  generalize (ofRes form D).2 = okk
  generalize hbk : W1.heap.size = b at hs1 ⊢
  obtain ⟨w2, hw2⟩ : ∃ w2, w2 = ((W1.alloc (.cells #[.int .u64 (limb s 0 : Int), .int .u64 (limb s 1 : Int), .int .u64 (limb s 2 : Int), .int .u64 (limb s 3 : Int)] 109)).alloc (.cells #[.int .i64 0] 3)) := ⟨_, rfl⟩
  have hs2 : w2.heap.size = b + 2 := by rw [hw2]; simp [hbk]
  have bW2 : Words 109 w2 b s := by rw [hw2, ← hbk]; exact (Words.new W1 _ s).alloc _
  have bK2 : Boxed w2 (b + 1) 3 (.int .i64 0) := by
    have := Boxed.new (W1.alloc (.cells #[.int .u64 (limb s 0 : Int), .int .u64 (limb s 1 : Int), .int .u64 (limb s 2 : Int), .int .u64 (limb s 3 : Int)] 109)) 3 (.int .i64 0)
    rw [World.size_alloc, hbk] at this
    rw [hw2]; exact this
  have bn2 : Boxed w2 (w.heap.size + 1) 3 (.int .i64 n) := by rw [hw2]; exact (hbW1.alloc _).alloc _
  have hB2 : Below w.heap.size w w2 := by rw [hw2]; exact (hBW1.alloc (by omega) _).alloc (by simp; omega) _
  refine wpIn_label ?_
  rw [← hw2]
  clear hw2 hbW1 hBW1 hbk
  gi_wp2_with (refine ⟨trivial, ?_⟩; gi_at_call 82; refine (numbers_in _ _ _).mono ?_; rintro e w' ⟨rfl, rfl⟩)
  have bN := Boxed.new w2 145 (.pointer (some ⟨b, 0, none⟩))
  rw [hs2] at bN
  have hB0 := hB2.alloc (by omega) (.cells #[.pointer (some ⟨b, 0, none⟩)] 145)
  have hT3 := hT.below hB0 hgB
  have bW3 := bW2.alloc (.cells #[.pointer (some ⟨b, 0, none⟩)] 145)
  refine wpIn_rangeFunc_ownG rfl (by omega) (gf := 95) (lb := #[.pointer (some ⟨b + 2, 0, none⟩)]) rfl trivial (enters_of Tryd.func95 (by kernel_rfl) rfl)
    (numbers_stops _ (by omega) (b + 2) b (b + 1) s _ (by omega) (by omega) (by simp; omega) (by simp; omega) bN.cell bW3 hT3) belowK_t (belowK_b (by simp; omega)) (Below.refl _ _) (fun _ => rfl)
    (fun pre W => (∀ x ∈ vals pre, (x : Int) ≤ n) ∧ (Boxed W (b + 1) 3 (.int .i64 ((pre.length : Nat) : Int)) ∧ (Boxed W (w.heap.size + 1) 3 (.int .i64 n) ∧ (Below w.heap.size w W ∧ b + 1 < W.heap.size))))
    (fun c pre W => (c = .exit 0 ∧ ∃ q : List N8, ∃ x : N8, pre = q ++ [x] ∧ (∀ y ∈ vals q, (y : Int) ≤ n) ∧ n < ((x.val : Nat) : Int)) ∧ (Boxed W (b + 1) 3 (.int .i64 ((pre.length - 1 : Nat) : Int)) ∧ (Below w.heap.size w W ∧ b + 1 < W.heap.size)))
    (OwnFrom.and (fun _ _ _ _ h _ _ => h) (OwnFrom.and (Own.from (boxed_own (b + 1) 3 (fun pre : List N8 => .int .i64 ((pre.length : Nat) : Int))) _) (OwnFrom.and (Own.from (boxed_own (w.heap.size + 1) 3 (fun _ : List N8 => .int .i64 n)) _) (OwnFrom.and (ownFrom_below (Nat.le_refl _) (by simp; omega)) (fun _ _ _ _ h hg _ => Nat.lt_of_lt_of_le h hg.size)))))
    (fun c => OwnFrom.and (fun _ _ _ _ h _ _ => h) (OwnFrom.and (Own.from (boxed_own (b + 1) 3 (fun pre : List N8 => .int .i64 ((pre.length - 1 : Nat) : Int))) _) (OwnFrom.and (ownFrom_below (Nat.le_refl _) (by simp; omega)) (fun _ _ _ _ h hg _ => Nat.lt_of_lt_of_le h hg.size))))
    ⟨by simp [vals], bK2.alloc _, bn2.alloc _, hB0, by simp; omega⟩
    (fun x => { tmps := #[.agg #[.int .i64 form, .string D], .int .i64 n, .pointer (some ⟨w.heap.size, 0, none⟩), .pointer (some ⟨w.heap.size + 1, 0, none⟩), .int .i64 0, .pointer (some ⟨b, 0, none⟩), .bool okk, .pointer (some ⟨b + 1, 0, none⟩), .int .i64 (x.val : Int),
      .tuple #[.agg #[.int .u64 (limb s 0 : Int), .int .u64 (limb s 1 : Int), .int .u64 (limb s 2 : Int), .int .u64 (limb s 3 : Int)], .bool okk], .agg #[.int .i64 form, .string D], .tuple #[.agg #[.int .u64 (limb s 0 : Int), .int .u64 (limb s 1 : Int), .int .u64 (limb s 2 : Int), .int .u64 (limb s 3 : Int)], .bool okk],
      .agg #[.int .u64 (limb s 0 : Int), .int .u64 (limb s 1 : Int), .int .u64 (limb s 2 : Int), .int .u64 (limb s 3 : Int)], .bool okk, .func (.func 95) #[] #[.pointer (some ⟨b + 2, 0, none⟩)], .int .i64 (x.val : Int), undef, undef, undef, undef, undef, undef], defers := [] }) ?assign ?body ?done ?stop
  case assign =>
    intro l x W K hK
    gi_wp2
    exact hK
  case body =>
    rintro l pre x W ⟨hle, hK, hN, hB, hlt0⟩ hlt
    have hkc := hK.cell
    have hkf := hK.frozen
    have hnc := hN.cell
    have hvl : vals (pre ++ [x]) = vals pre ++ [x.val] := vals_snoc pre x
    cases hcmp : decide (n < ((x.val : Nat) : Int)) with
    | true =>
      have hx' := Lib.hid (of_decide_eq_true hcmp)
      gi_wp2
      exact ⟨KeepsFrom.refl _ _, ⟨⟨rfl, pre, x, rfl, hle, hx'.out⟩, by simpa using hK, hB, hlt0⟩⟩
    | false =>
      have hx' := Lib.hid (of_decide_eq_false hcmp)
      have hpl : pre.length ≤ 256 := by omega
      gi_wp2
      refine ⟨(KeepsOthers.setCell _ _ _).from _, (Below.refl _ W).setCell (p := ⟨b + 1, 0, none⟩) (Nat.le_refl _) _, ?_, ?_, boxed_far hN (p := ⟨b + 1, 0, none⟩) (by show w.heap.size + 1 ≠ b + 1; omega) _, hB.setCell (p := ⟨b + 1, 0, none⟩) (by show w.heap.size ≤ b + 1; omega) _, by simpa using hlt0⟩
      · intro y hy
        rw [hvl] at hy
        rcases List.mem_append.1 hy with h | h
        · exact hle y h
        · have := hx'.out; simp at h; subst h; omega
      · rw [List.length_append]
        exact hK.set _
  case done =>
    rintro D ys W hD hys ⟨hle, hK, hN, hB, hlt0⟩ hcol
    have hkc := hK.cell
    gi_wp2
    refine ⟨by simp, .inl ⟨_, _, rfl, run_takeDeferred hcol, ?_⟩⟩
    refine ⟨_, results_tmp rfl _ _ _, ?_, hB.trans (belowK_b (w := w) (Nat.le_refl _) W D _ _ (by simp at hD; omega) hcol rfl rfl)⟩
    rw [hss, rank_done hys hle]
    simp [vals]
  case stop =>
    rintro D c pre W hD hpre ⟨⟨rfl, q, x, rfl, hq, hx⟩, hK, hB, hlt0⟩ hcol
    have hkc := hK.cell
    have hrs := Lib.hid (rank_stop (by rw [← vals_snoc]; exact hpre) hq hx)
    gi_wp2
    refine ⟨by simp, .inl ⟨_, _, rfl, run_takeDeferred hcol, ?_⟩⟩
    refine ⟨_, results_tmp rfl _ _ _, ?_, hB.trans (belowK_b (w := w) (Nat.le_refl _) W D _ _ (by simp at hD; omega) hcol rfl rfl)⟩
    rw [hss, hrs.out]
    simp [vals]
end Go.Proofs.YtalnfbkmlllfhaaDoor

/-
  cont's Values, Select: a set's numbers as a new slice.
-/
namespace Go.Proofs.YtalnfbkmlllfhaaDoor
open Go.RowKit Go.Shelf Tess

attribute [local go_sem] Oper.semAt_some

/-- A number in memory. -/
def iv (x : Nat) : Value := .int .i64 (x : Int)

set_option maxRecDepth 100000 in
set_option maxHeartbeats 2000000 in
/-- slices.AppendSeq of nil and of a set's numbers. -/
theorem appendSeq_any (s Bw b : Nat) (w : World) (hT : Tab w) (hBw : w.cell? ⟨Bw, 0, none⟩ = some (.pointer (some ⟨b, 0, none⟩))) (hw : Words 109 w b s) (hBl : Bw < w.heap.size) :
    Calls Tryd.prog 80 #[.slice none 0 0, .func (.func 95) #[] #[.pointer (some ⟨Bw, 0, none⟩)]] w fun e W' => ∃ v, e = .returned v ∧ W'.ownsRow w.heap.size 3 1 v (nums s).length ((nums s).map iv) ∧ Below w.heap.size w W' := by
  have hgB := hT.lt
  obtain ⟨i0, hi, hz0, hz1, hz2⟩ := info_parts info_int
  refine (callsIn_wide (n := 9)).1 ?_
  refine callsIn_of_wp_marks Tryd.func80 rfl trivial ?_ rfl
  simp only [Tryd.ntmps80, List.size_toArray, List.length_cons, List.length_nil, Nat.reduceAdd, Nat.reduceSub, Array.replicate_succ, Array.replicate_zero, List.push_toArray, List.append_toArray, List.nil_append, List.cons_append]
  gi_wp2
  have bO := Boxed.new w 34 (.slice none 0 0)
  have hB0 : Below w.heap.size w (w.alloc (.cells #[.slice none 0 0] 34)) := (Below.refl _ w).alloc (Nat.le_refl _) _
  have hT3 := hT.below hB0 hgB
  have bW3 := hw.alloc (.cells #[.slice none 0 0] 34)
  have hc3 : (w.alloc (.cells #[.slice none 0 0] 34)).cell? ⟨Bw, 0, none⟩ = some (.pointer (some ⟨b, 0, none⟩)) := (hB0.cell (p := ⟨Bw, 0, none⟩) hBl).trans hBw
  have hbl := hw.lt
  refine wpIn_rangeFunc_ownG rfl (by omega) (gf := 95) (lb := #[.pointer (some ⟨Bw, 0, none⟩)]) rfl trivial (enters_of Tryd.func95 (by kernel_rfl) rfl)
    (numbers_stops _ (by omega) Bw b w.heap.size s _ hbl hgB (by simp; omega) (by simp) hc3 bW3 hT3) belowK_t (belowK_b (by simp)) (Below.refl _ _) (fun _ => rfl)
    (fun pre W => (∃ v, Boxed W w.heap.size 34 v ∧ W.ownsRow w.heap.size 3 1 v pre.length ((vals pre).map iv) ∧ (fun (_ : List N8) (_ : Value) => True) pre v) ∧ (Below w.heap.size w W ∧ w.heap.size < W.heap.size))
    (fun _ _ _ => False)
    (OwnFrom.and (Own.from (holdsRow_own w.heap.size w.heap.size 34 3 1 (fun pre => pre.length) (fun pre => (vals pre).map iv) (fun _ _ => True)) _) (OwnFrom.and (ownFrom_below (Nat.le_refl _) (by simp)) (fun _ _ _ _ h hg _ => Nat.lt_of_lt_of_le h hg.size)))
    (fun _ _ _ _ _ hs _ _ => hs)
    ⟨⟨_, bO, World.ownsRow_nil _ _ _ _, trivial⟩, hB0, by simp⟩
    (fun x => { tmps := #[.slice none 0 0, .func (.func 95) #[] #[.pointer (some ⟨Bw, 0, none⟩)], .pointer (some ⟨w.heap.size, 0, none⟩), undef, .slice none 0 0, .int .i64 (x.val : Int), .func (.func 95) #[] #[.pointer (some ⟨Bw, 0, none⟩)], .int .i64 (x.val : Int), undef, undef, undef, undef, undef], defers := [] }) ?assign ?body ?done ?stop
  case assign =>
    intro l x W K hK
    gi_wp2
    exact hK
  case body =>
    rintro l pre x W ⟨⟨v, hv, hrow, _⟩, hB, hlt0⟩ hlt
    have hc := hv.cell
    have hx := x.isLt
    gi_wp2_with (gi_at_builtin; refine wpListIn_append_own _ rfl _ _ 34 rfl w.heap.size 3 i0 (.int .i64 0) 1 8 Tryd.underlying34 hi hz0 hz1 hz2 rfl (by decide) _ _ _ rfl (hrow.alloc _) ⟨W.heap.size, 0, none⟩ 1 1 [.int .i64 (x.val : Int)] rfl rfl (cell_one_new _ _ _) (by simp [Value.oneCell']) (by unfold maxLen; omega) (by omega) (by simp; omega) ?_; intro v' w1 hown' hgrow _; obtain ⟨g', cap', rfl⟩ := ownsRow_succ hown'; obtain ⟨hv1, hv2, hr2, hk2, hb2⟩ := hv.appended (by decide) hrow (by omega) (Nat.le_refl _) hown' hgrow; have hc1 := hv1.cell; have hf1 := hv1.frozen)
    exact ⟨hk2.from _, hb2, ⟨_, hv2, by rw [List.length_append, vals_snoc, List.map_append]; exact hr2⟩, hB.trans (hb2.mono (by omega)), by have := hb2.size; omega⟩
  case done =>
    rintro D ys W hD hys ⟨⟨v, hv, hrow, _⟩, hB, _⟩ hK
    have hc := hv.cell
    gi_wp2
    refine ⟨by simp, .inl ⟨_, _, rfl, run_takeDeferred hK, ?_⟩⟩
    have hl : (nums s).length = ys.length := by rw [← hys]; simp [vals]
    exact ⟨_, results_tmp rfl _ _ _, v, rfl, by rw [hl, ← hys]; exact ownsRow_putObj hrow _ hK rfl, hB.trans (belowK_b (w := w) (Nat.le_refl _) W D _ _ (by simp at hD; omega) hK rfl rfl)⟩
  case stop =>
    rintro D c pre W _ _ h _
    exact h.elim

/-- slices.Collect. -/
theorem collect_any (s Bw b : Nat) (w : World) (hT : Tab w) (hBw : w.cell? ⟨Bw, 0, none⟩ = some (.pointer (some ⟨b, 0, none⟩))) (hw : Words 109 w b s) (hBl : Bw < w.heap.size) :
    Calls Tryd.prog 50 #[.func (.func 95) #[] #[.pointer (some ⟨Bw, 0, none⟩)]] w fun e W' => ∃ v, e = .returned v ∧ W'.ownsRow w.heap.size 3 1 v (nums s).length ((nums s).map iv) ∧ Below w.heap.size w W' := by
  have ha := Lib.hid (appendSeq_any s Bw b w hT hBw hw hBl)
  clear hT hBw hw hBl
  go_enter Tryd.func50, Tryd.ntmps50
  go_wp2_with fail
  refine (ha.out).mono ?_
  rintro e W1 ⟨v, rfl, hown, hb1⟩
  go_wp2
  exact bodyPost_ret (v := v) (by simp [results, Tryd.results50, go_sem]) rfl ⟨_, rfl, hown, hb1⟩

/-- The iterator, outside of the fenced walks. -/
theorem numbers_any (a : Option Addr) (w : World) :
    Calls Tryd.prog 82 #[.pointer a] w fun e w' => e = .returned (.func (.func 95) #[] #[.pointer (some ⟨w.heap.size, 0, none⟩)]) ∧ w' = w.alloc (.cells #[.pointer a] 145) :=
  (callsIn_wide (n := 9)).1 (numbers_in 9 a w)

set_option maxRecDepth 100000 in
set_option maxHeartbeats 2000000 in
/-- **Values(c)** -/
theorem Values_any (form : Int) (D : ByteArray) (w : World) (hD : D.size ≤ 1000000) (hT : Tab w) :
    Calls Tryd.prog 79 #[.agg #[.int .i64 form, .string D]] w fun e W' => ∃ v, e = .returned v ∧ W'.ownsRow w.heap.size 3 1 v (nums (ofRes form D).1).length ((nums (ofRes form D).1).map iv) ∧ Below w.heap.size w W' := by
  have hR : Below w.heap.size w (w.alloc (.cells #[.int .i64 form, .string D] 57)) := ((Below.refl _ w).alloc (Nat.le_refl _) _)
  have ho := Lib.hid (of_any form D _ hD (hT.below hR hT.lt))
  go_enter Tryd.func79, Tryd.ntmps79
  go_wp2_with fail
  refine (ho.out).mono ?_
  rintro e W1 ⟨rfl, hb1⟩
  obtain ⟨hw, hB⟩ := of_words (ofRes form D).1 hb1
  clear hb1
  generalize hss : (ofRes form D).1 = s at hw hB ⊢
  have hN := Lib.hid (numbers_any (some ⟨W1.heap.size, 0, none⟩) (W1.alloc (.cells #[.int .u64 (limb s 0 : Int), .int .u64 (limb s 1 : Int), .int .u64 (limb s 2 : Int), .int .u64 (limb s 3 : Int)] 109)))
  have hs1 : (W1.alloc (.cells #[.int .u64 (limb s 0 : Int), .int .u64 (limb s 1 : Int), .int .u64 (limb s 2 : Int), .int .u64 (limb s 3 : Int)] 109)).heap.size = W1.heap.size + 1 := by simp
  have hBs := hB.size
  rw [hs1] at hBs
  have bN := Boxed.new (W1.alloc (.cells #[.int .u64 (limb s 0 : Int), .int .u64 (limb s 1 : Int), .int .u64 (limb s 2 : Int), .int .u64 (limb s 3 : Int)] 109)) 145 (.pointer (some ⟨W1.heap.size, 0, none⟩))
  rw [hs1] at bN
  have hB2 := hB.alloc (by rw [hs1]; exact hBs) (.cells #[.pointer (some ⟨W1.heap.size, 0, none⟩)] 145)
  have hc := Lib.hid (collect_any s (W1.heap.size + 1) W1.heap.size _ (hT.below hB2 hT.lt) bN.cell (hw.alloc _) (by simp))
  have hB2' := Lib.hid hB2
  clear bN hw hB hB2
  simp only [wv, wcs, lv]
  go_wp2_with fail
  refine (hN.out).mono ?_
  rintro e W2 ⟨rfl, rfl⟩
  simp only [World.size_alloc]
  go_wp2_with fail
  refine (hc.out).mono ?_
  rintro e W3 ⟨v, rfl, hown, hb3⟩
  go_wp2
  exact bodyPost_ret (v := v) (by simp [results, Tryd.results79, go_sem]) rfl ⟨_, rfl, by rw [hss]; exact ownsRow_base hown (by simp only [World.size_alloc]; omega), hB2'.out.trans (hb3.mono (by simp only [World.size_alloc]; omega))⟩

theorem ints_of_vals {W : World} {base : Nat} {v : Value} {s : Nat} (h : W.ownsRow base 3 1 v (nums s).length ((nums s).map iv)) : Ints W.heap.size W v ((nums s).map Int.ofNat) :=
  ints_of_row h (by rw [List.map_map]; rfl)

set_option maxRecDepth 100000 in
set_option maxHeartbeats 2000000 in
/-- **Select(c, place)** -/
theorem Select_any (form : Int) (D : ByteArray) (p : Int) (w : World) (hD : D.size ≤ 1000000) (hT : Tab w) :
    Calls Tryd.prog 48 #[.agg #[.int .i64 form, .string D], .int .i64 p] w fun e W' => e = .returned (.tuple #[.int .i64 (selRes (ofRes form D).1 p).1, .bool (selRes (ofRes form D).1 p).2]) ∧ Below w.heap.size w W' := by
  have hR : Below w.heap.size w (w.alloc (.cells #[.int .i64 form, .string D] 57)) := ((Below.refl _ w).alloc (Nat.le_refl _) _)
  have hv := Lib.hid (Values_any form D _ hD (hT.below hR hT.lt))
  generalize (ofRes form D).1 = s at hv ⊢
  go_enter Tryd.func48, Tryd.ntmps48
  go_wp2_with fail
  refine (hv.out).mono ?_
  rintro e W1 ⟨v, rfl, hown, hb1⟩
  have hB := Lib.hid (hR.trans (hb1.mono (by simp)))
  have hcl := count_le s
  have hcn : (nums s).length = count s := rfl
  clear hb1 hR hv
  cases h1 : decide (p < 0) with
  | true =>
    have hsel := Lib.hid (sel_out (s := s) (p := p) (.inl (by simpa using h1)))
    go_wp2
    exact bodyPost_ret (v := .tuple #[.int .i64 0, .bool false]) (by simp [results, Tryd.results48, go_sem]) rfl ⟨by rw [hsel.out], hB.out⟩
  | false =>
    rcases hown.2 with ⟨rfl, h0⟩ | ⟨g, cap, cur, rfl, _, _⟩
    · have hsel := Lib.hid (sel_out (s := s) (p := p) (.inr (by simp at h1; omega)))
      have h2 : decide (0 ≤ p) = true := by simp at h1 ⊢; omega
      go_wp2
      exact bodyPost_ret (v := .tuple #[.int .i64 0, .bool false]) (by simp [results, Tryd.results48, go_sem]) rfl ⟨by rw [hsel.out], hB.out⟩
    · obtain ⟨k, rfl⟩ : ∃ k : Nat, p = k := ⟨p.toNat, by simp at h1; omega⟩
      by_cases hk : k < (nums s).length
      · have h2 : decide (((nums s).length : Int) ≤ (k : Int)) = false := by simp; omega
        have hsel : Hid (selRes s k = ((((nums s)[k] : Nat) : Int), true)) := by
          show _ = _
          unfold selRes; rw [if_pos (by omega)]; simp [hk]
        have hcx := hown.cellAt k (by omega)
        rw [List.getElem?_map, List.getElem?_eq_getElem hk] at hcx
        simp only [Option.map_some, iv] at hcx
        generalize (nums s)[k] = m at hsel hcx
        generalize (nums s).length = ln at *
        go_wp2
        exact bodyPost_ret (v := .tuple #[.int .i64 m, .bool true]) (by simp [results, Tryd.results48, go_sem]) rfl ⟨by rw [hsel.out], hB.out⟩
      · have h2 : decide (((nums s).length : Int) ≤ (k : Int)) = true := by simp; omega
        have hsel := Lib.hid (sel_out (s := s) (p := k) (.inr (by omega)))
        generalize (nums s).length = ln at *
        go_wp2
        exact bodyPost_ret (v := .tuple #[.int .i64 0, .bool false]) (by simp [results, Tryd.results48, go_sem]) rfl ⟨by rw [hsel.out], hB.out⟩
end Go.Proofs.YtalnfbkmlllfhaaDoor

/-
  For the regions that draw: Rank, Count, Has, Right, Values by names that no tactic looks into; what is kept of one container's box.
-/
namespace Go.Proofs.YtalnfbkmlllfhaaDoor
open Go.RowKit Tess

def rk (f : Int) (D : ByteArray) (n : Int) : Int := (rank (ofRes f D).1 n : Int)
def ci (f : Int) (D : ByteArray) : Int := (count (ofRes f D).1 : Int)
def hi (f : Int) (D : ByteArray) (n : Int) : Bool := hasI (ofRes f D).1 n
theorem Rank_rk (f : Int) (D : ByteArray) (n : Int) (w : World) (hD : D.size ≤ 1000000) (hT : Tab w) :
    Calls Tryd.prog 52 #[.agg #[.int .i64 f, .string D], .int .i64 n] w fun e W' => e = .returned (.int .i64 (rk f D n)) ∧ Below w.heap.size w W' := Rank_any f D n w hD hT
theorem Count_ci (f : Int) (D : ByteArray) (w : World) (hD : D.size ≤ 1000000) (hT : Tab w) :
    Calls Tryd.prog 47 #[.agg #[.int .i64 f, .string D]] w fun e W' => e = .returned (.int .i64 (ci f D)) ∧ Below w.heap.size w W' := Count_any f D w hD hT
theorem Has_hi (f : Int) (D : ByteArray) (n : Int) (w : World) (hD : D.size ≤ 1000000) (hT : Tab w) :
    Calls Tryd.prog 46 #[.agg #[.int .i64 f, .string D], .int .i64 n] w fun e W' => e = .returned (.bool (hi f D n)) ∧ Below w.heap.size w W' := Has_any f D n w hD hT
theorem rk_range (f : Int) (D : ByteArray) (n : Int) : 0 ≤ rk f D n ∧ rk f D n ≤ 256 := by
  have := rank_le (ofRes f D).1 n
  unfold rk; omega
theorem ci_range (f : Int) (D : ByteArray) : 0 ≤ ci f D ∧ ci f D ≤ 256 := by
  have := count_le (ofRes f D).1
  unfold ci; omega

/-- One container's box is kept. -/
theorem keep1 {w W W' : World} {b2 : Nat} {f2 : Int} {D2 : ByteArray} (hb : Below W.heap.size W W')
    (s1 : Hid (Below w.heap.size w W)) (s2 : Hid (CBox W b2 f2 D2)) :
    Hid (Below w.heap.size w W') ∧ Hid (CBox W' b2 f2 D2) ∧ W'.cell? ⟨b2, 0, none⟩ = some (.int .i64 f2) ∧ W'.cell? ⟨b2, 1, none⟩ = some (.string D2) := by
  have h2 := s2.out.later hb
  have c2 := blk2_cells h2
  exact ⟨Lib.hid (s1.out.trans (hb.mono s1.out.size)), Lib.hid h2, c2.1, c2.2.1⟩
end Go.Proofs.YtalnfbkmlllfhaaDoor
