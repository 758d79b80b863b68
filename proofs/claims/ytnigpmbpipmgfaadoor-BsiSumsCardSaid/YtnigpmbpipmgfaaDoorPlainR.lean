/-
  Plain, Rank, Vals, Held: several texts in one (merge.py).
-/
import Derived.Test.YtnigpmbpipmgfaaDoorFlipC
import Derived.Test.YtnigpmbpipmgfaaDoorBIter
import Derived.Deep.RegionHeld3

/-
  The plain laws of ContRanks, ContPlaces, ContParts, ContBack: what the functions answer, in lists and numbers.
-/
namespace Go.Proofs.YtnigpmbpipmgfaaDoor
open Go.RowKit Tess

/-- What Make has made, read again. -/
theorem ofRes_mk {zs : List Int} (h0 : (mkRes zs).2 = 0) : ∃ s, s < big ∧ mkRes zs = (best s, 0) ∧ ofRes (mkRes zs).1.form (bs (mkRes zs).1.data) = (s, true) ∧ zs.any badI = false ∧ s = mkSet zs := by
  rcases mkRes_cases zs with hm | ⟨s, hs, hm, hb, he⟩
  · rw [hm] at h0; cases h0
  · exact ⟨s, hs, hm, by rw [hm]; exact ofRes_best hs, hb, he⟩
theorem ofRes_mk_bad {zs : List Int} (h0 : (mkRes zs).2 ≠ 0) : ofRes (mkRes zs).1.form (bs (mkRes zs).1.data) = (0, false) := by
  rcases mkRes_cases zs with hm | ⟨s, hs, hm, hb, he⟩
  · rw [hm]; exact ofRes_zero
  · rw [hm] at h0; exact absurd rfl h0

/-! ## ranks -/
theorem hasI_nat {s n : Nat} (h : n < 256) : hasI s (n : Int) = s.testBit n := by unfold hasI; simp; omega
theorem rank_jump {s n : Nat} (h : n < 256) : (rank s n : Int) = (rank s ((n : Int) - 1) : Int) + (if s.testBit n = true then 1 else 0) := by
  have := rank_succ s n
  by_cases hb : s.testBit n = true
  · rw [this]; simp [h, hb]
  · rw [this]; simp [hb]
theorem rank_le (s : Nat) (n : Int) : rank s n ≤ 256 := Nat.le_trans (rank_le_count s n) (count_le s)

/-! ## places -/
/-- What Select answers, of a set. -/
def selRes (s : Nat) (p : Int) : Int × Bool := if 0 ≤ p ∧ p < (count s : Int) then (((nums s)[p.toNat]?.getD 0 : Nat), true) else (0, false)
theorem count_zero : count 0 = 0 := by decide +kernel
theorem sel_zero (p : Int) : selRes 0 p = (0, false) := by
  unfold selRes; rw [if_neg]; rw [count_zero]; omega
theorem sel_out {s : Nat} {p : Int} (h : p < 0 ∨ (count s : Int) ≤ p) : selRes s p = (0, false) := by
  unfold selRes; rw [if_neg]; omega
theorem sel_in {s : Nat} {p : Int} (h1 : 0 ≤ p) (h2 : p < (count s : Int)) :
    ∃ m : Nat, m < 256 ∧ selRes s p = ((m : Int), true) ∧ hasI s m = true ∧ (rank s m : Int) = p + 1 ∧ (rank s ((m : Int) - 1) : Int) = p := by
  obtain ⟨k, rfl⟩ : ∃ k : Nat, p = k := ⟨p.toNat, by omega⟩
  have hk : k < (nums s).length := by have : k < count s := by omega
                                      exact this
  have hm := mem_nums.1 (List.getElem_mem hk)
  obtain ⟨r1, r2⟩ := rank_place hk
  refine ⟨(nums s)[k], hm.1, ?_, ?_, ?_, ?_⟩
  · unfold selRes; rw [if_pos ⟨h1, h2⟩]; simp [hk]
  · rw [hasI_nat hm.1]; exact hm.2
  · rw [r1]; omega
  · rw [r2]

/-! ## parts -/
/-- What Op answers. -/
def opRes (op : Int) (f1 : Int) (D1 : ByteArray) (f2 : Int) (D2 : ByteArray) : C × Int :=
  if (ofRes f1 D1).2 = true ∧ (ofRes f2 D2).2 = true ∧ 1 ≤ op ∧ op ≤ 4 then (best (opOf op (ofRes f1 D1).1 (ofRes f2 D2).1), 0) else (⟨0, []⟩, 60)
theorem opRes_len (op f1 : Int) (D1 : ByteArray) (f2 : Int) (D2 : ByteArray) : (bs (opRes op f1 D1 f2 D2).1.data).size ≤ 1000000 := by
  rw [bs_size]
  unfold opRes
  split
  · have := best_length_le (opOf op (ofRes f1 D1).1 (ofRes f2 D2).1); show (best _).data.length ≤ _; omega
  · decide
/-- Op of two best forms. -/
theorem opRes_best {op : Int} {s t : Nat} (hs : s < big) (ht : t < big) (h1 : 1 ≤ op) (h2 : op ≤ 4) :
    opRes op (best s).form (bs (best s).data) (best t).form (bs (best t).data) = (best (opOf op s t), 0) := by
  unfold opRes
  rw [ofRes_best hs, ofRes_best ht, if_pos ⟨rfl, rfl, h1, h2⟩]
theorem opOf_ext {a b : Nat} (h : ∀ n, a.testBit n = b.testBit n) : a = b := Nat.eq_of_testBit_eq h
theorem op_or (s t : Nat) : opOf 2 (opOf 2 (opOf 4 s t) (opOf 4 t s)) (opOf 1 s t) = opOf 2 s t :=
  opOf_ext fun n => by simp only [testBit_opOf]; cases s.testBit n <;> cases t.testBit n <;> rfl
theorem op_xor (s t : Nat) : opOf 2 (opOf 4 s t) (opOf 4 t s) = opOf 3 s t :=
  opOf_ext fun n => by simp only [testBit_opOf]; cases s.testBit n <;> cases t.testBit n <;> rfl
theorem op_xor2 (s t : Nat) : opOf 4 (opOf 2 s t) (opOf 1 s t) = opOf 3 s t :=
  opOf_ext fun n => by simp only [testBit_opOf]; cases s.testBit n <;> cases t.testBit n <;> rfl
theorem op_count (s t : Nat) : count s + count t = count (opOf 2 s t) + count (opOf 1 s t) := (count_or_and s t).symm

/-! ## back -/
/-- What As answers. -/
def asRes (f : Int) (D : ByteArray) (form : Int) : C × Int :=
  match (ofRes f D).2, asOf (ofRes f D).1 form with
  | true, some d => (⟨form, d⟩, 0)
  | _, _ => (⟨0, []⟩, 60)
theorem asRes_len (f : Int) (D : ByteArray) (form : Int) : (bs (asRes f D form).1.data).size ≤ 1000000 := by
  rw [bs_size]
  unfold asRes
  split
  · rename_i d _ h
    unfold asOf at h
    show d.length ≤ _
    split at h
    · obtain rfl := Option.some.inj h; exact Nat.le_trans (count_le (ofRes f D).1) (by decide)
    · split at h
      · obtain rfl := Option.some.inj h; rw [raw_length]; decide
      · split at h
        · obtain rfl := Option.some.inj h; exact Nat.le_trans (runs_length_le (ofRes f D).1) (by decide)
        · cases h
  · decide
/-- What Right answers. -/
def rightRes (f : Int) (D : ByteArray) : Bool := (ofRes f D).2 && (((ofRes f D).1 != 0 || D.toList.isEmpty) || f == 2)
theorem runs_zero : runs 0 = [] := by decide +kernel
theorem nums_zero : nums 0 = [] := by decide +kernel
theorem asOf_empty {f : Int} {d : List Nat} (h : asOf 0 f = some d) : d = [] ∨ f = 2 := by
  unfold asOf at h
  rw [nums_zero, runs_zero] at h
  split at h
  · exact .inl (Option.some.inj h).symm
  · split at h
    · exact .inr (by assumption)
    · split at h
      · exact .inl (Option.some.inj h).symm
      · cases h
theorem right_as {s : Nat} (hs : s < big) {f : Int} {d : List Nat} (h : asOf s f = some d) : ofRes f (bs d) = (s, true) ∧ rightRes f (bs d) = true := by
  have e : ofRes f (bs d) = (s, true) := by
    unfold ofRes
    rw [dn_bs (asOf_lt h), ofC_as hs h]
  refine ⟨e, ?_⟩
  unfold rightRes
  rw [e]
  by_cases h0 : s = 0
  · subst h0
    rcases asOf_empty h with rfl | rfl
    · rw [show (bs []).toList.isEmpty = true from by decide +kernel]; rfl
    · simp
  · simp [h0]
theorem right_best {s : Nat} (hs : s < big) : rightRes (best s).form (bs (best s).data) = true := (right_as hs (best_as s)).2
theorem right_zero : rightRes 0 (bs []) = false := by
  unfold rightRes; rw [ofRes_zero]; rfl

theorem mkSet_nums {s : Nat} (hs : s < big) : mkSet ((nums s).map Int.ofNat) = s := by
  unfold mkSet
  rw [List.map_map]
  have e : (Int.toNat ∘ Int.ofNat) = id := by funext x; simp
  rw [e, List.map_id]
  refine set_ext (putAll_lt (by decide +kernel) fun n hn => (mem_nums.1 hn).1) hs fun n hn => ?_
  rw [testBit_putAll, Nat.zero_testBit, Bool.false_or]
  by_cases hb : s.testBit n = true
  · simp [mem_nums, hn, hb]
  · simp [mem_nums, hb]
theorem mkRes_nums {s : Nat} (hs : s < big) : mkRes ((nums s).map Int.ofNat) = (best s, 0) := by
  unfold mkRes
  rw [mkSet_nums hs, if_neg]
  intro h
  obtain ⟨z, hz, hb⟩ := List.any_eq_true.1 h
  obtain ⟨n, hn, rfl⟩ := List.mem_map.1 hz
  have := (mem_nums.1 hn).1
  unfold badI at hb
  simp at hb
  omega
theorem hasI_mk {zs : List Int} (h : zs.any badI = false) (n : Int) : hasI (mkSet zs) n = zs.any (· == n) := by
  have hz := badI_false h
  by_cases h1 : 0 ≤ n ∧ n < 256
  · obtain ⟨m, rfl⟩ : ∃ m : Nat, n = m := ⟨n.toNat, by omega⟩
    rw [hasI_nat (by omega)]
    unfold mkSet
    rw [testBit_putAll, Nat.zero_testBit, Bool.false_or, Bool.eq_iff_iff]
    simp only [decide_eq_true_eq, List.mem_map, List.any_eq_true, beq_iff_eq]
    constructor
    · rintro ⟨z, hzm, e⟩; exact ⟨z, hzm, by have := hz z hzm; omega⟩
    · rintro ⟨z, hzm, e⟩; exact ⟨z, hzm, by omega⟩
  · have e1 : hasI (mkSet zs) n = false := by
      unfold hasI
      by_cases h2 : 0 ≤ n
      · have h3 : ¬ n < 256 := by omega
        simp [h3]
      · simp [h2]
    rw [e1]
    symm
    rw [List.any_eq_false]
    intro z hzm
    have := hz z hzm
    simp only [beq_iff_eq]
    omega
theorem asRes_best {s : Nat} (hs : s < big) {form : Int} (h1 : 1 ≤ form) (h3 : form ≤ 3) :
    ∃ d, asOf s form = some d ∧ asRes (best s).form (bs (best s).data) form = (⟨form, d⟩, 0) ∧ (best s).data.length ≤ d.length := by
  have hd : ∃ d, asOf s form = some d := by
    unfold asOf
    by_cases e1 : form = 1
    · exact ⟨_, by rw [if_pos e1]⟩
    · by_cases e2 : form = 2
      · exact ⟨_, by rw [if_neg e1, if_pos e2]⟩
      · exact ⟨_, by rw [if_neg e1, if_neg e2, if_pos (by omega)]⟩
  obtain ⟨d, hd⟩ := hd
  refine ⟨d, hd, ?_, best_least hd⟩
  unfold asRes
  rw [ofRes_best hs]
  simp only [hd]
end Go.Proofs.YtnigpmbpipmgfaaDoor

/-
  cont's Rank: how many of a set's numbers are at most n.
-/
namespace Go.Proofs.YtnigpmbpipmgfaaDoor
open Go.RowKit Go.Shelf Tess

theorem nums_rising (s : Nat) : (nums s).Pairwise (· < ·) := by
  unfold nums
  exact List.Pairwise.filter _ (List.pairwise_lt_range)
theorem filter_all_le (l : List Nat) (n : Int) (h : ∀ x ∈ l, (x : Int) ≤ n) : (l.filter fun m : Nat => decide ((m : Int) ≤ n)) = l :=
  List.filter_eq_self.2 fun x hx => by simpa using h x hx
theorem rank_done {s : Nat} {ys : List Nat} {n : Int} (hy : ys = nums s) (h : ∀ x ∈ ys, (x : Int) ≤ n) : rank s n = ys.length := by
  unfold rank
  rw [← hy, filter_all_le ys n h]
theorem rank_stop {s : Nat} {pre : List Nat} {x : Nat} {n : Int} (hp : pre ++ [x] <+: nums s) (h : ∀ y ∈ pre, (y : Int) ≤ n) (hx : n < x) : rank s n = pre.length := by
  obtain ⟨t, ht⟩ := hp
  unfold rank
  have hs := nums_rising s
  rw [← ht] at hs ⊢
  rw [List.filter_append, List.filter_append, filter_all_le pre n h]
  have h1 : ([x].filter fun m : Nat => decide ((m : Int) ≤ n)) = [] := by
    rw [List.filter_eq_nil_iff]
    intro y hy
    simp at hy; subst hy; simp; omega
  have h2 : (t.filter fun m : Nat => decide ((m : Int) ≤ n)) = [] := by
    rw [List.filter_eq_nil_iff]
    intro y hy
    have := (List.pairwise_append.1 hs).2.2 x (by simp) y hy
    simp; omega
  rw [h1, h2]; simp

attribute [local go_sem] Oper.semAt_some

end Go.Proofs.YtnigpmbpipmgfaaDoor

/-
  cont's Values, Select: a set's numbers as a new slice.
-/
namespace Go.Proofs.YtnigpmbpipmgfaaDoor
open Go.RowKit Go.Shelf Tess

attribute [local go_sem] Oper.semAt_some

/-- A number in memory. -/
def iv (x : Nat) : Value := .int .i64 (x : Int)

/-- The iterator, outside of the fenced walks. -/
theorem numbers_any (a : Option Addr) (w : World) :
    Calls Tryd.prog 116 #[.pointer a] w fun e w' => e = .returned (.func (.func 118) #[] #[.pointer (some ⟨w.heap.size, 0, none⟩)]) ∧ w' = w.alloc (.cells #[.pointer a] 138) :=
  (callsIn_wide (n := 9)).1 (numbers_in 9 a w)

theorem ints_of_vals {W : World} {base : Nat} {v : Value} {s : Nat} (h : W.ownsRow base 3 1 v (nums s).length ((nums s).map iv)) : Ints W.heap.size W v ((nums s).map Int.ofNat) :=
  ints_of_row h (by rw [List.map_map]; rfl)

end Go.Proofs.YtnigpmbpipmgfaaDoor

/-
  For the regions that draw: Rank, Count, Has, Right, Values by names that no tactic looks into; what is kept of one container's box.
-/
namespace Go.Proofs.YtnigpmbpipmgfaaDoor
open Go.RowKit Tess

def rk (f : Int) (D : ByteArray) (n : Int) : Int := (rank (ofRes f D).1 n : Int)
def ci (f : Int) (D : ByteArray) : Int := (count (ofRes f D).1 : Int)
def hi (f : Int) (D : ByteArray) (n : Int) : Bool := hasI (ofRes f D).1 n
theorem Count_ci (f : Int) (D : ByteArray) (w : World) (hD : D.size ≤ 1000000) (hT : Tab w) :
    Calls Tryd.prog 53 #[.agg #[.int .i64 f, .string D]] w fun e W' => e = .returned (.int .i64 (ci f D)) ∧ Below w.heap.size w W' := Count_any f D w hD hT
theorem Has_hi (f : Int) (D : ByteArray) (n : Int) (w : World) (hD : D.size ≤ 1000000) (hT : Tab w) :
    Calls Tryd.prog 88 #[.agg #[.int .i64 f, .string D], .int .i64 n] w fun e W' => e = .returned (.bool (hi f D n)) ∧ Below w.heap.size w W' := Has_any f D n w hD hT
theorem rk_range (f : Int) (D : ByteArray) (n : Int) : 0 ≤ rk f D n ∧ rk f D n ≤ 256 := by
  have := rank_le (ofRes f D).1 n
  unfold rk; omega
theorem ci_range (f : Int) (D : ByteArray) : 0 ≤ ci f D ∧ ci f D ≤ 256 := by
  have := count_le (ofRes f D).1
  unfold ci; omega

/-- One container's box is kept. -/
theorem keep1 {w W W' : World} {b2 : Nat} {f2 : Int} {D2 : ByteArray} (hb : Below W.heap.size W W')
    (s1 : Hid (Below w.heap.size w W)) (s2 : Hid (CBox W b2 f2 D2)) :
    Hid (Below w.heap.size w W') ∧ Hid (CBox W' b2 f2 D2) ∧ W'.cell? ⟨b2, 0, none⟩ = some (.int .i64 f2) ∧ W'.cell? ⟨b2, 1, none⟩ = some (.string D2) := by
  have h2 := s2.out.later hb
  have c2 := blk2_cells h2
  exact ⟨Lib.hid (s1.out.trans (hb.mono s1.out.size)), Lib.hid h2, c2.1, c2.2.1⟩
end Go.Proofs.YtnigpmbpipmgfaaDoor
