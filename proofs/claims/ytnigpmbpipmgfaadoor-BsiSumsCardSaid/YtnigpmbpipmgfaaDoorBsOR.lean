/-
  BsOl, RbP: several texts in one (merge.py).
-/
import Derived.Test.YtnigpmbpipmgfaaDoorBsY
import Derived.Test.YtnigpmbpipmgfaaDoorBsF

/-
  The least, the greatest of some rows, what is between; BsiOrders in plain.
-/
namespace Go.Proofs.YtnigpmbpipmgfaaDoor
open Go.RowKit Tess

theorem and_ex {b : Sl} (hc : IsCol b) {rows : List Ch} (hr : rightL rows = true) {r : Nat} (h : r < 65536) (hb : bitL (andL b.ex rows) r = true) : bitL b.ex r = true := by
  rw [(and_some hc.rex hr).2.2 r h, Bool.and_eq_true] at hb
  exact hb.1
theorem lst_spec {b : Sl} (hl : -9223372036854775808 ≤ b.least ∧ b.least ≤ 9223372036854775807) (hri : isRightB b = true) {rows : List Ch} (hr : rightL rows = true) (hne : andL b.ex rows ≠ []) :
    ∃ n, lstB b rows = (n, true) ∧ (∃ r, r < 65536 ∧ bitL (andL b.ex rows) r = true ∧ numB b r = n) ∧ ∀ r, r < 65536 → bitL (andL b.ex rows) r = true → n ≤ numB b r := by
  have hc := (right_iff hl).1 hri
  have a := and_some hc.rex hr
  have hd : ∀ x ∈ b.bits.reverse, rightL x = true := fun x hx => hc.rbits x (List.mem_reverse.1 hx)
  obtain ⟨⟨r, hr1, hb, e⟩, hall⟩ := downD_spec 0 hd a.2.1 hne
  refine ⟨numB b r, ?_, ⟨r, hr1, hb, rfl⟩, fun s hs hbs => ?_⟩
  · unfold lstB
    rw [fndB_yes ⟨⟨hri, hr⟩, hne⟩, ← e]
    show (IntKind.i64.wrap (b.least + ((valB b r : Nat) : Int)), true) = (numB b r, true)
    have := hc.most r hr1 (and_ex hc hr hr1 hb)
    rw [IntKind.wrap_i64]
    unfold numB
    congr 1
    omega
  · have h1 := hall s hs hbs
    have h2 : valB b r ≤ valB b s := by unfold valB; rw [e]; exact h1
    unfold numB
    omega
theorem mst_spec {b : Sl} (hl : -9223372036854775808 ≤ b.least ∧ b.least ≤ 9223372036854775807) (hri : isRightB b = true) {rows : List Ch} (hr : rightL rows = true) (hne : andL b.ex rows ≠ []) :
    ∃ n, mstB b rows = (n, true) ∧ (∃ r, r < 65536 ∧ bitL (andL b.ex rows) r = true ∧ numB b r = n) ∧ ∀ r, r < 65536 → bitL (andL b.ex rows) r = true → numB b r ≤ n := by
  have hc := (right_iff hl).1 hri
  have a := and_some hc.rex hr
  have hd : ∀ x ∈ b.bits.reverse, rightL x = true := fun x hx => hc.rbits x (List.mem_reverse.1 hx)
  obtain ⟨⟨r, hr1, hb, e⟩, hall⟩ := upD_spec 0 hd a.2.1 hne
  refine ⟨numB b r, ?_, ⟨r, hr1, hb, rfl⟩, fun s hs hbs => ?_⟩
  · unfold mstB
    rw [fndB_yes ⟨⟨hri, hr⟩, hne⟩, ← e]
    show (IntKind.i64.wrap (b.least + ((valB b r : Nat) : Int)), true) = (numB b r, true)
    have := hc.most r hr1 (and_ex hc hr hr1 hb)
    rw [IntKind.wrap_i64]
    unfold numB
    congr 1
    omega
  · have h1 := hall s hs hbs
    have h2 : valB b s ≤ valB b r := by unfold valB; rw [e]; exact h1
    unfold numB
    omega
theorem btw_spec {b : Sl} (hc : IsCol b) (hri : isRightB b = true) (x y : Int) : (btwB b x y).2 = 0 ∧ rightL (btwB b x y).1 = true ∧ ∀ r, r < 65536 → (bitL (btwB b x y).1 r = true ↔ bitL b.ex r = true ∧ x ≤ numB b r ∧ numB b r ≤ y) := by
  have p := partB_spec hc x
  have q := partB_spec hc y
  have w1 := wi_some hc.rex p.r1
  have w2 := wi_some hc.rex q.r3
  have a := and_some w1.2.1 w2.2.1
  have e : btwB b x y = (andL (wiL b.ex (partB b x).1) (wiL b.ex (partB b y).2.2), 0) := if_pos hri
  rw [e]
  refine ⟨rfl, a.2.1, fun r hr => ?_⟩
  show bitL (andL _ _) r = true ↔ _
  rw [a.2.2 r hr, w1.2.2 r hr, w2.2.2 r hr]
  have h1 := p.lt r hr
  have h2 := q.gt r hr
  have e1 : bitL (partB b x).1 r = false ↔ ¬ (bitL b.ex r = true ∧ numB b r < x) := by rw [← h1]; simp
  have e2 : bitL (partB b y).2.2 r = false ↔ ¬ (bitL b.ex r = true ∧ y < numB b r) := by rw [← h2]; simp
  simp only [Bool.and_eq_true, Bool.not_eq_true', e1, e2]
  by_cases hx : bitL b.ex r = true
  · simp only [hx, true_and]; omega
  · exact ⟨fun h => absurd h.1.1 hx, fun h => absurd h.1 hx⟩
theorem and_comm_L {l m : List Ch} (hl : rightL l = true) (hm : rightL m = true) : andL l m = andL m l :=
  ext_bits (and_some hl hm).2.1 (and_some hm hl).2.1 fun n hn => by rw [(and_some hl hm).2.2 n hn, (and_some hm hl).2.2 n hn, Bool.and_comm]
theorem num_range {b : Sl} (hl : -9223372036854775808 ≤ b.least ∧ b.least ≤ 9223372036854775807) (hc : IsCol b) {r : Nat} (hr : r < 65536) (hb : bitL b.ex r = true) : -9223372036854775808 ≤ numB b r ∧ numB b r ≤ 9223372036854775807 := by
  have := hc.most r hr hb
  unfold numB
  omega
theorem orders_none {b : Sl} {rows : List Ch} (h : andL b.ex rows = []) : lstB b rows = (0, false) ∧ mstB b rows = (0, false) := ⟨fndB_no fun k => k.2 h, fndB_no fun k => k.2 h⟩
/-- **BsiOrders, in plain.** -/
theorem orders_some {b : Sl} (hl : -9223372036854775808 ≤ b.least ∧ b.least ≤ 9223372036854775807) (hri : isRightB b = true) {rows : List Ch} (hr : rightL rows = true) (hne : andL b.ex rows ≠ []) :
    ∃ n m, lstB b rows = (n, true) ∧ mstB b rows = (m, true) ∧ n ≤ m ∧ (-9223372036854775808 ≤ n ∧ n ≤ 9223372036854775807) ∧ (-9223372036854775808 ≤ m ∧ m ≤ 9223372036854775807) ∧
      wiL (andL b.ex rows) (btwB b n m).1 = [] ∧ andL (findB b 1 n) (andL b.ex rows) ≠ [] ∧ andL (findB b 1 m) (andL b.ex rows) ≠ [] := by
  have hc := (right_iff hl).1 hri
  obtain ⟨n, e1, ⟨r, hr1, hb1, en⟩, h1⟩ := lst_spec hl hri hr hne
  obtain ⟨m, e2, ⟨s, hs1, hbs, em⟩, h2⟩ := mst_spec hl hri hr hne
  have a := and_some hc.rex hr
  have B := btw_spec hc hri n m
  have w := wi_some a.2.1 B.2.1
  have f := fun x => findB_spec hc 1 x
  refine ⟨n, m, e1, e2, by rw [← em]; exact h1 s hs1 hbs, by rw [← en]; exact num_range hl hc hr1 (and_ex hc hr hr1 hb1), by rw [← em]; exact num_range hl hc hs1 (and_ex hc hr hs1 hbs), ?_, ?_, ?_⟩
  · refine (nil_iff w.2.1).2 fun k hk => ?_
    rw [w.2.2 k hk]
    cases hb : bitL (andL b.ex rows) k with
    | false => rfl
    | true => rw [(B.2.2 k hk).2 ⟨and_ex hc hr hk hb, h1 k hk hb, h2 k hk hb⟩]; rfl
  · refine ne_of_bit (n := r) ?_
    rw [(and_some (f n).1 a.2.1).2.2 r hr1, hb1, (f n).2 r hr1, and_ex hc hr hr1 hb1, en]
    show (true && (n == n) && true) = true
    simp
  · refine ne_of_bit (n := s) ?_
    rw [(and_some (f m).1 a.2.1).2.2 s hs1, hbs, (f m).2 s hs1, and_ex hc hr hs1 hbs, em]
    show (true && (m == m) && true) = true
    simp
end Go.Proofs.YtnigpmbpipmgfaaDoor

/-
  The reference's columns, in plain.
-/
namespace Go.Proofs.YtnigpmbpipmgfaaDoor
open Go.RowKit Tess

theorem idx_map (n : Nat) (f : Nat → Bool) : idxB ((List.range n).map f) = (List.range n).filter f := by
  unfold idxB
  rw [List.length_map, List.length_range]
  exact List.filter_congr fun i hi => by
    have := List.mem_range.1 hi
    simp [this]
theorem vI_map (n : Nat) (f : Nat → Int) (i : Nat) : vI ((List.range n).map f) i = if i < n then f i else 0 := by
  unfold vI
  by_cases h : i < n
  · rw [if_pos h]; simp [h]
  · rw [if_neg h]; simp [h]
/-- Where a column has a number; its numbers, of the first k digits. -/
def hasK (b : Sl) : List Bool := (List.range b.n.toNat).map (bitL b.ex)
def upK (b : Sl) (k r : Nat) : Int := IntKind.i64.wrap ((if bitL b.ex r = true then b.least else 0) + (valU b.bits (r : Int) k : Nat))
def numK (b : Sl) (k : Nat) : List Int := (List.range b.n.toNat).map (upK b k)
def colK (b : Sl) : List Int := numK b b.bits.length
theorem colK_ok {b : Sl} (h1 : b.n ≤ 1000) : ColOk (colK b) (hasK b) := by
  refine ⟨?_, ?_, fun i => ?_⟩
  · unfold colK numK; rw [List.length_map, List.length_range]; omega
  · unfold colK numK hasK; rw [List.length_map, List.length_map]
  · unfold colK numK
    rw [vI_map]
    split
    · unfold upK; rw [IntKind.wrap_i64]; omega
    · omega
theorem idx_hasK (b : Sl) : idxB (hasK b) = (List.range b.n.toNat).filter (bitL b.ex) := idx_map _ _
theorem mem_hasK {b : Sl} (h : IsCol b) (r : Nat) : r ∈ idxB (hasK b) ↔ r < 65536 ∧ bitL b.ex r = true := by
  rw [idx_hasK, List.mem_filter, List.mem_range]
  have h0 := h.n0; have h1 := h.n1
  exact ⟨fun ⟨a, c⟩ => ⟨by omega, c⟩, fun ⟨a, c⟩ => ⟨by have := h.rows r a c; omega, c⟩⟩
theorem valU_bit {b : Sl} (h : IsCol b) (r : Nat) (hr : r < 65536) : ∀ k, k ≤ b.bits.length → ∀ j, j < k → (valU b.bits (r : Int) k).testBit j = bitL (b.bits[j]?.getD []) r
  | 0, _, j, hj => by omega
  | k + 1, hk, j, hj => by
    have hx : rightL (b.bits[k]?.getD []) = true := by
      rw [List.getElem?_eq_getElem (by omega)]
      exact h.rbits _ (List.getElem_mem _)
    have hl := valU_lt b.bits (r : Int) k
    unfold valU
    rw [hasL_bits hx, decide_eq_true (by omega), Bool.true_and, Int.toNat_natCast, Nat.add_comm, Nat.mul_comm, Nat.testBit_two_pow_mul_add _ hl]
    by_cases hjk : j < k
    · rw [if_pos hjk, valU_bit h r hr k (by omega) j hjk]
    · have : j = k := by omega
      subst this
      rw [if_neg hjk, Nat.sub_self]
      cases bitL (b.bits[j]?.getD []) r <;> rfl
theorem valU_none {b : Sl} (h : IsCol b) {r : Nat} (hr : r < 65536) (hn : bitL b.ex r = false) : ∀ k, k ≤ b.bits.length → valU b.bits (r : Int) k = 0
  | 0, _ => rfl
  | k + 1, hk => by
    have hm : b.bits[k]?.getD [] ∈ b.bits := by
      rw [List.getElem?_eq_getElem (by omega)]
      exact List.getElem_mem _
    have hf : bitL (b.bits[k]?.getD []) r = false := by
      cases hb : bitL (b.bits[k]?.getD []) r
      · rfl
      · rw [h.inn _ hm r hr hb] at hn; cases hn
    unfold valU
    rw [valU_none h hr hn k (by omega), hasL_bits (h.rbits _ hm), Int.toNat_natCast, hf, Bool.and_false]
    simp
theorem valU_valB {b : Sl} (h : IsCol b) {r : Nat} (hr : r < 65536) : valU b.bits (r : Int) b.bits.length = valB b r := valU_val h.rbits r hr
/-- The numbers of a column. -/
theorem vI_colK {b : Sl} (h : IsCol b) (hl : -9223372036854775808 ≤ b.least ∧ b.least ≤ 9223372036854775807) (r : Nat) (hr : r < 65536) : vI (colK b) r = if bitL b.ex r = true then numB b r else 0 := by
  unfold colK numK
  rw [vI_map]
  have h0 := h.n0; have h1 := h.n1
  by_cases hb : bitL b.ex r = true
  · have := h.rows r hr hb
    have hm := h.most r hr hb
    rw [if_pos hb, if_pos (by omega)]
    unfold upK numB
    rw [if_pos hb, valU_valB h hr, IntKind.wrap_i64]
    omega
  · rw [if_neg hb]
    split
    · unfold upK
      rw [if_neg hb, valU_none h hr (by simpa using hb) _ (Nat.le_refl _)]
      rfl
    · rfl
theorem lo_colK {b : Sl} (h : IsCol b) (hl : -9223372036854775808 ≤ b.least ∧ b.least ≤ 9223372036854775807) : loS (vI (colK b)) (idxB (hasK b)) = b.least := by
  have hs := loS_spec (vI (colK b)) (idxB (hasK b))
  by_cases he : b.ex = []
  · have : idxB (hasK b) = [] := List.eq_nil_iff_forall_not_mem.2 fun r hr => by
      have := (mem_hasK h r).1 hr
      rw [he, bitL_nil] at this
      cases this.2
    rw [this, loS_nil, (h.none he).1]
  · obtain ⟨n, hn, hb, hv⟩ := h.least he
    have hm := (mem_hasK h n).2 ⟨hn, hb⟩
    obtain ⟨a, ha, ea⟩ := hs.1 (List.ne_nil_of_mem hm)
    obtain ⟨ha1, ha2⟩ := (mem_hasK h a).1 ha
    have h1 := hs.2 n hm
    rw [vI_colK h hl n hn, if_pos hb] at h1
    rw [vI_colK h hl a ha1, if_pos ha2] at ea
    unfold numB at *
    omega
theorem up_colK {b : Sl} (h : IsCol b) (hl : -9223372036854775808 ≤ b.least ∧ b.least ≤ 9223372036854775807) {r : Nat} (hr : r ∈ idxB (hasK b)) : upBy (colK b) (hasK b) r = valB b r := by
  obtain ⟨h1, h2⟩ := (mem_hasK h r).1 hr
  unfold upBy
  rw [lo_colK h hl, vI_colK h hl r h1, if_pos h2]
  unfold numB
  omega
theorem lenB_is {x k : Nat} (h1 : x < 2 ^ k) (h2 : k ≠ 0 → 2 ^ (k - 1) ≤ x) : lenB x = k := by
  have a := lenB_le.2 h1
  by_cases h0 : k = 0
  · omega
  · have b := h2 h0
    have c : ¬ lenB x ≤ k - 1 := fun hh => by have := lenB_le.1 hh; omega
    omega
theorem dig_colK {b : Sl} (h : IsCol b) (hl : -9223372036854775808 ≤ b.least ∧ b.least ≤ 9223372036854775807) : digN (colK b) (hasK b) = b.bits.length := by
  have hs := hiS_spec (vI (colK b)) (idxB (hasK b))
  have hlo := lo_colK h hl
  unfold digN
  rw [hlo]
  by_cases he : b.ex = []
  · have hi : idxB (hasK b) = [] := List.eq_nil_iff_forall_not_mem.2 fun r hr => by
      have := (mem_hasK h r).1 hr
      rw [he, bitL_nil] at this
      cases this.2
    rw [hi, hiS_nil, (h.none he).1, (h.none he).2]
    rfl
  · obtain ⟨n, hn, hb, hv⟩ := h.least he
    obtain ⟨a, ha, ea⟩ := hs.1 (List.ne_nil_of_mem ((mem_hasK h n).2 ⟨hn, hb⟩))
    obtain ⟨ha1, ha2⟩ := (mem_hasK h a).1 ha
    have hx : (hiS (vI (colK b)) (idxB (hasK b)) - b.least).toNat = valB b a := by
      rw [← ea, vI_colK h hl a ha1, if_pos ha2]
      unfold numB
      omega
    rw [hx]
    refine lenB_is (valB_lt b a) fun h0 => ?_
    have hlast := h.last he (fun e => h0 (by rw [e]; rfl))
    have hm : b.bits.getLastD [] = b.bits[b.bits.length - 1]?.getD [] := by rw [List.getLastD_eq_getLast?, List.getLast?_eq_getElem?]
    have hmem : b.bits[b.bits.length - 1]?.getD [] ∈ b.bits := by
      rw [List.getElem?_eq_getElem (by omega)]
      exact List.getElem_mem _
    rw [hm] at hlast
    obtain ⟨r, hr, hbr⟩ := ne_nil (h.rbits _ hmem) hlast
    have hbit := valU_bit h r hr b.bits.length (Nat.le_refl _) (b.bits.length - 1) (by omega)
    rw [valU_valB h hr, hbr] at hbit
    have h3 : 2 ^ (b.bits.length - 1) ≤ valB b r := Nat.ge_two_pow_of_testBit hbit
    have hex := h.inn _ hmem r hr hbr
    have h4 := hs.2 r ((mem_hasK h r).2 ⟨hr, hex⟩)
    rw [← ea, vI_colK h hl r hr, if_pos hex, vI_colK h hl a ha1, if_pos ha2] at h4
    unfold numB at h4
    omega
/-- **A column of slices makes them again.** -/
theorem col_back {b : Sl} (h : IsCol b) (hl : -9223372036854775808 ≤ b.least ∧ b.least ≤ 9223372036854775807) : mkB (colK b) (hasK b) = b := by
  have ok := colK_ok h.n1
  have h0 := h.n0
  have hd := dig_colK h hl
  have e1 : ((colK b).length : Int) = b.n := by unfold colK numK; rw [List.length_map, List.length_range]; omega
  have e3 : mkN (idxB (hasK b)) = b.ex := ext_bits (mkN_bits ok.idx).1 h.rex fun n hn => by
    rw [(mkN_bits ok.idx).2 n hn]
    cases hb : bitL b.ex n
    · exact decide_eq_false fun hm => by rw [((mem_hasK h n).1 hm).2] at hb; cases hb
    · exact decide_eq_true ((mem_hasK h n).2 ⟨hn, hb⟩)
  have e4 : ((List.range (digN (colK b) (hasK b))).map fun k => mkN (rowsD (colK b) (hasK b) k)) = b.bits := by
    apply List.ext_getElem
    · rw [List.length_map, List.length_range, hd]
    · intro k h1 h2
      rw [List.getElem_map, List.getElem_range]
      have hmem := h.rbits _ (List.getElem_mem h2)
      refine ext_bits (mkN_bits (ok.rows k)).1 hmem fun n hn => ?_
      rw [(mkN_bits (ok.rows k)).2 n hn]
      have hbit := valU_bit h n hn b.bits.length (Nat.le_refl _) k h2
      rw [valU_valB h hn, List.getElem?_eq_getElem h2] at hbit
      simp only [Option.getD_some] at hbit
      cases hb : bitL b.bits[k] n
      · refine decide_eq_false fun hm => ?_
        obtain ⟨h5, h6⟩ := rowsD_mem.1 hm
        rw [up_colK h hl h5, hbit, hb] at h6
        cases h6
      · have hin := (mem_hasK h n).2 ⟨hn, h.inn _ (List.getElem_mem h2) n hn hb⟩
        exact decide_eq_true (rowsD_mem.2 ⟨hin, by rw [up_colK h hl hin, hbit, hb]⟩)
  unfold mkB
  rw [e1, lo_colK h hl, e3, e4]
theorem col_iff {b : Sl} (h1 : b.n ≤ 1000) (hl : -9223372036854775808 ≤ b.least ∧ b.least ≤ 9223372036854775807) : isRightB b = true ↔ mkB (colK b) (hasK b) = b :=
  ⟨fun h => col_back ((right_iff hl).1 h) hl, fun e => by rw [← e]; exact mkB_right (colK_ok h1)⟩

/-- **Compare, by the numbers.** -/
theorem find_ref {b : Sl} (h : IsCol b) (op n : Int) : mkN ((List.range b.n.toNat).filter fun r => bitL b.ex r && holdsB (numB b r) op n) = findB b op n := by
  have f := findB_spec h op n
  have h0 := h.n0; have h1 := h.n1
  have hlt : ∀ x ∈ (List.range b.n.toNat).filter (fun r => bitL b.ex r && holdsB (numB b r) op n), x < 65536 := fun x hx => by
    have := List.mem_range.1 (List.mem_filter.1 hx).1
    omega
  refine ext_bits (mkN_bits hlt).1 f.1 fun r hr => ?_
  rw [(mkN_bits hlt).2 r hr, f.2 r hr]
  cases hb : bitL b.ex r && holdsB (numB b r) op n
  · exact decide_eq_false fun hm => by have := (List.mem_filter.1 hm).2; rw [hb] at this; cases this
  · refine decide_eq_true (List.mem_filter.2 ⟨List.mem_range.2 ?_, hb⟩)
    have := h.rows r hr (Bool.and_eq_true .. ▸ hb).1
    omega
/-- **Between, by the numbers.** -/
theorem btw_ref {b : Sl} (h : IsCol b) (hri : isRightB b = true) (x y : Int) : mkN ((List.range b.n.toNat).filter fun r => bitL b.ex r && (decide (x ≤ numB b r) && decide (numB b r ≤ y))) = (btwB b x y).1 := by
  have f := btw_spec h hri x y
  have h0 := h.n0; have h1 := h.n1
  have hlt : ∀ z ∈ (List.range b.n.toNat).filter (fun r => bitL b.ex r && (decide (x ≤ numB b r) && decide (numB b r ≤ y))), z < 65536 := fun z hz => by
    have := List.mem_range.1 (List.mem_filter.1 hz).1
    omega
  refine ext_bits (mkN_bits hlt).1 f.2.1 fun r hr => ?_
  rw [(mkN_bits hlt).2 r hr, Bool.eq_iff_iff, f.2.2 r hr, decide_eq_true_eq, List.mem_filter, List.mem_range]
  simp only [Bool.and_eq_true, decide_eq_true_eq]
  constructor
  · rintro ⟨a, c, d, e⟩; exact ⟨c, d, e⟩
  · rintro ⟨c, d, e⟩; exact ⟨by have := h.rows r hr c; omega, c, d, e⟩

/-- The numbers of those of some rows that have one. -/
def someR (b : Sl) (rows : List Ch) : List Nat := (allN rows).filter fun r => bitL b.ex r
def someC (b : Sl) (rows : List Ch) : List Int := if isRightB b = true ∧ rightL rows = true then (someR b rows).map (numB b) else []
theorem someR_mem {b : Sl} {rows : List Ch} (hr : rightL rows = true) {r : Nat} : r ∈ someR b rows ↔ r < 65536 ∧ bitL rows r = true ∧ bitL b.ex r = true := by
  unfold someR
  rw [allN_bits hr, List.mem_filter, List.mem_filter, List.mem_range]
  exact ⟨fun ⟨⟨a, c⟩, d⟩ => ⟨a, c, d⟩, fun ⟨a, c, d⟩ => ⟨⟨a, c⟩, d⟩⟩
theorem cnt_and {a r : List Ch} (ha : rightL a = true) (hr : rightL r = true) : cntN (andL a r) = (((List.range 65536).filter (bitL r)).filter (bitL a)).length := by
  unfold cntN
  rw [List.filter_filter]
  exact congrArg List.length (List.filter_congr fun n hn => (and_some ha hr).2.2 n (List.mem_range.1 hn))
theorem cnt_some {b : Sl} (h : IsCol b) {rows : List Ch} (hr : rightL rows = true) : cntN (andL b.ex rows) = (someR b rows).length := by
  rw [cnt_and h.rex hr]
  unfold someR
  rw [allN_bits hr]
theorem cnt_bits {b : Sl} (h : IsCol b) {rows : List Ch} (hr : rightL rows = true) {x : List Ch} (hx : x ∈ b.bits) : cntN (andL x rows) = ((someR b rows).filter (bitL x)).length := by
  rw [cnt_and (h.rbits x hx) hr]
  unfold someR
  rw [allN_bits hr, List.filter_filter, List.filter_filter, List.filter_filter]
  exact congrArg List.length (List.filter_congr fun n hn => by
    have := h.inn x hx n (List.mem_range.1 hn)
    cases hb : bitL x n
    · rfl
    · rw [this hb]; rfl)
theorem sum_count (f : Nat → Int) (g : Nat → Bool) (c : Int) : ∀ xs : List Nat, (xs.map fun r => f r + ((g r).toNat : Int) * c).sum = (xs.map f).sum + ((xs.filter g).length : Int) * c
  | [] => by simp
  | x :: xs => by
    have ih := sum_count f g c xs
    rw [List.map_cons, List.sum_cons, ih, List.map_cons, List.sum_cons, List.filter_cons]
    cases g x
    · simp; omega
    · simp only [if_true, List.length_cons, Bool.toNat_true]
      push_cast
      rw [Int.add_mul]
      omega
theorem sum_const (c : Int) : ∀ xs : List Nat, (xs.map fun _ => c).sum = c * (xs.length : Int)
  | [] => by simp
  | x :: xs => by
    rw [List.map_cons, List.sum_cons, sum_const c xs, List.length_cons]
    push_cast
    rw [Int.mul_add]
    omega
theorem acc_some {b : Sl} (h : IsCol b) {rows : List Ch} (hr : rightL rows = true) : ∀ k, k ≤ b.bits.length →
    accU b.bits rows (b.least * (cntN (andL b.ex rows) : Int)) k = ((someR b rows).map fun r : Nat => b.least + (valU b.bits (r : Int) k : Nat)).sum
  | 0, _ => by
    unfold accU
    rw [cnt_some h hr, ← sum_const]
    congr 1
    exact List.map_congr_left fun r _ => by simp [valU]
  | k + 1, hk => by
    have hm : b.bits[k]?.getD [] ∈ b.bits := by
      rw [List.getElem?_eq_getElem (by omega)]
      exact List.getElem_mem _
    unfold accU
    rw [acc_some h hr k (by omega), cnt_bits h hr hm, ← sum_count]
    congr 1
    refine List.map_congr_left fun r hrm => ?_
    have hr1 := ((someR_mem hr).1 hrm).1
    show _ = b.least + ((valU b.bits (r : Int) k + (hasL (b.bits[k]?.getD []) (r : Int)).toNat * 2 ^ k : Nat) : Int)
    rw [hasL_bits (h.rbits _ hm), decide_eq_true (by omega), Bool.true_and, Int.toNat_natCast]
    push_cast
    omega
/-- **Sum, by the numbers.** -/
theorem sum_ref {b : Sl} (hl : -9223372036854775808 ≤ b.least ∧ b.least ≤ 9223372036854775807) {rows : List Ch} (h : isRightB b = true ∧ rightL rows = true) : sumB b rows = ((someC b rows).sum, ((someC b rows).length : Int), 0) := by
  have hc := (right_iff hl).1 h.1
  have e : someC b rows = (someR b rows).map (numB b) := if_pos h
  rw [sumB_yes h, e, List.length_map, acc_some hc h.2 _ (Nat.le_refl _), cnt_some hc h.2]
  congr 1
  congr 1
  refine List.map_congr_left fun r hr => ?_
  rw [valU_valB hc ((someR_mem h.2).1 hr).1]
  rfl
def mnI (a b : Int) : Int := if b < a then b else a
def mxI (a b : Int) : Int := if a < b then b else a
def lstR (l : List Int) : Int × Bool := if l.length = 0 then (0, false) else (l.foldl mnI (l[0]?.getD 0), true)
def mstR (l : List Int) : Int × Bool := if l.length = 0 then (0, false) else (l.foldl mxI (l[0]?.getD 0), true)
theorem fold_mn : ∀ (l : List Int) (a : Int), (l.foldl mnI a = a ∨ l.foldl mnI a ∈ l) ∧ l.foldl mnI a ≤ a ∧ ∀ x ∈ l, l.foldl mnI a ≤ x
  | [], a => ⟨.inl rfl, Int.le_refl _, fun x hx => by cases hx⟩
  | y :: l, a => by
    obtain ⟨h1, h2, h3⟩ := fold_mn l (mnI a y)
    rw [List.foldl_cons]
    have hm : (mnI a y = a ∨ mnI a y = y) ∧ mnI a y ≤ a ∧ mnI a y ≤ y := by unfold mnI; split <;> omega
    refine ⟨?_, by omega, fun x hx => ?_⟩
    · rcases h1 with h1 | h1
      · rw [h1]
        rcases hm.1 with h | h
        · exact .inl h
        · rw [h]; exact .inr List.mem_cons_self
      · exact .inr (List.mem_cons_of_mem _ h1)
    · rcases List.mem_cons.1 hx with rfl | hx
      · omega
      · exact h3 x hx
theorem fold_mx : ∀ (l : List Int) (a : Int), (l.foldl mxI a = a ∨ l.foldl mxI a ∈ l) ∧ a ≤ l.foldl mxI a ∧ ∀ x ∈ l, x ≤ l.foldl mxI a
  | [], a => ⟨.inl rfl, Int.le_refl _, fun x hx => by cases hx⟩
  | y :: l, a => by
    obtain ⟨h1, h2, h3⟩ := fold_mx l (mxI a y)
    rw [List.foldl_cons]
    have hm : (mxI a y = a ∨ mxI a y = y) ∧ a ≤ mxI a y ∧ y ≤ mxI a y := by unfold mxI; split <;> omega
    refine ⟨?_, by omega, fun x hx => ?_⟩
    · rcases h1 with h1 | h1
      · rw [h1]
        rcases hm.1 with h | h
        · exact .inl h
        · rw [h]; exact .inr List.mem_cons_self
      · exact .inr (List.mem_cons_of_mem _ h1)
    · rcases List.mem_cons.1 hx with rfl | hx
      · omega
      · exact h3 x hx
theorem some_none {b : Sl} (h : IsCol b) {rows : List Ch} (hr : rightL rows = true) : andL b.ex rows = [] ↔ someR b rows = [] := by
  have a := and_some h.rex hr
  rw [nil_iff a.2.1, List.eq_nil_iff_forall_not_mem]
  constructor
  · intro hh r hm
    obtain ⟨h1, h2, h3⟩ := (someR_mem hr).1 hm
    have := hh r h1
    rw [a.2.2 r h1, h2, h3] at this
    cases this
  · intro hh r h1
    rw [a.2.2 r h1]
    cases h2 : bitL b.ex r
    · rfl
    · cases h3 : bitL rows r
      · rfl
      · exact absurd ((someR_mem hr).2 ⟨h1, h3, h2⟩) (hh r)
theorem someC_mem {b : Sl} (h : IsCol b) {rows : List Ch} (hr : rightL rows = true) {x : Int} : x ∈ (someR b rows).map (numB b) ↔ ∃ r, r < 65536 ∧ bitL (andL b.ex rows) r = true ∧ numB b r = x := by
  have a := and_some h.rex hr
  rw [List.mem_map]
  constructor
  · rintro ⟨r, hm, e⟩
    obtain ⟨h1, h2, h3⟩ := (someR_mem hr).1 hm
    exact ⟨r, h1, by rw [a.2.2 r h1, h2, h3]; rfl, e⟩
  · rintro ⟨r, h1, h2, e⟩
    rw [a.2.2 r h1, Bool.and_eq_true] at h2
    exact ⟨r, (someR_mem hr).2 ⟨h1, h2.2, h2.1⟩, e⟩
/-- **Least and Most, by the numbers.** -/
theorem lst_ref {b : Sl} (hl : -9223372036854775808 ≤ b.least ∧ b.least ≤ 9223372036854775807) (rows : List Ch) : lstB b rows = lstR (someC b rows) ∧ mstB b rows = mstR (someC b rows) := by
  by_cases h : isRightB b = true ∧ rightL rows = true
  · have hc := (right_iff hl).1 h.1
    have e : someC b rows = (someR b rows).map (numB b) := if_pos h
    rw [e]
    by_cases hn : andL b.ex rows = []
    · have := (some_none hc h.2).1 hn
      rw [this, (orders_none hn).1, (orders_none hn).2]
      exact ⟨rfl, rfl⟩
    · have hne : someR b rows ≠ [] := fun e => hn ((some_none hc h.2).2 e)
      obtain ⟨n, e1, hm1, h1⟩ := lst_spec hl h.1 h.2 hn
      obtain ⟨m, e2, hm2, h2⟩ := mst_spec hl h.1 h.2 hn
      have k1 := (someC_mem hc h.2).2 hm1
      have k2 := (someC_mem hc h.2).2 hm2
      have b1 : ∀ x ∈ (someR b rows).map (numB b), n ≤ x := fun x hx => by obtain ⟨r, a, c, d⟩ := (someC_mem hc h.2).1 hx; rw [← d]; exact h1 r a c
      have b2 : ∀ x ∈ (someR b rows).map (numB b), x ≤ m := fun x hx => by obtain ⟨r, a, c, d⟩ := (someC_mem hc h.2).1 hx; rw [← d]; exact h2 r a c
      have hlen : ((someR b rows).map (numB b)).length ≠ 0 := by rw [List.length_map]; exact fun e => hne (List.length_eq_zero_iff.1 e)
      generalize (someR b rows).map (numB b) = l at *
      have h0 : l[0]?.getD 0 ∈ l := by
        rw [List.getElem?_eq_getElem (by omega)]
        exact List.getElem_mem _
      have f1 := fold_mn l (l[0]?.getD 0)
      have f2 := fold_mx l (l[0]?.getD 0)
      rw [e1, e2]
      unfold lstR mstR
      rw [if_neg hlen, if_neg hlen]
      have g1 : l.foldl mnI (l[0]?.getD 0) ∈ l := by rcases f1.1 with h | h; rw [h]; exact h0; exact h
      have g2 : l.foldl mxI (l[0]?.getD 0) ∈ l := by rcases f2.1 with h | h; rw [h]; exact h0; exact h
      have c1 := b1 _ g1; have c2 := f1.2.2 n k1
      have c3 := b2 _ g2; have c4 := f2.2.2 m k2
      exact ⟨by congr 1; omega, by congr 1; omega⟩
  · have e : someC b rows = [] := if_neg h
    rw [e]
    exact ⟨fndB_no fun k => h k.1, fndB_no fun k => h k.1⟩
end Go.Proofs.YtnigpmbpipmgfaaDoor
