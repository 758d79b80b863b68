/-
  What Build makes, in plain: a column, its numbers.
-/
import Derived.Test.YtnigpmbpipmgfaaDoorBsAR
import Derived.Test.YtnigpmbpipmgfaaDoorBsJ
namespace Go.Proofs.YtnigpmbpipmgfaaDoor
open Go.RowKit Tess

theorem bitL_mkL {zs : List Int} (h : zs.any badR = false) {n : Nat} (hn : n < 65536) : bitL (mkL zs).1 n = memB zs n := by
  rw [mkL_good h]
  show bitL (canon (mkM zs)) n = _
  rw [← ofB_mem h]
  unfold ofB
  rw [bitL_canon (fun k _ => setB_lt _ k) hn]
  unfold bitM
  rw [setB_bit (by omega), show 256 * (n / 256) + n % 256 = n by omega]
theorem good_nat {xs : List Nat} (h : ∀ x ∈ xs, x < 65536) : (xs.map Int.ofNat).any badR = false := by
  rw [List.any_eq_false]
  intro z hz
  obtain ⟨x, hx, rfl⟩ := List.mem_map.1 hz
  have := h x hx
  unfold badR
  simp
  omega
theorem memB_nat (xs : List Nat) (n : Nat) : memB (xs.map Int.ofNat) n = decide (n ∈ xs) := by
  unfold memB
  by_cases h : n ∈ xs
  · rw [decide_eq_true h, List.any_eq_true]
    exact ⟨(n : Int), List.mem_map.2 ⟨n, h, rfl⟩, by simp⟩
  · rw [decide_eq_false h, List.any_eq_false]
    intro z hz
    obtain ⟨x, hx, rfl⟩ := List.mem_map.1 hz
    simp
    intro he
    have he' : x = n := by omega
    subst he'
    exact h hx
theorem mkN_bits {xs : List Nat} (h : ∀ x ∈ xs, x < 65536) : rightL (mkN xs) = true ∧ ∀ n, n < 65536 → bitL (mkN xs) n = decide (n ∈ xs) :=
  ⟨mkL_right _, fun n hn => by unfold mkN; rw [bitL_mkL (good_nat h) hn, memB_nat]⟩
theorem mkN_ne {xs : List Nat} (h : ∀ x ∈ xs, x < 65536) : mkN xs = [] ↔ xs = [] := by
  constructor
  · intro e
    cases xs with
    | nil => rfl
    | cons x xs =>
      have := (mkN_bits h).2 x (h x List.mem_cons_self)
      rw [e, bitL_nil] at this
      simp at this
  · rintro rfl
    exact (nil_iff (mkN_bits h).1).2 fun n hn => by rw [(mkN_bits h).2 n hn]; rfl

/-- A column's numbers fit, and are not too many. -/
structure ColOk (l : List Int) (hs : List Bool) : Prop where
  len : l.length ≤ 1000
  eq : l.length = hs.length
  rg : ∀ i, -9223372036854775808 ≤ vI l i ∧ vI l i ≤ 9223372036854775807
theorem ColOk.lt {l : List Int} {hs : List Bool} (h : ColOk l hs) : ∀ x ∈ idxB hs, x < 1000 := fun x hx => by have := idxB_lt hx; have := h.len; have := h.eq; omega
theorem ColOk.idx {l : List Int} {hs : List Bool} (h : ColOk l hs) : ∀ x ∈ idxB hs, x < 65536 := fun x hx => by have := h.lt x hx; omega
theorem rowsD_mem {l : List Int} {hs : List Bool} {k i : Nat} : i ∈ rowsD l hs k ↔ i ∈ idxB hs ∧ (upBy l hs i).testBit k = true := List.mem_filter
theorem ColOk.rows {l : List Int} {hs : List Bool} (h : ColOk l hs) (k : Nat) : ∀ x ∈ rowsD l hs k, x < 65536 := fun x hx => h.idx x (rowsD_mem.1 hx).1
theorem upBy_le {l : List Int} {hs : List Bool} {i : Nat} (hi : i ∈ idxB hs) : upBy l hs i ≤ (hiS (vI l) (idxB hs) - loS (vI l) (idxB hs)).toNat := by
  have h1 := (loS_spec (vI l) (idxB hs)).2 i hi
  have h2 := (hiS_spec (vI l) (idxB hs)).2 i hi
  unfold upBy
  omega
theorem upBy_lt {l : List Int} {hs : List Bool} {i : Nat} (hi : i ∈ idxB hs) : upBy l hs i < 2 ^ digN l hs := by
  have h1 := upBy_le (l := l) hi
  have h2 : (hiS (vI l) (idxB hs) - loS (vI l) (idxB hs)).toNat < 2 ^ digN l hs := lenB_le.1 (Nat.le_refl _)
  omega
theorem up_eq {l : List Int} {hs : List Bool} {i : Nat} (hi : i ∈ idxB hs) : loS (vI l) (idxB hs) + (upBy l hs i : Int) = vI l i := by
  have h1 := (loS_spec (vI l) (idxB hs)).2 i hi
  unfold upBy
  omega
theorem bits_get {l : List Int} {hs : List Bool} {k : Nat} (hk : k < digN l hs) : (mkB l hs).bits[k]?.getD [] = mkN (rowsD l hs k) := by
  unfold mkB
  simp [hk]
theorem bits_len (l : List Int) (hs : List Bool) : (mkB l hs).bits.length = digN l hs := by unfold mkB; simp
theorem valU_mk {l : List Int} {hs : List Bool} (h : ColOk l hs) {i : Nat} (hi : i ∈ idxB hs) : ∀ k, k ≤ digN l hs → valU (mkB l hs).bits (i : Int) k = upBy l hs i % 2 ^ k
  | 0, _ => by simp [valU, Nat.mod_one]
  | k + 1, hk => by
    unfold valU
    rw [valU_mk h hi k (by omega), bits_get (by omega), hasL_bits (mkN_bits (h.rows k)).1, decide_eq_true (by have := h.idx i hi; omega), Bool.true_and, Int.toNat_natCast, (mkN_bits (h.rows k)).2 i (h.idx i hi)]
    have h2 : upBy l hs i % 2 ^ (k + 1) = upBy l hs i % 2 ^ k + 2 ^ k * (upBy l hs i / 2 ^ k % 2) := Nat.mod_pow_succ
    have h3 : (decide (i ∈ rowsD l hs k)).toNat = upBy l hs i / 2 ^ k % 2 := by
      have e : decide (i ∈ rowsD l hs k) = (upBy l hs i).testBit k := by
        cases hb : (upBy l hs i).testBit k
        · exact decide_eq_false fun hm => by rw [(rowsD_mem.1 hm).2] at hb; cases hb
        · exact decide_eq_true (rowsD_mem.2 ⟨hi, hb⟩)
      rw [e, Nat.testBit_eq_decide_div_mod_eq]
      have := Nat.mod_lt (upBy l hs i / 2 ^ k) (by decide : 2 > 0)
      rcases (show upBy l hs i / 2 ^ k % 2 = 0 ∨ upBy l hs i / 2 ^ k % 2 = 1 by omega) with h | h <;> rw [h] <;> rfl
    rw [h2, h3, Nat.mul_comm]
theorem bits_right {l : List Int} {hs : List Bool} (h : ColOk l hs) : ∀ x ∈ (mkB l hs).bits, rightL x = true := by
  intro x hx
  obtain ⟨k, -, rfl⟩ := List.mem_map.1 (show x ∈ (List.range (digN l hs)).map fun k => mkN (rowsD l hs k) from hx)
  exact (mkN_bits (h.rows k)).1
theorem valB_mk {l : List Int} {hs : List Bool} (h : ColOk l hs) {i : Nat} (hi : i ∈ idxB hs) : valB (mkB l hs) i = upBy l hs i := by
  unfold valB
  rw [← valU_val (bits_right h) i (h.idx i hi), bits_len, valU_mk h hi _ (Nat.le_refl _), Nat.mod_eq_of_lt (upBy_lt hi)]
theorem ex_bits {l : List Int} {hs : List Bool} (h : ColOk l hs) : rightL (mkB l hs).ex = true ∧ ∀ n, n < 65536 → bitL (mkB l hs).ex n = decide (n ∈ idxB hs) := mkN_bits h.idx
theorem ex_mem {l : List Int} {hs : List Bool} (h : ColOk l hs) {n : Nat} (hn : n < 65536) (hb : bitL (mkB l hs).ex n = true) : n ∈ idxB hs := by
  rw [(ex_bits h).2 n hn] at hb
  exact of_decide_eq_true hb
theorem mkB_col {l : List Int} {hs : List Bool} (h : ColOk l hs) : IsCol (mkB l hs) := by
  have hlen : (mkB l hs).bits.length = digN l hs := bits_len l hs
  have hls := loS_spec (vI l) (idxB hs)
  have hhs := hiS_spec (vI l) (idxB hs)
  have hex : (mkB l hs).ex = mkN (idxB hs) := rfl
  have hnil : (mkB l hs).ex = [] → idxB hs = [] := fun e => (mkN_ne h.idx).1 e
  refine ⟨by show (0 : Int) ≤ (l.length : Int); omega, by show ((l.length : Int)) ≤ 1000; have := h.len; omega, ?_, (ex_bits h).1, fun n hn hb => ?_, bits_right h, fun x hx n hn hb => ?_, fun e => ?_, fun hne hbn => ?_, fun n hn hb => ?_, fun hne => ?_⟩
  · rw [hlen]
    unfold digN
    refine lenB_le.2 ?_
    have h64 : (2 : Nat) ^ 64 = 18446744073709551616 := by decide
    by_cases he : idxB hs = []
    · rw [he, loS_nil, hiS_nil]; decide
    · obtain ⟨a, ha, ea⟩ := hls.1 he
      obtain ⟨c, hc, ec⟩ := hhs.1 he
      have := h.rg a; have := h.rg c
      omega
  · have := ex_mem h hn hb
    have := idxB_lt this
    show (n : Int) < (l.length : Int)
    have := h.eq
    omega
  · obtain ⟨k, -, rfl⟩ := List.mem_map.1 (show x ∈ (List.range (digN l hs)).map fun k => mkN (rowsD l hs k) from hx)
    rw [(mkN_bits (h.rows k)).2 n hn] at hb
    rw [(ex_bits h).2 n hn]
    exact decide_eq_true (rowsD_mem.1 (of_decide_eq_true hb)).1
  · have he := hnil e
    refine ⟨by show loS (vI l) (idxB hs) = 0; rw [he]; rfl, List.length_eq_zero_iff.1 ?_⟩
    rw [hlen]
    unfold digN
    rw [he]; rfl
  · have hd : digN l hs ≠ 0 := fun e => hbn (List.length_eq_zero_iff.1 (by rw [hlen, e]))
    obtain ⟨d, hd2⟩ : ∃ d, digN l hs = d + 1 := ⟨digN l hs - 1, by omega⟩
    have hgl : (mkB l hs).bits.getLastD [] = mkN (rowsD l hs d) := by
      rw [List.getLastD_eq_getLast?, List.getLast?_eq_getElem?, hlen, hd2, Nat.add_sub_cancel]
      exact bits_get (by omega)
    rw [hgl]
    intro e
    have he : idxB hs ≠ [] := fun e => hne (by rw [hex, e]; exact (mkN_ne (by simp)).2 rfl)
    obtain ⟨c, hc, ec⟩ := hhs.1 he
    have hX : upBy l hs c = (hiS (vI l) (idxB hs) - loS (vI l) (idxB hs)).toNat := by unfold upBy; rw [ec]
    have h1 : ¬ upBy l hs c < 2 ^ d := fun hl => by
      rw [hX] at hl
      have := lenB_le.2 hl
      unfold digN at hd2
      omega
    have h2 := upBy_lt (l := l) hc
    rw [hd2] at h2
    have hb : (upBy l hs c).testBit d = true := by
      rw [Nat.testBit_eq_decide_div_mod_eq]
      have : upBy l hs c / 2 ^ d = 1 := by
        rw [Nat.pow_succ] at h2
        have hpos := Nat.pow_pos (n := d) (show 0 < 2 by decide)
        exact Nat.div_eq_of_lt_le (by omega) (by omega)
      rw [this]; rfl
    have := (mkN_ne (h.rows d)).1 e
    have hm : c ∈ rowsD l hs d := rowsD_mem.2 ⟨hc, hb⟩
    rw [this] at hm
    cases hm
  · have hi := ex_mem h hn hb
    rw [valB_mk h hi]
    show loS (vI l) (idxB hs) + _ ≤ _
    rw [up_eq hi]
    exact (h.rg n).2
  · have he : idxB hs ≠ [] := fun e => hne (by rw [hex, e]; exact (mkN_ne (by simp)).2 rfl)
    obtain ⟨a, ha, ea⟩ := hls.1 he
    refine ⟨a, h.idx a ha, by rw [(ex_bits h).2 a (h.idx a ha)]; exact decide_eq_true ha, ?_⟩
    rw [valB_mk h ha]
    unfold upBy
    omega
theorem mkB_num {l : List Int} {hs : List Bool} (h : ColOk l hs) {i : Nat} (hi : i ∈ idxB hs) : numB (mkB l hs) i = vI l i := by
  unfold numB
  rw [valB_mk h hi]
  exact up_eq hi
theorem mkB_small {l : List Int} {hs : List Bool} (h : ColOk l hs) : SmallB (mkB l hs) := by
  have hc := mkB_col h
  have hls := loS_spec (vI l) (idxB hs)
  have hlo : -9223372036854775808 ≤ loS (vI l) (idxB hs) ∧ loS (vI l) (idxB hs) ≤ 9223372036854775807 := by
    by_cases he : idxB hs = []
    · rw [he, loS_nil]; decide
    · obtain ⟨a, ha, ea⟩ := hls.1 he
      rw [← ea]
      exact h.rg a
  exact ⟨small_right hc.rex, fun x hx => small_right (hc.rbits x hx), by have := hc.len; omega, hlo.1, hlo.2⟩
theorem mkB_right {l : List Int} {hs : List Bool} (h : ColOk l hs) : isRightB (mkB l hs) = true := (right_iff ⟨(mkB_small h).lo, (mkB_small h).hi⟩).2 (mkB_col h)
end Go.Proofs.YtnigpmbpipmgfaaDoor
