/-
  Hv1, BsT, BsU, BsX, BsHa, BsHb, BsHc, Frame7, Frame9, HvCard in one (mergeof.py).
-/
import Derived.Test.YtnigpmbpipmgfaaDoorHvA
import Derived.Test.YtnigpmbpipmgfaaDoorRows
import Derived.ProofKit
import Derived.OpenShut
import Derived.LaidMore
import Derived.Deep.DeepHandedRow
import Derived.Lib.LaidTab
import Derived.Deep.Grids
import Derived.Test.YtnigpmbpipmgfaaDoorCards
import Derived.Test.YtnigpmbpipmgfaaDoorTie

/-
  Lemmas of other texts that HvB needs (printed by a program).
-/
namespace Go.Proofs.YtnigpmbpipmgfaaDoor
open Go.RowKit Tess

def upB (B : Nat → Bool) (k i : Nat) : List Nat := (List.range i).filter fun j => B (256 * k + j)
theorem upB_mem {B : Nat → Bool} {k i j : Nat} : j ∈ upB B k i ↔ j < i ∧ B (256 * k + j) = true := by
  unfold upB; rw [List.mem_filter, List.mem_range]
def setB (B : Nat → Bool) (k : Nat) : Nat := putAll 0 (upB B k 256)
theorem setB_lt (B : Nat → Bool) (k : Nat) : setB B k < big := putAll_lt (by decide +kernel) fun j hj => (upB_mem.1 hj).1
theorem setB_bit {B : Nat → Bool} {k j : Nat} (hj : j < 256) : (setB B k).testBit j = B (256 * k + j) := by
  unfold setB
  rw [testBit_putAll, Nat.zero_testBit, Bool.false_or]
  cases h : B (256 * k + j)
  · exact decide_eq_false fun hm => by have := (upB_mem.1 hm).2; rw [h] at this; cases this
  · exact decide_eq_true (upB_mem.2 ⟨hj, h⟩)
def ofB (B : Nat → Bool) : List Ch := canon (setB B)
theorem mkSet_bit (zs : List Int) (i : Nat) : (mkSet zs).testBit i = decide (i ∈ zs.map Int.toNat) := by
  unfold mkSet
  rw [testBit_putAll, Nat.zero_testBit, Bool.false_or]
theorem ofB_right (B : Nat → Bool) : rightL (ofB B) = true := canon_right fun k _ => setB_lt B k
theorem ofB_bit {B : Nat → Bool} {n : Nat} (hn : n < 65536) : bitL (ofB B) n = B n := by
  unfold ofB
  rw [bitL_canon (fun k _ => setB_lt B k) hn]
  unfold bitM
  rw [setB_bit (by omega)]
  congr 1
  omega
def memB (zs : List Int) (n : Nat) : Bool := zs.any fun z => z == (n : Int)
theorem ofB_mem {zs : List Int} (h : zs.any badR = false) : ofB (memB zs) = canon (mkM zs) := by
  unfold ofB
  refine canon_congr fun k hk => set_bits (setB_lt _ k) (mkM_lt zs k) fun i hi => ?_
  rw [setB_bit hi]
  unfold mkM
  rw [mkSet_bit]
  have hgood : ∀ z ∈ zs, 0 ≤ z ∧ z ≤ 65535 := fun z hz => by
    have := List.any_eq_false.1 h z hz
    unfold badR at this
    simp at this
    exact this
  have key : memB zs (256 * k + i) = true ↔ i ∈ (G zs k).map Int.toNat := by
    unfold memB G
    rw [List.any_eq_true, List.map_map, List.mem_map]
    constructor
    · rintro ⟨z, hz, he⟩
      have he' : z = ((256 * k + i : Nat) : Int) := by simpa using he
      refine ⟨z, List.mem_filter.2 ⟨hz, by simp; omega⟩, ?_⟩
      simp only [Function.comp]
      omega
    · rintro ⟨z, hz, he⟩
      obtain ⟨h1, h2⟩ := List.mem_filter.1 hz
      have h3 : z / 256 = (k : Int) := by simpa using h2
      have h4 := hgood z h1
      simp only [Function.comp] at he
      exact ⟨z, h1, by simp; omega⟩
  cases hb : memB zs (256 * k + i)
  · exact (decide_eq_false fun hm => by have := key.2 hm; rw [hb] at this; cases this).symm
  · exact (decide_eq_true (key.1 hb)).symm
end Go.Proofs.YtnigpmbpipmgfaaDoor

/-
  What Build makes, in plain: a column, its numbers.
-/
namespace Go.Proofs.YtnigpmbpipmgfaaDoor
open Go.RowKit Tess

theorem bitL_mkL {zs : List Int} (h : zs.any badR = false) {n : Nat} (hn : n < 65536) : bitL (mkL zs).1 n = memB zs n := by
  rw [mkL_good h]
  show bitL (canon (mkM zs)) n = _
  rw [← ofB_mem h]
  unfold ofB
  rw [bitL_canon (fun k _ => setB_lt _ k) hn]
  unfold bitM
  rw [setB_bit (by omega), show 256 * (n / 256) + n % 256 = n by omega]
theorem good_nat {xs : List Nat} (h : ∀ x ∈ xs, x < 65536) : (xs.map Int.ofNat).any badR = false := by
  rw [List.any_eq_false]
  intro z hz
  obtain ⟨x, hx, rfl⟩ := List.mem_map.1 hz
  have := h x hx
  unfold badR
  simp
  omega
theorem memB_nat (xs : List Nat) (n : Nat) : memB (xs.map Int.ofNat) n = decide (n ∈ xs) := by
  unfold memB
  by_cases h : n ∈ xs
  · rw [decide_eq_true h, List.any_eq_true]
    exact ⟨(n : Int), List.mem_map.2 ⟨n, h, rfl⟩, by simp⟩
  · rw [decide_eq_false h, List.any_eq_false]
    intro z hz
    obtain ⟨x, hx, rfl⟩ := List.mem_map.1 hz
    simp
    intro he
    have he' : x = n := by omega
    subst he'
    exact h hx
theorem mkN_bits {xs : List Nat} (h : ∀ x ∈ xs, x < 65536) : rightL (mkN xs) = true ∧ ∀ n, n < 65536 → bitL (mkN xs) n = decide (n ∈ xs) :=
  ⟨mkL_right _, fun n hn => by unfold mkN; rw [bitL_mkL (good_nat h) hn, memB_nat]⟩
theorem mkN_ne {xs : List Nat} (h : ∀ x ∈ xs, x < 65536) : mkN xs = [] ↔ xs = [] := by
  constructor
  · intro e
    cases xs with
    | nil => rfl
    | cons x xs =>
      have := (mkN_bits h).2 x (h x List.mem_cons_self)
      rw [e, bitL_nil] at this
      simp at this
  · rintro rfl
    exact (nil_iff (mkN_bits h).1).2 fun n hn => by rw [(mkN_bits h).2 n hn]; rfl

/-- A column's numbers fit, and are not too many. -/
structure ColOk (l : List Int) (hs : List Bool) : Prop where
  len : l.length ≤ 1000
  eq : l.length = hs.length
  rg : ∀ i, -9223372036854775808 ≤ vI l i ∧ vI l i ≤ 9223372036854775807
theorem ColOk.lt {l : List Int} {hs : List Bool} (h : ColOk l hs) : ∀ x ∈ idxB hs, x < 1000 := fun x hx => by have := idxB_lt hx; have := h.len; have := h.eq; omega
theorem ColOk.idx {l : List Int} {hs : List Bool} (h : ColOk l hs) : ∀ x ∈ idxB hs, x < 65536 := fun x hx => by have := h.lt x hx; omega
theorem rowsD_mem {l : List Int} {hs : List Bool} {k i : Nat} : i ∈ rowsD l hs k ↔ i ∈ idxB hs ∧ (upBy l hs i).testBit k = true := List.mem_filter
theorem ColOk.rows {l : List Int} {hs : List Bool} (h : ColOk l hs) (k : Nat) : ∀ x ∈ rowsD l hs k, x < 65536 := fun x hx => h.idx x (rowsD_mem.1 hx).1
theorem upBy_le {l : List Int} {hs : List Bool} {i : Nat} (hi : i ∈ idxB hs) : upBy l hs i ≤ (hiS (vI l) (idxB hs) - loS (vI l) (idxB hs)).toNat := by
  have h1 := (loS_spec (vI l) (idxB hs)).2 i hi
  have h2 := (hiS_spec (vI l) (idxB hs)).2 i hi
  unfold upBy
  omega
theorem upBy_lt {l : List Int} {hs : List Bool} {i : Nat} (hi : i ∈ idxB hs) : upBy l hs i < 2 ^ digN l hs := by
  have h1 := upBy_le (l := l) hi
  have h2 : (hiS (vI l) (idxB hs) - loS (vI l) (idxB hs)).toNat < 2 ^ digN l hs := lenB_le.1 (Nat.le_refl _)
  omega
theorem up_eq {l : List Int} {hs : List Bool} {i : Nat} (hi : i ∈ idxB hs) : loS (vI l) (idxB hs) + (upBy l hs i : Int) = vI l i := by
  have h1 := (loS_spec (vI l) (idxB hs)).2 i hi
  unfold upBy
  omega
theorem bits_get {l : List Int} {hs : List Bool} {k : Nat} (hk : k < digN l hs) : (mkB l hs).bits[k]?.getD [] = mkN (rowsD l hs k) := by
  unfold mkB
  simp [hk]
theorem bits_len (l : List Int) (hs : List Bool) : (mkB l hs).bits.length = digN l hs := by unfold mkB; simp
theorem valU_mk {l : List Int} {hs : List Bool} (h : ColOk l hs) {i : Nat} (hi : i ∈ idxB hs) : ∀ k, k ≤ digN l hs → valU (mkB l hs).bits (i : Int) k = upBy l hs i % 2 ^ k
  | 0, _ => by simp [valU, Nat.mod_one]
  | k + 1, hk => by
    unfold valU
    rw [valU_mk h hi k (by omega), bits_get (by omega), hasL_bits (mkN_bits (h.rows k)).1, decide_eq_true (by have := h.idx i hi; omega), Bool.true_and, Int.toNat_natCast, (mkN_bits (h.rows k)).2 i (h.idx i hi)]
    have h2 : upBy l hs i % 2 ^ (k + 1) = upBy l hs i % 2 ^ k + 2 ^ k * (upBy l hs i / 2 ^ k % 2) := Nat.mod_pow_succ
    have h3 : (decide (i ∈ rowsD l hs k)).toNat = upBy l hs i / 2 ^ k % 2 := by
      have e : decide (i ∈ rowsD l hs k) = (upBy l hs i).testBit k := by
        cases hb : (upBy l hs i).testBit k
        · exact decide_eq_false fun hm => by rw [(rowsD_mem.1 hm).2] at hb; cases hb
        · exact decide_eq_true (rowsD_mem.2 ⟨hi, hb⟩)
      rw [e, Nat.testBit_eq_decide_div_mod_eq]
      have := Nat.mod_lt (upBy l hs i / 2 ^ k) (by decide : 2 > 0)
      rcases (show upBy l hs i / 2 ^ k % 2 = 0 ∨ upBy l hs i / 2 ^ k % 2 = 1 by omega) with h | h <;> rw [h] <;> rfl
    rw [h2, h3, Nat.mul_comm]
theorem bits_right {l : List Int} {hs : List Bool} (h : ColOk l hs) : ∀ x ∈ (mkB l hs).bits, rightL x = true := by
  intro x hx
  obtain ⟨k, -, rfl⟩ := List.mem_map.1 (show x ∈ (List.range (digN l hs)).map fun k => mkN (rowsD l hs k) from hx)
  exact (mkN_bits (h.rows k)).1
theorem valB_mk {l : List Int} {hs : List Bool} (h : ColOk l hs) {i : Nat} (hi : i ∈ idxB hs) : valB (mkB l hs) i = upBy l hs i := by
  unfold valB
  rw [← valU_val (bits_right h) i (h.idx i hi), bits_len, valU_mk h hi _ (Nat.le_refl _), Nat.mod_eq_of_lt (upBy_lt hi)]
theorem ex_bits {l : List Int} {hs : List Bool} (h : ColOk l hs) : rightL (mkB l hs).ex = true ∧ ∀ n, n < 65536 → bitL (mkB l hs).ex n = decide (n ∈ idxB hs) := mkN_bits h.idx
theorem ex_mem {l : List Int} {hs : List Bool} (h : ColOk l hs) {n : Nat} (hn : n < 65536) (hb : bitL (mkB l hs).ex n = true) : n ∈ idxB hs := by
  rw [(ex_bits h).2 n hn] at hb
  exact of_decide_eq_true hb
theorem mkB_col {l : List Int} {hs : List Bool} (h : ColOk l hs) : IsCol (mkB l hs) := by
  have hlen : (mkB l hs).bits.length = digN l hs := bits_len l hs
  have hls := loS_spec (vI l) (idxB hs)
  have hhs := hiS_spec (vI l) (idxB hs)
  have hex : (mkB l hs).ex = mkN (idxB hs) := rfl
  have hnil : (mkB l hs).ex = [] → idxB hs = [] := fun e => (mkN_ne h.idx).1 e
  refine ⟨by show (0 : Int) ≤ (l.length : Int); omega, by show ((l.length : Int)) ≤ 1000; have := h.len; omega, ?_, (ex_bits h).1, fun n hn hb => ?_, bits_right h, fun x hx n hn hb => ?_, fun e => ?_, fun hne hbn => ?_, fun n hn hb => ?_, fun hne => ?_⟩
  · rw [hlen]
    unfold digN
    refine lenB_le.2 ?_
    have h64 : (2 : Nat) ^ 64 = 18446744073709551616 := by decide
    by_cases he : idxB hs = []
    · rw [he, loS_nil, hiS_nil]; decide
    · obtain ⟨a, ha, ea⟩ := hls.1 he
      obtain ⟨c, hc, ec⟩ := hhs.1 he
      have := h.rg a; have := h.rg c
      omega
  · have := ex_mem h hn hb
    have := idxB_lt this
    show (n : Int) < (l.length : Int)
    have := h.eq
    omega
  · obtain ⟨k, -, rfl⟩ := List.mem_map.1 (show x ∈ (List.range (digN l hs)).map fun k => mkN (rowsD l hs k) from hx)
    rw [(mkN_bits (h.rows k)).2 n hn] at hb
    rw [(ex_bits h).2 n hn]
    exact decide_eq_true (rowsD_mem.1 (of_decide_eq_true hb)).1
  · have he := hnil e
    refine ⟨by show loS (vI l) (idxB hs) = 0; rw [he]; rfl, List.length_eq_zero_iff.1 ?_⟩
    rw [hlen]
    unfold digN
    rw [he]; rfl
  · have hd : digN l hs ≠ 0 := fun e => hbn (List.length_eq_zero_iff.1 (by rw [hlen, e]))
    obtain ⟨d, hd2⟩ : ∃ d, digN l hs = d + 1 := ⟨digN l hs - 1, by omega⟩
    have hgl : (mkB l hs).bits.getLastD [] = mkN (rowsD l hs d) := by
      rw [List.getLastD_eq_getLast?, List.getLast?_eq_getElem?, hlen, hd2, Nat.add_sub_cancel]
      exact bits_get (by omega)
    rw [hgl]
    intro e
    have he : idxB hs ≠ [] := fun e => hne (by rw [hex, e]; exact (mkN_ne (by simp)).2 rfl)
    obtain ⟨c, hc, ec⟩ := hhs.1 he
    have hX : upBy l hs c = (hiS (vI l) (idxB hs) - loS (vI l) (idxB hs)).toNat := by unfold upBy; rw [ec]
    have h1 : ¬ upBy l hs c < 2 ^ d := fun hl => by
      rw [hX] at hl
      have := lenB_le.2 hl
      unfold digN at hd2
      omega
    have h2 := upBy_lt (l := l) hc
    rw [hd2] at h2
    have hb : (upBy l hs c).testBit d = true := by
      rw [Nat.testBit_eq_decide_div_mod_eq]
      have : upBy l hs c / 2 ^ d = 1 := by
        rw [Nat.pow_succ] at h2
        have hpos := Nat.pow_pos (n := d) (show 0 < 2 by decide)
        exact Nat.div_eq_of_lt_le (by omega) (by omega)
      rw [this]; rfl
    have := (mkN_ne (h.rows d)).1 e
    have hm : c ∈ rowsD l hs d := rowsD_mem.2 ⟨hc, hb⟩
    rw [this] at hm
    cases hm
  · have hi := ex_mem h hn hb
    rw [valB_mk h hi]
    show loS (vI l) (idxB hs) + _ ≤ _
    rw [up_eq hi]
    exact (h.rg n).2
  · have he : idxB hs ≠ [] := fun e => hne (by rw [hex, e]; exact (mkN_ne (by simp)).2 rfl)
    obtain ⟨a, ha, ea⟩ := hls.1 he
    refine ⟨a, h.idx a ha, by rw [(ex_bits h).2 a (h.idx a ha)]; exact decide_eq_true ha, ?_⟩
    rw [valB_mk h ha]
    unfold upBy
    omega
theorem mkB_num {l : List Int} {hs : List Bool} (h : ColOk l hs) {i : Nat} (hi : i ∈ idxB hs) : numB (mkB l hs) i = vI l i := by
  unfold numB
  rw [valB_mk h hi]
  exact up_eq hi
theorem mkB_small {l : List Int} {hs : List Bool} (h : ColOk l hs) : SmallB (mkB l hs) := by
  have hc := mkB_col h
  have hls := loS_spec (vI l) (idxB hs)
  have hlo : -9223372036854775808 ≤ loS (vI l) (idxB hs) ∧ loS (vI l) (idxB hs) ≤ 9223372036854775807 := by
    by_cases he : idxB hs = []
    · rw [he, loS_nil]; decide
    · obtain ⟨a, ha, ea⟩ := hls.1 he
      rw [← ea]
      exact h.rg a
  exact ⟨small_right hc.rex, fun x hx => small_right (hc.rbits x hx), by have := hc.len; omega, hlo.1, hlo.2⟩
theorem mkB_right {l : List Int} {hs : List Bool} (h : ColOk l hs) : isRightB (mkB l hs) = true := (right_iff ⟨(mkB_small h).lo, (mkB_small h).hi⟩).2 (mkB_col h)
end Go.Proofs.YtnigpmbpipmgfaaDoor

/-
  law08.Few.
-/
namespace Go.Proofs.YtnigpmbpipmgfaaDoor
open Go.RowKit Go.Shelf Tess

theorem ints_take {n₀ : Nat} {W : World} {p : Option Addr} {n c : Nat} {zs : List Int} (h : Ints n₀ W (.slice p n c) zs) (k : Nat) : Ints n₀ W (.slice p (min n k) c) (zs.take k) := by
  rcases h with ⟨⟨p', e⟩, rfl⟩ | ⟨b, off, cap, e, hb, hc⟩
  · cases e
    rw [Nat.zero_min]
    exact .inl ⟨⟨_, rfl⟩, by simp⟩
  · cases e
    refine .inr ⟨b, off, c, by rw [List.length_take, Nat.min_comm], hb, fun j hj => ?_⟩
    rw [List.length_take] at hj
    rw [hc j (by omega), List.getElem?_take_of_lt (by omega)]
theorem bools_take {n₀ : Nat} {W : World} {p : Option Addr} {n c : Nat} {zs : List Bool} (h : BoolsAt n₀ W (.slice p n c) zs) (k : Nat) : BoolsAt n₀ W (.slice p (min n k) c) (zs.take k) := by
  obtain ⟨p', c', e, hc⟩ := h
  cases e
  refine ⟨_, _, by rw [List.length_take, Nat.min_comm], fun j hj => ?_⟩
  rw [List.length_take] at hj
  obtain ⟨b, off, h1, h2, h3⟩ := hc j (by omega)
  exact ⟨b, off, h1, h2, by rw [h3, List.getElem?_take_of_lt (by omega)]⟩

set_option linter.unusedSimpArgs false in
set_option maxRecDepth 100000 in
set_option maxHeartbeats 2000000 in
theorem few8_any {p ph : Option Addr} {n c nh ch : Nat} (w : World) (hp : n ≤ c) (hh : nh ≤ ch) (p0 : p = none → n = 0 ∧ c = 0) (h0 : ph = none → nh = 0 ∧ ch = 0) :
    Calls Tryd.prog 12 #[.slice p n c, .slice ph nh ch] w fun e W' => e = .returned (.tuple #[.slice p (min n 200) c, .slice ph (min nh 200) ch]) ∧ Below w.heap.size w W' := by
  obtain ⟨m, hm⟩ : ∃ m, min n 200 = m := ⟨_, rfl⟩
  obtain ⟨q, hq⟩ : ∃ q, min nh 200 = q := ⟨_, rfl⟩
  have m0 : (if (200 : Int) < (n : Int) then 200 else (n : Int)) = (m : Int) := by split <;> omega
  have q0 : (if (200 : Int) < (nh : Int) then 200 else (nh : Int)) = (q : Int) := by split <;> omega
  have m1 : m ≤ c := by omega
  have q1 : q ≤ ch := by omega
  have m2 : m ≤ n := by omega
  have q2 : q ≤ nh := by omega
  have m3 : (0 : Int) ≤ (m : Int) ∧ (m : Int) ≤ (c : Int) := by omega
  have q3 : (0 : Int) ≤ (q : Int) ∧ (q : Int) ≤ (ch : Int) := by omega
  rw [hm, hq]
  have hMd : (fun _ : World => True) w.drew := trivial
  cases p with
  | none =>
    obtain ⟨rfl, rfl⟩ := p0 rfl
    obtain rfl : m = 0 := by omega
    cases ph with
    | none =>
      obtain ⟨rfl, rfl⟩ := h0 rfl
      obtain rfl : q = 0 := by omega
      clear p0 h0 hp hh hm hq
      go_enter Tryd.func12, Tryd.ntmps12
      go_wp2
      refine region_late (S := (fun _ : World => True)) (fun n => n == 999) (by kernel_rfl) hMd (fun hHeld => ?_)
      clear hMd
      refine wpAnyL_take (i := 0) (oi := { dst := some 6, op := _, type := _, pos := _, after := _, guard := _ }) (v := ?v1) rfl (by kernel_rfl) (by kernel_rfl) (by kernel_rfl) (by kernel_rfl) (fun _ _ _ h => h) (Or.inl ⟨by kernel_rfl, ?y1⟩) hHeld ?r1
      case y1 =>
        intro w hSw
        try dsimp only at hSw
        try simp only [List.getElem_toArray, List.getElem_cons_zero, List.getElem_cons_succ]
        go_simp
        try with_reducible rfl
      try simp only [List.getElem_toArray, List.getElem_cons_zero, List.getElem_cons_succ, Act.put, List.setIfInBounds_toArray, List.set_cons_zero, List.set_cons_succ]
      refine wpAnyL_take (i := 1) (oi := { dst := some 7, op := _, type := _, pos := _, after := _, guard := _ }) (v := ?v2) rfl (by kernel_rfl) (by kernel_rfl) (by kernel_rfl) (by kernel_rfl) (fun _ _ _ h => h) (Or.inl ⟨by kernel_rfl, ?y2⟩) hHeld ?r2
      case y2 =>
        intro w hSw
        try dsimp only at hSw
        try simp only [List.getElem_toArray, List.getElem_cons_zero, List.getElem_cons_succ]
        go_simp
        try with_reducible rfl
      try simp only [List.getElem_toArray, List.getElem_cons_zero, List.getElem_cons_succ, Act.put, List.setIfInBounds_toArray, List.set_cons_zero, List.set_cons_succ]
      refine wpAnyL_take (i := 2) (oi := { dst := some 8, op := _, type := _, pos := _, after := _, guard := _ }) (v := ?v3) rfl (by kernel_rfl) (by kernel_rfl) (by kernel_rfl) (by kernel_rfl) (fun _ _ _ h => h) (Or.inl ⟨by kernel_rfl, ?y3⟩) hHeld ?r3
      case y3 =>
        intro w hSw
        try dsimp only at hSw
        try simp only [List.getElem_toArray, List.getElem_cons_zero, List.getElem_cons_succ]
        go_simp
        try with_reducible rfl
      try simp only [List.getElem_toArray, List.getElem_cons_zero, List.getElem_cons_succ, Act.put, List.setIfInBounds_toArray, List.set_cons_zero, List.set_cons_succ]
      refine wpAnyL_take (i := 3) (oi := { dst := some 9, op := _, type := _, pos := _, after := _, guard := _ }) (v := ?v4) rfl (by kernel_rfl) (by kernel_rfl) (by kernel_rfl) (by kernel_rfl) (fun _ _ _ h => h) (Or.inl ⟨by kernel_rfl, ?y4⟩) hHeld ?r4
      case y4 =>
        intro w hSw
        try dsimp only at hSw
        try simp only [List.getElem_toArray, List.getElem_cons_zero, List.getElem_cons_succ]
        go_simp
        try with_reducible rfl
      try simp only [List.getElem_toArray, List.getElem_cons_zero, List.getElem_cons_succ, Act.put, List.setIfInBounds_toArray, List.set_cons_zero, List.set_cons_succ]
      refine wpAnyL_take (i := 4) (oi := { dst := some 10, op := _, type := _, pos := _, after := _, guard := _ }) (v := ?v5) rfl (by kernel_rfl) (by kernel_rfl) (by kernel_rfl) (by kernel_rfl) (fun _ _ _ h => h) (Or.inl ⟨by kernel_rfl, ?y5⟩) hHeld ?r5
      case y5 =>
        intro w hSw
        try dsimp only at hSw
        try simp only [List.getElem_toArray, List.getElem_cons_zero, List.getElem_cons_succ]
        go_simp
        try with_reducible rfl
      try simp only [List.getElem_toArray, List.getElem_cons_zero, List.getElem_cons_succ, Act.put, List.setIfInBounds_toArray, List.set_cons_zero, List.set_cons_succ]
      refine wpAnyL_take (i := 5) (oi := { dst := some 11, op := _, type := _, pos := _, after := _, guard := _ }) (v := ?v6) rfl (by kernel_rfl) (by kernel_rfl) (by kernel_rfl) (by kernel_rfl) (fun _ _ _ h => h) (Or.inl ⟨by kernel_rfl, ?y6⟩) hHeld ?r6
      case y6 =>
        intro w hSw
        try dsimp only at hSw
        try simp only [List.getElem_toArray, List.getElem_cons_zero, List.getElem_cons_succ]
        go_simp
        try with_reducible rfl
      try simp only [List.getElem_toArray, List.getElem_cons_zero, List.getElem_cons_succ, Act.put, List.setIfInBounds_toArray, List.set_cons_zero, List.set_cons_succ]
      refine wpAnyL_take (i := 6) (oi := { dst := some 12, op := _, type := _, pos := _, after := _, guard := _ }) (v := ?v7) rfl (by kernel_rfl) (by kernel_rfl) (by kernel_rfl) (by kernel_rfl) (fun _ _ _ h => h) (Or.inl ⟨by kernel_rfl, ?y7⟩) hHeld ?r7
      case y7 =>
        intro w hSw
        try dsimp only at hSw
        try simp only [List.getElem_toArray, List.getElem_cons_zero, List.getElem_cons_succ]
        go_simp
        try with_reducible rfl
      try simp only [List.getElem_toArray, List.getElem_cons_zero, List.getElem_cons_succ, Act.put, List.setIfInBounds_toArray, List.set_cons_zero, List.set_cons_succ]
      refine wpAnyL_take (i := 7) (oi := { dst := some 13, op := _, type := _, pos := _, after := _, guard := _ }) (v := ?v8) rfl (by kernel_rfl) (by kernel_rfl) (by kernel_rfl) (by kernel_rfl) (fun _ _ _ h => h) (Or.inl ⟨by kernel_rfl, ?y8⟩) hHeld ?r8
      case y8 =>
        intro w hSw
        try dsimp only at hSw
        try simp only [List.getElem_toArray, List.getElem_cons_zero, List.getElem_cons_succ]
        go_simp
        try with_reducible rfl
      try simp only [List.getElem_toArray, List.getElem_cons_zero, List.getElem_cons_succ, Act.put, List.setIfInBounds_toArray, List.set_cons_zero, List.set_cons_succ]
      refine wpAnyL_take (i := 8) (oi := { dst := some 14, op := _, type := _, pos := _, after := _, guard := _ }) (v := ?v9) rfl (by kernel_rfl) (by kernel_rfl) (by kernel_rfl) (by kernel_rfl) (fun _ _ _ h => h) (Or.inl ⟨by kernel_rfl, ?y9⟩) hHeld ?r9
      case y9 =>
        intro w hSw
        try dsimp only at hSw
        try simp only [List.getElem_toArray, List.getElem_cons_zero, List.getElem_cons_succ]
        go_simp
        try with_reducible rfl
      try simp only [List.getElem_toArray, List.getElem_cons_zero, List.getElem_cons_succ, Act.put, List.setIfInBounds_toArray, List.set_cons_zero, List.set_cons_succ]
      refine wpAnyL_take (i := 9) (oi := { dst := some 15, op := _, type := _, pos := _, after := _, guard := _ }) (v := ?v10) rfl (by kernel_rfl) (by kernel_rfl) (by kernel_rfl) (by kernel_rfl) (fun _ _ _ h => h) (Or.inl ⟨by kernel_rfl, ?y10⟩) hHeld ?r10
      case y10 =>
        intro w hSw
        try dsimp only at hSw
        try simp only [List.getElem_toArray, List.getElem_cons_zero, List.getElem_cons_succ]
        go_simp
        try with_reducible rfl
      try simp only [List.getElem_toArray, List.getElem_cons_zero, List.getElem_cons_succ, Act.put, List.setIfInBounds_toArray, List.set_cons_zero, List.set_cons_succ]
      refine wpAnyL_take (i := 10) (oi := { dst := some 4, op := _, type := _, pos := _, after := _, guard := _ }) (v := ?v11) rfl (by kernel_rfl) (by kernel_rfl) (by kernel_rfl) (by kernel_rfl) (fun _ _ _ h => h) (Or.inl ⟨by kernel_rfl, ?y11⟩) hHeld ?r11
      case y11 =>
        intro w hSw
        try dsimp only at hSw
        try simp only [List.getElem_toArray, List.getElem_cons_zero, List.getElem_cons_succ]
        go_simp
        try with_reducible rfl
      try simp only [List.getElem_toArray, List.getElem_cons_zero, List.getElem_cons_succ, Act.put, List.setIfInBounds_toArray, List.set_cons_zero, List.set_cons_succ]
      refine wpAnyL_take (i := 11) (oi := { dst := some 5, op := _, type := _, pos := _, after := _, guard := _ }) (v := ?v12) rfl (by kernel_rfl) (by kernel_rfl) (by kernel_rfl) (by kernel_rfl) (fun _ _ _ h => h) (Or.inl ⟨by kernel_rfl, ?y12⟩) hHeld ?r12
      case y12 =>
        intro w hSw
        try dsimp only at hSw
        try simp only [List.getElem_toArray, List.getElem_cons_zero, List.getElem_cons_succ]
        go_simp
        try with_reducible rfl
      try simp only [List.getElem_toArray, List.getElem_cons_zero, List.getElem_cons_succ, Act.put, List.setIfInBounds_toArray, List.set_cons_zero, List.set_cons_succ]
      refine wpAnyL_done (by kernel_rfl) (OnlyN.normal ?_) _
      go_wp2
      exact bodyPost_ret (v := .tuple #[.slice none 0 0, .slice none 0 0]) (by simp [results, Tryd.results12, go_sem]) rfl ⟨rfl, (Below.refl _ w).drew⟩
    | some y =>
      clear p0 h0 hp hm hq
      go_enter Tryd.func12, Tryd.ntmps12
      go_wp2
      refine region_late (S := (fun _ : World => True)) (fun n => n == 999) (by kernel_rfl) hMd (fun hHeld => ?_)
      clear hMd
      refine wpAnyL_take (i := 0) (oi := { dst := some 6, op := _, type := _, pos := _, after := _, guard := _ }) (v := ?v13) rfl (by kernel_rfl) (by kernel_rfl) (by kernel_rfl) (by kernel_rfl) (fun _ _ _ h => h) (Or.inl ⟨by kernel_rfl, ?y13⟩) hHeld ?r13
      case y13 =>
        intro w hSw
        try dsimp only at hSw
        try simp only [List.getElem_toArray, List.getElem_cons_zero, List.getElem_cons_succ]
        go_simp
        try with_reducible rfl
      try simp only [List.getElem_toArray, List.getElem_cons_zero, List.getElem_cons_succ, Act.put, List.setIfInBounds_toArray, List.set_cons_zero, List.set_cons_succ]
      refine wpAnyL_take (i := 1) (oi := { dst := some 7, op := _, type := _, pos := _, after := _, guard := _ }) (v := ?v14) rfl (by kernel_rfl) (by kernel_rfl) (by kernel_rfl) (by kernel_rfl) (fun _ _ _ h => h) (Or.inl ⟨by kernel_rfl, ?y14⟩) hHeld ?r14
      case y14 =>
        intro w hSw
        try dsimp only at hSw
        try simp only [List.getElem_toArray, List.getElem_cons_zero, List.getElem_cons_succ]
        go_simp
        try with_reducible rfl
      try simp only [List.getElem_toArray, List.getElem_cons_zero, List.getElem_cons_succ, Act.put, List.setIfInBounds_toArray, List.set_cons_zero, List.set_cons_succ]
      refine wpAnyL_take (i := 2) (oi := { dst := some 8, op := _, type := _, pos := _, after := _, guard := _ }) (v := ?v15) rfl (by kernel_rfl) (by kernel_rfl) (by kernel_rfl) (by kernel_rfl) (fun _ _ _ h => h) (Or.inl ⟨by kernel_rfl, ?y15⟩) hHeld ?r15
      case y15 =>
        intro w hSw
        try dsimp only at hSw
        try simp only [List.getElem_toArray, List.getElem_cons_zero, List.getElem_cons_succ]
        go_simp
        try with_reducible rfl
      try simp only [List.getElem_toArray, List.getElem_cons_zero, List.getElem_cons_succ, Act.put, List.setIfInBounds_toArray, List.set_cons_zero, List.set_cons_succ]
      refine wpAnyL_take (i := 3) (oi := { dst := some 9, op := _, type := _, pos := _, after := _, guard := _ }) (v := ?v16) rfl (by kernel_rfl) (by kernel_rfl) (by kernel_rfl) (by kernel_rfl) (fun _ _ _ h => h) (Or.inl ⟨by kernel_rfl, ?y16⟩) hHeld ?r16
      case y16 =>
        intro w hSw
        try dsimp only at hSw
        try simp only [List.getElem_toArray, List.getElem_cons_zero, List.getElem_cons_succ]
        go_simp
        try with_reducible rfl
      try simp only [List.getElem_toArray, List.getElem_cons_zero, List.getElem_cons_succ, Act.put, List.setIfInBounds_toArray, List.set_cons_zero, List.set_cons_succ]
      refine wpAnyL_take (i := 4) (oi := { dst := some 10, op := _, type := _, pos := _, after := _, guard := _ }) (v := ?v17) rfl (by kernel_rfl) (by kernel_rfl) (by kernel_rfl) (by kernel_rfl) (fun _ _ _ h => h) (Or.inl ⟨by kernel_rfl, ?y17⟩) hHeld ?r17
      case y17 =>
        intro w hSw
        try dsimp only at hSw
        try simp only [List.getElem_toArray, List.getElem_cons_zero, List.getElem_cons_succ]
        go_simp
        try with_reducible rfl
      try simp only [List.getElem_toArray, List.getElem_cons_zero, List.getElem_cons_succ, Act.put, List.setIfInBounds_toArray, List.set_cons_zero, List.set_cons_succ]
      refine wpAnyL_take (i := 5) (oi := { dst := some 11, op := _, type := _, pos := _, after := _, guard := _ }) (v := ?v18) rfl (by kernel_rfl) (by kernel_rfl) (by kernel_rfl) (by kernel_rfl) (fun _ _ _ h => h) (Or.inl ⟨by kernel_rfl, ?y18⟩) hHeld ?r18
      case y18 =>
        intro w hSw
        try dsimp only at hSw
        try simp only [List.getElem_toArray, List.getElem_cons_zero, List.getElem_cons_succ]
        go_simp
        try with_reducible rfl
      try simp only [List.getElem_toArray, List.getElem_cons_zero, List.getElem_cons_succ, Act.put, List.setIfInBounds_toArray, List.set_cons_zero, List.set_cons_succ]
      refine wpAnyL_take (i := 6) (oi := { dst := some 12, op := _, type := _, pos := _, after := _, guard := _ }) (v := ?v19) rfl (by kernel_rfl) (by kernel_rfl) (by kernel_rfl) (by kernel_rfl) (fun _ _ _ h => h) (Or.inl ⟨by kernel_rfl, ?y19⟩) hHeld ?r19
      case y19 =>
        intro w hSw
        try dsimp only at hSw
        try simp only [List.getElem_toArray, List.getElem_cons_zero, List.getElem_cons_succ]
        go_simp
        try with_reducible rfl
      try simp only [List.getElem_toArray, List.getElem_cons_zero, List.getElem_cons_succ, Act.put, List.setIfInBounds_toArray, List.set_cons_zero, List.set_cons_succ]
      refine wpAnyL_take (i := 7) (oi := { dst := some 13, op := _, type := _, pos := _, after := _, guard := _ }) (v := ?v20) rfl (by kernel_rfl) (by kernel_rfl) (by kernel_rfl) (by kernel_rfl) (fun _ _ _ h => h) (Or.inl ⟨by kernel_rfl, ?y20⟩) hHeld ?r20
      case y20 =>
        intro w hSw
        try dsimp only at hSw
        try simp only [List.getElem_toArray, List.getElem_cons_zero, List.getElem_cons_succ]
        go_simp
        try with_reducible rfl
      try simp only [List.getElem_toArray, List.getElem_cons_zero, List.getElem_cons_succ, Act.put, List.setIfInBounds_toArray, List.set_cons_zero, List.set_cons_succ]
      refine wpAnyL_take (i := 8) (oi := { dst := some 14, op := _, type := _, pos := _, after := _, guard := _ }) (v := ?v21) rfl (by kernel_rfl) (by kernel_rfl) (by kernel_rfl) (by kernel_rfl) (fun _ _ _ h => h) (Or.inl ⟨by kernel_rfl, ?y21⟩) hHeld ?r21
      case y21 =>
        intro w hSw
        try dsimp only at hSw
        try simp only [List.getElem_toArray, List.getElem_cons_zero, List.getElem_cons_succ]
        go_simp
        try with_reducible rfl
      try simp only [List.getElem_toArray, List.getElem_cons_zero, List.getElem_cons_succ, Act.put, List.setIfInBounds_toArray, List.set_cons_zero, List.set_cons_succ]
      refine wpAnyL_take (i := 9) (oi := { dst := some 15, op := _, type := _, pos := _, after := _, guard := _ }) (v := ?v22) rfl (by kernel_rfl) (by kernel_rfl) (by kernel_rfl) (by kernel_rfl) (fun _ _ _ h => h) (Or.inl ⟨by kernel_rfl, ?y22⟩) hHeld ?r22
      case y22 =>
        intro w hSw
        try dsimp only at hSw
        try simp only [List.getElem_toArray, List.getElem_cons_zero, List.getElem_cons_succ]
        go_simp
        try with_reducible rfl
      try simp only [List.getElem_toArray, List.getElem_cons_zero, List.getElem_cons_succ, Act.put, List.setIfInBounds_toArray, List.set_cons_zero, List.set_cons_succ]
      refine wpAnyL_take (i := 10) (oi := { dst := some 4, op := _, type := _, pos := _, after := _, guard := _ }) (v := ?v23) rfl (by kernel_rfl) (by kernel_rfl) (by kernel_rfl) (by kernel_rfl) (fun _ _ _ h => h) (Or.inl ⟨by kernel_rfl, ?y23⟩) hHeld ?r23
      case y23 =>
        intro w hSw
        try dsimp only at hSw
        try simp only [List.getElem_toArray, List.getElem_cons_zero, List.getElem_cons_succ]
        go_simp
        try with_reducible rfl
      try simp only [List.getElem_toArray, List.getElem_cons_zero, List.getElem_cons_succ, Act.put, List.setIfInBounds_toArray, List.set_cons_zero, List.set_cons_succ]
      refine wpAnyL_take (i := 11) (oi := { dst := some 5, op := _, type := _, pos := _, after := _, guard := _ }) (v := ?v24) rfl (by kernel_rfl) (by kernel_rfl) (by kernel_rfl) (by kernel_rfl) (fun _ _ _ h => h) (Or.inl ⟨by kernel_rfl, ?y24⟩) hHeld ?r24
      case y24 =>
        intro w hSw
        try dsimp only at hSw
        try simp only [List.getElem_toArray, List.getElem_cons_zero, List.getElem_cons_succ]
        go_simp
        try with_reducible rfl
      try simp only [List.getElem_toArray, List.getElem_cons_zero, List.getElem_cons_succ, Act.put, List.setIfInBounds_toArray, List.set_cons_zero, List.set_cons_succ]
      refine wpAnyL_done (by kernel_rfl) (OnlyN.normal ?_) _
      go_wp2
      exact bodyPost_ret (v := .tuple #[.slice none 0 0, .slice (some y) q ch]) (by simp [results, Tryd.results12, go_sem]) rfl ⟨rfl, (Below.refl _ w).drew⟩
  | some x =>
    cases ph with
    | none =>
      obtain ⟨rfl, rfl⟩ := h0 rfl
      obtain rfl : q = 0 := by omega
      clear p0 h0 hh hm hq
      go_enter Tryd.func12, Tryd.ntmps12
      go_wp2
      refine region_late (S := (fun _ : World => True)) (fun n => n == 999) (by kernel_rfl) hMd (fun hHeld => ?_)
      clear hMd
      refine wpAnyL_take (i := 0) (oi := { dst := some 6, op := _, type := _, pos := _, after := _, guard := _ }) (v := ?v25) rfl (by kernel_rfl) (by kernel_rfl) (by kernel_rfl) (by kernel_rfl) (fun _ _ _ h => h) (Or.inl ⟨by kernel_rfl, ?y25⟩) hHeld ?r25
      case y25 =>
        intro w hSw
        try dsimp only at hSw
        try simp only [List.getElem_toArray, List.getElem_cons_zero, List.getElem_cons_succ]
        go_simp
        try with_reducible rfl
      try simp only [List.getElem_toArray, List.getElem_cons_zero, List.getElem_cons_succ, Act.put, List.setIfInBounds_toArray, List.set_cons_zero, List.set_cons_succ]
      refine wpAnyL_take (i := 1) (oi := { dst := some 7, op := _, type := _, pos := _, after := _, guard := _ }) (v := ?v26) rfl (by kernel_rfl) (by kernel_rfl) (by kernel_rfl) (by kernel_rfl) (fun _ _ _ h => h) (Or.inl ⟨by kernel_rfl, ?y26⟩) hHeld ?r26
      case y26 =>
        intro w hSw
        try dsimp only at hSw
        try simp only [List.getElem_toArray, List.getElem_cons_zero, List.getElem_cons_succ]
        go_simp
        try with_reducible rfl
      try simp only [List.getElem_toArray, List.getElem_cons_zero, List.getElem_cons_succ, Act.put, List.setIfInBounds_toArray, List.set_cons_zero, List.set_cons_succ]
      refine wpAnyL_take (i := 2) (oi := { dst := some 8, op := _, type := _, pos := _, after := _, guard := _ }) (v := ?v27) rfl (by kernel_rfl) (by kernel_rfl) (by kernel_rfl) (by kernel_rfl) (fun _ _ _ h => h) (Or.inl ⟨by kernel_rfl, ?y27⟩) hHeld ?r27
      case y27 =>
        intro w hSw
        try dsimp only at hSw
        try simp only [List.getElem_toArray, List.getElem_cons_zero, List.getElem_cons_succ]
        go_simp
        try with_reducible rfl
      try simp only [List.getElem_toArray, List.getElem_cons_zero, List.getElem_cons_succ, Act.put, List.setIfInBounds_toArray, List.set_cons_zero, List.set_cons_succ]
      refine wpAnyL_take (i := 3) (oi := { dst := some 9, op := _, type := _, pos := _, after := _, guard := _ }) (v := ?v28) rfl (by kernel_rfl) (by kernel_rfl) (by kernel_rfl) (by kernel_rfl) (fun _ _ _ h => h) (Or.inl ⟨by kernel_rfl, ?y28⟩) hHeld ?r28
      case y28 =>
        intro w hSw
        try dsimp only at hSw
        try simp only [List.getElem_toArray, List.getElem_cons_zero, List.getElem_cons_succ]
        go_simp
        try with_reducible rfl
      try simp only [List.getElem_toArray, List.getElem_cons_zero, List.getElem_cons_succ, Act.put, List.setIfInBounds_toArray, List.set_cons_zero, List.set_cons_succ]
      refine wpAnyL_take (i := 4) (oi := { dst := some 10, op := _, type := _, pos := _, after := _, guard := _ }) (v := ?v29) rfl (by kernel_rfl) (by kernel_rfl) (by kernel_rfl) (by kernel_rfl) (fun _ _ _ h => h) (Or.inl ⟨by kernel_rfl, ?y29⟩) hHeld ?r29
      case y29 =>
        intro w hSw
        try dsimp only at hSw
        try simp only [List.getElem_toArray, List.getElem_cons_zero, List.getElem_cons_succ]
        go_simp
        try with_reducible rfl
      try simp only [List.getElem_toArray, List.getElem_cons_zero, List.getElem_cons_succ, Act.put, List.setIfInBounds_toArray, List.set_cons_zero, List.set_cons_succ]
      refine wpAnyL_take (i := 5) (oi := { dst := some 11, op := _, type := _, pos := _, after := _, guard := _ }) (v := ?v30) rfl (by kernel_rfl) (by kernel_rfl) (by kernel_rfl) (by kernel_rfl) (fun _ _ _ h => h) (Or.inl ⟨by kernel_rfl, ?y30⟩) hHeld ?r30
      case y30 =>
        intro w hSw
        try dsimp only at hSw
        try simp only [List.getElem_toArray, List.getElem_cons_zero, List.getElem_cons_succ]
        go_simp
        try with_reducible rfl
      try simp only [List.getElem_toArray, List.getElem_cons_zero, List.getElem_cons_succ, Act.put, List.setIfInBounds_toArray, List.set_cons_zero, List.set_cons_succ]
      refine wpAnyL_take (i := 6) (oi := { dst := some 12, op := _, type := _, pos := _, after := _, guard := _ }) (v := ?v31) rfl (by kernel_rfl) (by kernel_rfl) (by kernel_rfl) (by kernel_rfl) (fun _ _ _ h => h) (Or.inl ⟨by kernel_rfl, ?y31⟩) hHeld ?r31
      case y31 =>
        intro w hSw
        try dsimp only at hSw
        try simp only [List.getElem_toArray, List.getElem_cons_zero, List.getElem_cons_succ]
        go_simp
        try with_reducible rfl
      try simp only [List.getElem_toArray, List.getElem_cons_zero, List.getElem_cons_succ, Act.put, List.setIfInBounds_toArray, List.set_cons_zero, List.set_cons_succ]
      refine wpAnyL_take (i := 7) (oi := { dst := some 13, op := _, type := _, pos := _, after := _, guard := _ }) (v := ?v32) rfl (by kernel_rfl) (by kernel_rfl) (by kernel_rfl) (by kernel_rfl) (fun _ _ _ h => h) (Or.inl ⟨by kernel_rfl, ?y32⟩) hHeld ?r32
      case y32 =>
        intro w hSw
        try dsimp only at hSw
        try simp only [List.getElem_toArray, List.getElem_cons_zero, List.getElem_cons_succ]
        go_simp
        try with_reducible rfl
      try simp only [List.getElem_toArray, List.getElem_cons_zero, List.getElem_cons_succ, Act.put, List.setIfInBounds_toArray, List.set_cons_zero, List.set_cons_succ]
      refine wpAnyL_take (i := 8) (oi := { dst := some 14, op := _, type := _, pos := _, after := _, guard := _ }) (v := ?v33) rfl (by kernel_rfl) (by kernel_rfl) (by kernel_rfl) (by kernel_rfl) (fun _ _ _ h => h) (Or.inl ⟨by kernel_rfl, ?y33⟩) hHeld ?r33
      case y33 =>
        intro w hSw
        try dsimp only at hSw
        try simp only [List.getElem_toArray, List.getElem_cons_zero, List.getElem_cons_succ]
        go_simp
        try with_reducible rfl
      try simp only [List.getElem_toArray, List.getElem_cons_zero, List.getElem_cons_succ, Act.put, List.setIfInBounds_toArray, List.set_cons_zero, List.set_cons_succ]
      refine wpAnyL_take (i := 9) (oi := { dst := some 15, op := _, type := _, pos := _, after := _, guard := _ }) (v := ?v34) rfl (by kernel_rfl) (by kernel_rfl) (by kernel_rfl) (by kernel_rfl) (fun _ _ _ h => h) (Or.inl ⟨by kernel_rfl, ?y34⟩) hHeld ?r34
      case y34 =>
        intro w hSw
        try dsimp only at hSw
        try simp only [List.getElem_toArray, List.getElem_cons_zero, List.getElem_cons_succ]
        go_simp
        try with_reducible rfl
      try simp only [List.getElem_toArray, List.getElem_cons_zero, List.getElem_cons_succ, Act.put, List.setIfInBounds_toArray, List.set_cons_zero, List.set_cons_succ]
      refine wpAnyL_take (i := 10) (oi := { dst := some 4, op := _, type := _, pos := _, after := _, guard := _ }) (v := ?v35) rfl (by kernel_rfl) (by kernel_rfl) (by kernel_rfl) (by kernel_rfl) (fun _ _ _ h => h) (Or.inl ⟨by kernel_rfl, ?y35⟩) hHeld ?r35
      case y35 =>
        intro w hSw
        try dsimp only at hSw
        try simp only [List.getElem_toArray, List.getElem_cons_zero, List.getElem_cons_succ]
        go_simp
        try with_reducible rfl
      try simp only [List.getElem_toArray, List.getElem_cons_zero, List.getElem_cons_succ, Act.put, List.setIfInBounds_toArray, List.set_cons_zero, List.set_cons_succ]
      refine wpAnyL_take (i := 11) (oi := { dst := some 5, op := _, type := _, pos := _, after := _, guard := _ }) (v := ?v36) rfl (by kernel_rfl) (by kernel_rfl) (by kernel_rfl) (by kernel_rfl) (fun _ _ _ h => h) (Or.inl ⟨by kernel_rfl, ?y36⟩) hHeld ?r36
      case y36 =>
        intro w hSw
        try dsimp only at hSw
        try simp only [List.getElem_toArray, List.getElem_cons_zero, List.getElem_cons_succ]
        go_simp
        try with_reducible rfl
      try simp only [List.getElem_toArray, List.getElem_cons_zero, List.getElem_cons_succ, Act.put, List.setIfInBounds_toArray, List.set_cons_zero, List.set_cons_succ]
      refine wpAnyL_done (by kernel_rfl) (OnlyN.normal ?_) _
      go_wp2
      exact bodyPost_ret (v := .tuple #[.slice (some x) m c, .slice none 0 0]) (by simp [results, Tryd.results12, go_sem]) rfl ⟨rfl, (Below.refl _ w).drew⟩
    | some y =>
      clear p0 h0 hm hq
      go_enter Tryd.func12, Tryd.ntmps12
      go_wp2
      refine region_late (S := (fun _ : World => True)) (fun n => n == 999) (by kernel_rfl) hMd (fun hHeld => ?_)
      clear hMd
      refine wpAnyL_take (i := 0) (oi := { dst := some 6, op := _, type := _, pos := _, after := _, guard := _ }) (v := ?v37) rfl (by kernel_rfl) (by kernel_rfl) (by kernel_rfl) (by kernel_rfl) (fun _ _ _ h => h) (Or.inl ⟨by kernel_rfl, ?y37⟩) hHeld ?r37
      case y37 =>
        intro w hSw
        try dsimp only at hSw
        try simp only [List.getElem_toArray, List.getElem_cons_zero, List.getElem_cons_succ]
        go_simp
        try with_reducible rfl
      try simp only [List.getElem_toArray, List.getElem_cons_zero, List.getElem_cons_succ, Act.put, List.setIfInBounds_toArray, List.set_cons_zero, List.set_cons_succ]
      refine wpAnyL_take (i := 1) (oi := { dst := some 7, op := _, type := _, pos := _, after := _, guard := _ }) (v := ?v38) rfl (by kernel_rfl) (by kernel_rfl) (by kernel_rfl) (by kernel_rfl) (fun _ _ _ h => h) (Or.inl ⟨by kernel_rfl, ?y38⟩) hHeld ?r38
      case y38 =>
        intro w hSw
        try dsimp only at hSw
        try simp only [List.getElem_toArray, List.getElem_cons_zero, List.getElem_cons_succ]
        go_simp
        try with_reducible rfl
      try simp only [List.getElem_toArray, List.getElem_cons_zero, List.getElem_cons_succ, Act.put, List.setIfInBounds_toArray, List.set_cons_zero, List.set_cons_succ]
      refine wpAnyL_take (i := 2) (oi := { dst := some 8, op := _, type := _, pos := _, after := _, guard := _ }) (v := ?v39) rfl (by kernel_rfl) (by kernel_rfl) (by kernel_rfl) (by kernel_rfl) (fun _ _ _ h => h) (Or.inl ⟨by kernel_rfl, ?y39⟩) hHeld ?r39
      case y39 =>
        intro w hSw
        try dsimp only at hSw
        try simp only [List.getElem_toArray, List.getElem_cons_zero, List.getElem_cons_succ]
        go_simp
        try with_reducible rfl
      try simp only [List.getElem_toArray, List.getElem_cons_zero, List.getElem_cons_succ, Act.put, List.setIfInBounds_toArray, List.set_cons_zero, List.set_cons_succ]
      refine wpAnyL_take (i := 3) (oi := { dst := some 9, op := _, type := _, pos := _, after := _, guard := _ }) (v := ?v40) rfl (by kernel_rfl) (by kernel_rfl) (by kernel_rfl) (by kernel_rfl) (fun _ _ _ h => h) (Or.inl ⟨by kernel_rfl, ?y40⟩) hHeld ?r40
      case y40 =>
        intro w hSw
        try dsimp only at hSw
        try simp only [List.getElem_toArray, List.getElem_cons_zero, List.getElem_cons_succ]
        go_simp
        try with_reducible rfl
      try simp only [List.getElem_toArray, List.getElem_cons_zero, List.getElem_cons_succ, Act.put, List.setIfInBounds_toArray, List.set_cons_zero, List.set_cons_succ]
      refine wpAnyL_take (i := 4) (oi := { dst := some 10, op := _, type := _, pos := _, after := _, guard := _ }) (v := ?v41) rfl (by kernel_rfl) (by kernel_rfl) (by kernel_rfl) (by kernel_rfl) (fun _ _ _ h => h) (Or.inl ⟨by kernel_rfl, ?y41⟩) hHeld ?r41
      case y41 =>
        intro w hSw
        try dsimp only at hSw
        try simp only [List.getElem_toArray, List.getElem_cons_zero, List.getElem_cons_succ]
        go_simp
        try with_reducible rfl
      try simp only [List.getElem_toArray, List.getElem_cons_zero, List.getElem_cons_succ, Act.put, List.setIfInBounds_toArray, List.set_cons_zero, List.set_cons_succ]
      refine wpAnyL_take (i := 5) (oi := { dst := some 11, op := _, type := _, pos := _, after := _, guard := _ }) (v := ?v42) rfl (by kernel_rfl) (by kernel_rfl) (by kernel_rfl) (by kernel_rfl) (fun _ _ _ h => h) (Or.inl ⟨by kernel_rfl, ?y42⟩) hHeld ?r42
      case y42 =>
        intro w hSw
        try dsimp only at hSw
        try simp only [List.getElem_toArray, List.getElem_cons_zero, List.getElem_cons_succ]
        go_simp
        try with_reducible rfl
      try simp only [List.getElem_toArray, List.getElem_cons_zero, List.getElem_cons_succ, Act.put, List.setIfInBounds_toArray, List.set_cons_zero, List.set_cons_succ]
      refine wpAnyL_take (i := 6) (oi := { dst := some 12, op := _, type := _, pos := _, after := _, guard := _ }) (v := ?v43) rfl (by kernel_rfl) (by kernel_rfl) (by kernel_rfl) (by kernel_rfl) (fun _ _ _ h => h) (Or.inl ⟨by kernel_rfl, ?y43⟩) hHeld ?r43
      case y43 =>
        intro w hSw
        try dsimp only at hSw
        try simp only [List.getElem_toArray, List.getElem_cons_zero, List.getElem_cons_succ]
        go_simp
        try with_reducible rfl
      try simp only [List.getElem_toArray, List.getElem_cons_zero, List.getElem_cons_succ, Act.put, List.setIfInBounds_toArray, List.set_cons_zero, List.set_cons_succ]
      refine wpAnyL_take (i := 7) (oi := { dst := some 13, op := _, type := _, pos := _, after := _, guard := _ }) (v := ?v44) rfl (by kernel_rfl) (by kernel_rfl) (by kernel_rfl) (by kernel_rfl) (fun _ _ _ h => h) (Or.inl ⟨by kernel_rfl, ?y44⟩) hHeld ?r44
      case y44 =>
        intro w hSw
        try dsimp only at hSw
        try simp only [List.getElem_toArray, List.getElem_cons_zero, List.getElem_cons_succ]
        go_simp
        try with_reducible rfl
      try simp only [List.getElem_toArray, List.getElem_cons_zero, List.getElem_cons_succ, Act.put, List.setIfInBounds_toArray, List.set_cons_zero, List.set_cons_succ]
      refine wpAnyL_take (i := 8) (oi := { dst := some 14, op := _, type := _, pos := _, after := _, guard := _ }) (v := ?v45) rfl (by kernel_rfl) (by kernel_rfl) (by kernel_rfl) (by kernel_rfl) (fun _ _ _ h => h) (Or.inl ⟨by kernel_rfl, ?y45⟩) hHeld ?r45
      case y45 =>
        intro w hSw
        try dsimp only at hSw
        try simp only [List.getElem_toArray, List.getElem_cons_zero, List.getElem_cons_succ]
        go_simp
        try with_reducible rfl
      try simp only [List.getElem_toArray, List.getElem_cons_zero, List.getElem_cons_succ, Act.put, List.setIfInBounds_toArray, List.set_cons_zero, List.set_cons_succ]
      refine wpAnyL_take (i := 9) (oi := { dst := some 15, op := _, type := _, pos := _, after := _, guard := _ }) (v := ?v46) rfl (by kernel_rfl) (by kernel_rfl) (by kernel_rfl) (by kernel_rfl) (fun _ _ _ h => h) (Or.inl ⟨by kernel_rfl, ?y46⟩) hHeld ?r46
      case y46 =>
        intro w hSw
        try dsimp only at hSw
        try simp only [List.getElem_toArray, List.getElem_cons_zero, List.getElem_cons_succ]
        go_simp
        try with_reducible rfl
      try simp only [List.getElem_toArray, List.getElem_cons_zero, List.getElem_cons_succ, Act.put, List.setIfInBounds_toArray, List.set_cons_zero, List.set_cons_succ]
      refine wpAnyL_take (i := 10) (oi := { dst := some 4, op := _, type := _, pos := _, after := _, guard := _ }) (v := ?v47) rfl (by kernel_rfl) (by kernel_rfl) (by kernel_rfl) (by kernel_rfl) (fun _ _ _ h => h) (Or.inl ⟨by kernel_rfl, ?y47⟩) hHeld ?r47
      case y47 =>
        intro w hSw
        try dsimp only at hSw
        try simp only [List.getElem_toArray, List.getElem_cons_zero, List.getElem_cons_succ]
        go_simp
        try with_reducible rfl
      try simp only [List.getElem_toArray, List.getElem_cons_zero, List.getElem_cons_succ, Act.put, List.setIfInBounds_toArray, List.set_cons_zero, List.set_cons_succ]
      refine wpAnyL_take (i := 11) (oi := { dst := some 5, op := _, type := _, pos := _, after := _, guard := _ }) (v := ?v48) rfl (by kernel_rfl) (by kernel_rfl) (by kernel_rfl) (by kernel_rfl) (fun _ _ _ h => h) (Or.inl ⟨by kernel_rfl, ?y48⟩) hHeld ?r48
      case y48 =>
        intro w hSw
        try dsimp only at hSw
        try simp only [List.getElem_toArray, List.getElem_cons_zero, List.getElem_cons_succ]
        go_simp
        try with_reducible rfl
      try simp only [List.getElem_toArray, List.getElem_cons_zero, List.getElem_cons_succ, Act.put, List.setIfInBounds_toArray, List.set_cons_zero, List.set_cons_succ]
      refine wpAnyL_done (by kernel_rfl) (OnlyN.normal ?_) _
      go_wp2
      exact bodyPost_ret (v := .tuple #[.slice (some x) m c, .slice (some y) q ch]) (by simp [results, Tryd.results12, go_sem]) rfl ⟨rfl, (Below.refl _ w).drew⟩
end Go.Proofs.YtnigpmbpipmgfaaDoor

/-
  The laws' head: shown.
-/
namespace Go.Proofs.YtnigpmbpipmgfaaDoor
open Go.RowKit Go.Shelf Tess

theorem getB_mk {l : List Int} {hs : List Bool} (h : ColOk l hs) (row : Int) : getB (mkB l hs) row = if 0 ≤ row ∧ row.toNat ∈ idxB hs then (vI l row.toNat, true) else (0, false) := by
  have hr := mkB_right h
  have hx := ex_bits h
  unfold getB
  by_cases hm : 0 ≤ row ∧ row.toNat ∈ idxB hs
  · have hlt := h.lt _ hm.2
    have hh : hasL (mkB l hs).ex row = true := by
      rw [hasL_bits hx.1, decide_eq_true (by omega), Bool.true_and, hx.2 _ (by omega)]
      exact decide_eq_true hm.2
    rw [if_pos ⟨hr, hh⟩, if_pos hm]
    obtain ⟨n, rfl⟩ : ∃ n : Nat, row = n := ⟨row.toNat, by omega⟩
    rw [Int.toNat_natCast] at hm ⊢
    rw [bits_len, valU_mk h hm.2 _ (Nat.le_refl _), Nat.mod_eq_of_lt (upBy_lt hm.2)]
    have e : (mkB l hs).least + (upBy l hs n : Int) = vI l n := up_eq hm.2
    rw [e, IntKind.wrap_i64]
    have := h.rg n
    congr 1
    omega
  · have hh : ¬ (isRightB (mkB l hs) = true ∧ hasL (mkB l hs).ex row = true) := by
      rintro ⟨-, hh⟩
      rw [hasL_bits hx.1, Bool.and_eq_true, decide_eq_true_eq] at hh
      obtain ⟨h1, h2⟩ := hh
      rw [hx.2 _ (by omega)] at h2
      exact hm ⟨h1.1, of_decide_eq_true h2⟩
    rw [if_neg hh, if_neg hm]

def lS : List Int := [5, 9, 3, 10]
def hS : List Bool := [true, false, true, true]
theorem okS : ColOk lS hS := ⟨by decide, rfl, fun i => by
  unfold vI lS
  match i with
  | 0 => decide
  | 1 => decide
  | 2 => decide
  | 3 => decide
  | i + 4 => simp⟩
theorem buildS : buildB lS hS = (mkB lS hS, 0) := if_pos (by decide)
theorem nS : (mkB lS hS).n = 4 := rfl
theorem leastS : (mkB lS hS).least = 3 := by decide
theorem lenS : (mkB lS hS).bits.length = 3 := by rw [bits_len]; decide +kernel
theorem getS3 : getB (mkB lS hS) 3 = (10, true) := by rw [getB_mk okS]; decide
theorem getS1 : getB (mkB lS hS) 1 = (0, false) := by rw [getB_mk okS]; decide
theorem spanS : (spanL 0 4).2 = 0 ∧ rightL (spanL 0 4).1 = true := by
  obtain ⟨r, h, hr, -⟩ := flip_some (l := []) (a := 0) (b := 4) right_nil ⟨by decide, by decide, by decide, by decide⟩
  have e : spanL 0 4 = (r, 0) := h
  rw [e]
  exact ⟨rfl, hr⟩
theorem digS : (mkB lS hS).bits = [mkN [3], mkN [0, 3], mkN [3]] := by decide +kernel
theorem exS : (mkB lS hS).ex = mkN [0, 2, 3] := by decide +kernel
theorem cntS {xs : List Nat} (h : ∀ x ∈ xs, x < 65536) (k : Int) (hk : cntL (andL (mkN xs) (spanL 0 4).1) = k) : (cntN (andL (mkN xs) (spanL 0 4).1) : Int) = k := by
  rw [← cntN_eq (and_some (mkN_bits h).1 spanS.2).2.1, hk]
theorem sumS : sumB (mkB lS hS) (spanL 0 4).1 = (18, 3, 0) := by
  rw [sumB_yes ⟨mkB_right okS, spanS.2⟩, lenS, digS, exS, leastS]
  have c0 := cntS (xs := [0, 2, 3]) (by decide) 3 (by decide +kernel)
  have c1 := cntS (xs := [3]) (by decide) 1 (by decide +kernel)
  have c2 := cntS (xs := [0, 3]) (by decide) 2 (by decide +kernel)
  show (accU _ _ _ 3, _, _) = _
  rw [c0]
  show (3 * 3 + (cntN (andL (mkN [3]) (spanL 0 4).1) : Int) * 2 ^ 0 + (cntN (andL (mkN [0, 3]) (spanL 0 4).1) : Int) * 2 ^ 1 + (cntN (andL (mkN [3]) (spanL 0 4).1) : Int) * 2 ^ 2, (3 : Int), (0 : Int)) = _
  rw [c1, c2]
  decide
theorem keep6 {W W1 W2 : World} {a1 a2 a3 a4 a5 : Addr} {x1 x2 x3 x4 x5 : Value} (hb : Below W1.heap.size W1 W2) (h : Hid (Below W.heap.size W W1) ∧ W1.cell? a1 = some x1 ∧ W1.cell? a2 = some x2 ∧ W1.cell? a3 = some x3 ∧ W1.cell? a4 = some x4 ∧ W1.cell? a5 = some x5) :
    Hid (Below W.heap.size W W2) ∧ W2.cell? a1 = some x1 ∧ W2.cell? a2 = some x2 ∧ W2.cell? a3 = some x3 ∧ W2.cell? a4 = some x4 ∧ W2.cell? a5 = some x5 := by
  have d {a : Addr} {x : Value} (k : W1.cell? a = some x) : W2.cell? a = some x := (hb.cell (World.block_lt_of_cell? W1 a k)).trans k
  exact ⟨Lib.hid (h.1.out.trans (hb.mono h.1.out.size)), d h.2.1, d h.2.2.1, d h.2.2.2.1, d h.2.2.2.2.1, d h.2.2.2.2.2⟩
theorem wd18 : wdV 18 = .agg #[.int .i64 0, .int .u64 18] := by
  have h1 : hiW 18 = 0 := by decide +kernel
  have h2 : loW 18 = 18 := by decide +kernel
  unfold wdV
  rw [h1, h2]
/-- The column that is known. -/
theorem knownS : ∃ ex bs, buildB lS hS = (⟨4, 3, ex, bs⟩, 0) ∧ bs.length = 3 ∧ getB ⟨4, 3, ex, bs⟩ 3 = (10, true) ∧ getB ⟨4, 3, ex, bs⟩ 1 = (0, false) ∧ sumB ⟨4, 3, ex, bs⟩ (spanL 0 4).1 = (18, 3, 0) ∧ SmallB ⟨4, 3, ex, bs⟩ := by
  have e : mkB lS hS = ⟨4, 3, (mkB lS hS).ex, (mkB lS hS).bits⟩ := by
    have h1 := nS
    have h2 := leastS
    cases hm : mkB lS hS with
    | mk n least ex bs =>
      rw [hm] at h1 h2
      simp only at h1 h2
      rw [h1, h2]
  refine ⟨(mkB lS hS).ex, (mkB lS hS).bits, ?_, lenS, ?_, ?_, ?_, ?_⟩
  · rw [buildS, ← e]
  · rw [← e]; exact getS3
  · rw [← e]; exact getS1
  · rw [← e]; exact sumS
  · rw [← e]; exact mkB_small okS

theorem intsS (w : World) : Ints ((w.alloc (.cells #[.int .i64 5, .int .i64 9, .int .i64 3, .int .i64 10] 2)).alloc (.cells #[.bool true, .bool false, .bool true, .bool true] 4)).heap.size ((w.alloc (.cells #[.int .i64 5, .int .i64 9, .int .i64 3, .int .i64 10] 2)).alloc (.cells #[.bool true, .bool false, .bool true, .bool true] 4)) (.slice (some ⟨w.heap.size, 0, none⟩) 4 4) lS := by
  refine .inr ⟨w.heap.size, 0, 4, rfl, by simp; omega, fun j hj => ?_⟩
  have h0 : ((w.alloc (.cells #[.int .i64 5, .int .i64 9, .int .i64 3, .int .i64 10] 2)).alloc (.cells #[.bool true, .bool false, .bool true, .bool true] 4)).heap[w.heap.size]? = some (.cells #[.int .i64 5, .int .i64 9, .int .i64 3, .int .i64 10] 2) := (Below.heap_alloc _ _ _ (by simp)).trans (World.alloc_heap_new w _)
  rw [Nat.zero_add, cell_of_row _ _ _ _ _ (0, 0) h0]
  match j, hj with
  | 0, _ => rfl
  | 1, _ => rfl
  | 2, _ => rfl
  | 3, _ => rfl
  | j + 4, hj => simp [lS] at hj; omega
theorem boolsS (w : World) : BoolsAt ((w.alloc (.cells #[.int .i64 5, .int .i64 9, .int .i64 3, .int .i64 10] 2)).alloc (.cells #[.bool true, .bool false, .bool true, .bool true] 4)).heap.size ((w.alloc (.cells #[.int .i64 5, .int .i64 9, .int .i64 3, .int .i64 10] 2)).alloc (.cells #[.bool true, .bool false, .bool true, .bool true] 4)) (.slice (some ⟨w.heap.size + 1, 0, none⟩) 4 4) hS := by
  refine ⟨_, _, rfl, fun j hj => ⟨w.heap.size + 1, 0, rfl, by simp, ?_⟩⟩
  have h0 := World.alloc_heap_new (w.alloc (.cells #[.int .i64 5, .int .i64 9, .int .i64 3, .int .i64 10] 2)) (.cells #[.bool true, .bool false, .bool true, .bool true] 4)
  rw [World.size_alloc] at h0
  rw [Nat.zero_add, cell_of_row _ _ _ _ _ (0, 0) h0]
  match j, hj with
  | 0, _ => rfl
  | 1, _ => rfl
  | 2, _ => rfl
  | 3, _ => rfl
  | j + 4, hj => simp [hS] at hj; omega
set_option linter.unusedSimpArgs false in
set_option maxRecDepth 100000 in
set_option maxHeartbeats 2000000 in
theorem shown8_any (w : World) (hT : Tab w) : Calls Tryd.prog 10 #[] w fun e W' => e = .returned (.bool true) ∧ Below w.heap.size w W' := by
  have hR : Below w.heap.size w ((w.alloc (.cells #[.int .i64 5, .int .i64 9, .int .i64 3, .int .i64 10] 2)).alloc (.cells #[.bool true, .bool false, .bool true, .bool true] 4)) := ((Below.refl w.heap.size w).alloc (Nat.le_refl _) _).alloc (by simp) _
  have k0 := Lib.hid (build_any (intsS w) (boolsS w) okS.rg (hT.below hR hT.lt))
  have hTw := Lib.hid hT
  have hR' := Lib.hid hR
  obtain ⟨ex, bs, g0, g1, g2, g3, g4, g5⟩ := knownS
  rw [g0] at k0
  dsimp only at k0
  obtain ⟨sp, hsp⟩ : ∃ sp, (spanL 0 4).1 = sp := ⟨_, rfl⟩
  have hsr := spanS.2
  have hse := spanS.1
  rw [hsp] at g4 hsr
  have hbl := Lib.hid g1
  have kG3 : Hid (∀ (vE vB : Value) (W : World), Below w.heap.size w W → HC W vE ex → HR W vB bs → Calls Tryd.prog 21 #[.agg #[.int .i64 4, .int .i64 3, vE, vB], .int .i64 3] W fun e W' => e = .returned (.tuple #[.int .i64 10, .bool true]) ∧ Below W.heap.size W W') := fun vE vB W h h1 h2 => by
    have := getB_any (b := ⟨4, 3, ex, bs⟩) 3 h1 h2 g5 (hTw.out.below h hTw.out.lt)
    rw [g2] at this
    exact this
  have kG1 : Hid (∀ (vE vB : Value) (W : World), Below w.heap.size w W → HC W vE ex → HR W vB bs → Calls Tryd.prog 21 #[.agg #[.int .i64 4, .int .i64 3, vE, vB], .int .i64 1] W fun e W' => e = .returned (.tuple #[.int .i64 0, .bool false]) ∧ Below W.heap.size W W') := fun vE vB W h h1 h2 => by
    have := getB_any (b := ⟨4, 3, ex, bs⟩) 1 h1 h2 g5 (hTw.out.below h hTw.out.lt)
    rw [g3] at this
    exact this
  have kSp : Hid (∀ W : World, Below w.heap.size w W → Calls Tryd.prog 15 #[.int .i64 0, .int .i64 4] W fun e W' => ∃ v', e = .returned (.tuple #[.agg #[v'], .int .i64 0]) ∧ HC W' v' sp ∧ Below W.heap.size W W') := fun W h => by
    have := span7_any 0 4 (hTw.out.below h hTw.out.lt)
    rw [hse, hsp] at this
    exact this
  have kSu : Hid (∀ (vE vB vr : Value) (W : World), Below w.heap.size w W → HC W vE ex → HR W vB bs → HC W vr sp → Calls Tryd.prog 16 #[.agg #[.int .i64 4, .int .i64 3, vE, vB], .agg #[vr]] W fun e W' => e = .returned (.tuple #[.agg #[.int .i64 0, .int .u64 18], .int .i64 3, .int .i64 0]) ∧ Below W.heap.size W W') := fun vE vB vr W h h1 h2 h3 => by
    have := sumB_any (b := ⟨4, 3, ex, bs⟩) h1 h2 h3 g5 (small_right hsr) (hTw.out.below h hTw.out.lt)
    rw [g4, wd18] at this
    exact this
  have kOf : Hid (∀ W : World, Calls Tryd.prog 38 #[.int .i64 18] W fun e W' => e = .returned (.agg #[.int .i64 0, .int .u64 18]) ∧ Below W.heap.size W W') := fun W => by
    have := wideOf_any 18 W (by decide) (by decide)
    rw [wd18] at this
    exact this
  clear hT hR g0 g1 g2 g3 g4 g5 hsp hsr hse
  go_enter Tryd.func10, Tryd.ntmps10
  go_wp2_with (first
    | (go_at_call 11; refine (k0.out).mono ?_; rintro e W1 ⟨vE, vB, rfl, hE, hB, hb1⟩; obtain ⟨pE, cE, rfl, -, -⟩ := Hid.out hE; obtain ⟨pB, cB, rfl, -, -⟩ := Hid.out hB; have hB1 := Lib.hid ((hR'.out.trans (hb1.mono hR'.out.size))); have q1 := Lib.hid (SBox.new W1 31 4 3 (.slice pE ex.length cE) (.slice pB bs.length cB)); have hA := (Below.refl _ W1).alloc (Nat.le_refl _) (.cells #[.int .i64 4, .int .i64 3, .slice pE ex.length cE, .slice pB bs.length cB] 31); have hB1' := Lib.hid (hB1.out.trans (hA.mono hB1.out.size)); have hE' := hE.later hA; have hB' := hB.later hA; have kg := Lib.hid (kG3.out _ _ _ hB1'.out hE' hB'))
    | (go_at_call 21; refine (kg.out).mono ?_; rintro e W2 ⟨rfl, hb2⟩; clear kg; have hB2 := Lib.hid (hB1'.out.trans (hb2.mono hB1'.out.size)); have q2 := Lib.hid (q1.out.later hb2); have c0 := q2.out.c0; have c1 := q2.out.c1; have c2 := q2.out.c2; have c3 := q2.out.c3; have hE2 := hE'.later hb2; have hB22 := hB'.later hb2; have kg1 := Lib.hid (kG1.out _ _ _ hB2.out hE2 hB22))
    | (go_at_call 21; refine (kg1.out).mono ?_; rintro e W3 ⟨rfl, hb3⟩; clear kg1 c0 c1 c2 c3; have hB3 := Lib.hid (hB2.out.trans (hb3.mono hB2.out.size)); have q3 := Lib.hid (q2.out.later hb3); have hE3 := hE2.later hb3; have hB33 := hB22.later hb3; have ks := Lib.hid (kSp.out _ hB3.out))
    | (go_at_call 15; refine (ks.out).mono ?_; rintro e W4 ⟨vr, rfl, hr, hb4⟩; obtain ⟨pr, cr, rfl, -, -⟩ := Hid.out hr; have hA4 := (Below.refl _ W4).alloc (Nat.le_refl _) (.cells #[.slice pr sp.length cr] 28); have hb44 := hb4.trans (hA4.mono hb4.size); have hB4 := Lib.hid (hB3.out.trans (hb44.mono hB3.out.size)); have q4 := Lib.hid (q3.out.later hb44); have c0 := q4.out.c0; have c1 := q4.out.c1; have c2 := q4.out.c2; have c3 := q4.out.c3; have ksu := Lib.hid (kSu.out _ _ _ _ hB4.out (hE3.later hb44) (hB33.later hb44) (hr.later hA4)))
    | (go_at_call 16; refine (ksu.out).mono ?_; rintro e W5 ⟨rfl, hb5⟩; clear ksu c0 c1 c2 c3))
  have hA5 : Below W5.heap.size W5 (W5.alloc (.cells #[.int .i64 0, .int .u64 18] 43)) := (Below.refl _ W5).alloc (Nat.le_refl _) _
  have hb55 := hb5.trans (hA5.mono hb5.size)
  have hB5 := hB4.out.trans (hb55.mono hB4.out.size)
  have q5 := q4.out.later hb55
  have z5 : (W5.alloc (.cells #[.int .i64 0, .int .u64 18] 43)).heap[W5.heap.size]? = some (.cells #[.int .i64 0, .int .u64 18] 43 (0, 0)) := World.alloc_heap_new W5 _
  have w0 : (W5.alloc (.cells #[.int .i64 0, .int .u64 18] 43)).cell? ⟨W5.heap.size, 0, none⟩ = some (.int .i64 0) := by rw [cell_of_row _ _ _ _ _ (0, 0) z5]; rfl
  have w1 : (W5.alloc (.cells #[.int .i64 0, .int .u64 18] 43)).cell? ⟨W5.heap.size, 1, none⟩ = some (.int .u64 18) := by rw [cell_of_row _ _ _ _ _ (0, 0) z5]; rfl
  clear z5 hb5 hA5 hb55
  generalize W5.alloc (.cells #[.int .i64 0, .int .u64 18] 43) = W6 at *
  generalize W5.heap.size = b9 at *
  generalize W1.heap.size = b1 at *
  have hMd : (fun W' : World => Hid (Below W6.heap.size W6 W') ∧ W'.cell? ⟨b1, 0, none⟩ = some (.int .i64 4) ∧ W'.cell? ⟨b1, 1, none⟩ = some (.int .i64 3) ∧ W'.cell? ⟨b1, 3, none⟩ = some (.slice pB bs.length cB) ∧ W'.cell? ⟨b9, 0, none⟩ = some (.int .i64 0) ∧ W'.cell? ⟨b9, 1, none⟩ = some (.int .u64 18)) W6.drew := ⟨Lib.hid (Below.refl _ W6).drew, q5.c0, q5.c1, q5.c3, w0, w1⟩
  have hB5' := Lib.hid hB5
  have hb3' : ((bs.length : Int) == 3) = true := by rw [hbl.out]; rfl
  clear w0 w1 q5 hB5
  refine region_late (S := (fun W' : World => Hid (Below W6.heap.size W6 W') ∧ W'.cell? ⟨b1, 0, none⟩ = some (.int .i64 4) ∧ W'.cell? ⟨b1, 1, none⟩ = some (.int .i64 3) ∧ W'.cell? ⟨b1, 3, none⟩ = some (.slice pB bs.length cB) ∧ W'.cell? ⟨b9, 0, none⟩ = some (.int .i64 0) ∧ W'.cell? ⟨b9, 1, none⟩ = some (.int .u64 18))) (fun n => n == 999) (by kernel_rfl) hMd (fun hHeld => ?_)
  clear hMd
  generalize World.drew W6 = Wd at *
  refine wpAnyL_take (i := 0) (oi := { dst := some 39, op := _, type := _, pos := _, after := _, guard := _ }) (v := ?v1) rfl (by kernel_rfl) (by kernel_rfl) (by kernel_rfl) (by kernel_rfl) (fun _ _ _ h => h) (Or.inl ⟨by kernel_rfl, ?y1⟩) hHeld ?r1
  case y1 =>
    intro w hSw
    try dsimp only at hSw
    try simp only [List.getElem_toArray, List.getElem_cons_zero, List.getElem_cons_succ]
    go_simp
    try with_reducible rfl
  try simp only [List.getElem_toArray, List.getElem_cons_zero, List.getElem_cons_succ, Act.put, List.setIfInBounds_toArray, List.set_cons_zero, List.set_cons_succ]
  refine wpAnyL_take (i := 1) (oi := { dst := some 40, op := _, type := _, pos := _, after := _, guard := _ }) (v := ?v2) rfl (by kernel_rfl) (by kernel_rfl) (by kernel_rfl) (by kernel_rfl) (fun _ _ _ h => h) (Or.inl ⟨by kernel_rfl, ?y2⟩) hHeld ?r2
  case y2 =>
    intro w hSw
    try dsimp only at hSw
    try simp only [List.getElem_toArray, List.getElem_cons_zero, List.getElem_cons_succ]
    go_simp
    try with_reducible rfl
  try simp only [List.getElem_toArray, List.getElem_cons_zero, List.getElem_cons_succ, Act.put, List.setIfInBounds_toArray, List.set_cons_zero, List.set_cons_succ]
  refine wpAnyL_take (i := 2) (oi := { dst := some 41, op := _, type := _, pos := _, after := _, guard := _ }) (v := ?v3) rfl (by kernel_rfl) (by kernel_rfl) (by kernel_rfl) (by kernel_rfl) (fun _ _ _ h => h) (Or.inl ⟨by kernel_rfl, ?y3⟩) hHeld ?r3
  case y3 =>
    intro w hSw
    try dsimp only at hSw
    try simp only [List.getElem_toArray, List.getElem_cons_zero, List.getElem_cons_succ]
    go_simp
    try with_reducible rfl
  try simp only [List.getElem_toArray, List.getElem_cons_zero, List.getElem_cons_succ, Act.put, List.setIfInBounds_toArray, List.set_cons_zero, List.set_cons_succ]
  refine wpAnyL_take (i := 3) (oi := { dst := some 42, op := _, type := _, pos := _, after := _, guard := _ }) (v := ?v4) rfl (by kernel_rfl) (by kernel_rfl) (by kernel_rfl) (by kernel_rfl) (fun _ _ _ h => h) (Or.inl ⟨by kernel_rfl, ?y4⟩) hHeld ?r4
  case y4 =>
    intro w hSw
    try dsimp only at hSw
    try simp only [List.getElem_toArray, List.getElem_cons_zero, List.getElem_cons_succ]
    go_simp
    try with_reducible rfl
  try simp only [List.getElem_toArray, List.getElem_cons_zero, List.getElem_cons_succ, Act.put, List.setIfInBounds_toArray, List.set_cons_zero, List.set_cons_succ]
  refine wpAnyL_take (i := 4) (oi := { dst := some 43, op := _, type := _, pos := _, after := _, guard := _ }) (v := ?v5) rfl (by kernel_rfl) (by kernel_rfl) (by kernel_rfl) (by kernel_rfl) (fun _ _ _ h => h) (Or.inl ⟨by kernel_rfl, ?y5⟩) hHeld ?r5
  case y5 =>
    intro w hSw
    try dsimp only at hSw
    try simp only [List.getElem_toArray, List.getElem_cons_zero, List.getElem_cons_succ]
    go_simp
    try with_reducible rfl
  try simp only [List.getElem_toArray, List.getElem_cons_zero, List.getElem_cons_succ, Act.put, List.setIfInBounds_toArray, List.set_cons_zero, List.set_cons_succ]
  refine wpAnyL_take (i := 5) (oi := { dst := some 44, op := _, type := _, pos := _, after := _, guard := _ }) (v := ?v6) rfl (by kernel_rfl) (by kernel_rfl) (by kernel_rfl) (by kernel_rfl) (fun _ _ _ h => h) (Or.inl ⟨by kernel_rfl, ?y6⟩) hHeld ?r6
  case y6 =>
    intro w hSw
    try dsimp only at hSw
    try simp only [List.getElem_toArray, List.getElem_cons_zero, List.getElem_cons_succ]
    go_simp
    try with_reducible rfl
  try simp only [List.getElem_toArray, List.getElem_cons_zero, List.getElem_cons_succ, Act.put, List.setIfInBounds_toArray, List.set_cons_zero, List.set_cons_succ]
  refine wpAnyL_take (i := 6) (oi := { dst := some 45, op := _, type := _, pos := _, after := _, guard := _ }) (v := ?v7) rfl (by kernel_rfl) (by kernel_rfl) (by kernel_rfl) (by kernel_rfl) (fun _ _ _ h => h) (Or.inl ⟨by kernel_rfl, ?y7⟩) hHeld ?r7
  case y7 =>
    intro w hSw
    try dsimp only at hSw
    try simp only [List.getElem_toArray, List.getElem_cons_zero, List.getElem_cons_succ]
    go_simp
    try with_reducible rfl
  try simp only [List.getElem_toArray, List.getElem_cons_zero, List.getElem_cons_succ, Act.put, List.setIfInBounds_toArray, List.set_cons_zero, List.set_cons_succ]
  refine wpAnyL_take (i := 7) (oi := { dst := some 46, op := _, type := _, pos := _, after := _, guard := _ }) (v := ?v8) rfl (by kernel_rfl) (by kernel_rfl) (by kernel_rfl) (by kernel_rfl) (fun _ _ _ h => h) (Or.inl ⟨by kernel_rfl, ?y8⟩) hHeld ?r8
  case y8 =>
    intro w hSw
    try dsimp only at hSw
    try simp only [List.getElem_toArray, List.getElem_cons_zero, List.getElem_cons_succ]
    go_simp
    try with_reducible rfl
  try simp only [List.getElem_toArray, List.getElem_cons_zero, List.getElem_cons_succ, Act.put, List.setIfInBounds_toArray, List.set_cons_zero, List.set_cons_succ]
  refine wpAnyL_take (i := 8) (oi := { dst := some 47, op := _, type := _, pos := _, after := _, guard := _ }) (v := ?v9) rfl (by kernel_rfl) (by kernel_rfl) (by kernel_rfl) (by kernel_rfl) (fun _ _ _ h => h) (Or.inl ⟨by kernel_rfl, ?y9⟩) hHeld ?r9
  case y9 =>
    intro w hSw
    try dsimp only at hSw
    try simp only [List.getElem_toArray, List.getElem_cons_zero, List.getElem_cons_succ]
    go_simp
    try with_reducible rfl
  try simp only [List.getElem_toArray, List.getElem_cons_zero, List.getElem_cons_succ, Act.put, List.setIfInBounds_toArray, List.set_cons_zero, List.set_cons_succ]
  refine wpAnyL_take (i := 9) (oi := { dst := some 48, op := _, type := _, pos := _, after := _, guard := _ }) (v := ?v10) rfl (by kernel_rfl) (by kernel_rfl) (by kernel_rfl) (by kernel_rfl) (fun _ _ _ h => h) (Or.inl ⟨by kernel_rfl, ?y10⟩) hHeld ?r10
  case y10 =>
    intro w hSw
    try dsimp only at hSw
    try simp only [List.getElem_toArray, List.getElem_cons_zero, List.getElem_cons_succ]
    go_simp
    try with_reducible rfl
  try simp only [List.getElem_toArray, List.getElem_cons_zero, List.getElem_cons_succ, Act.put, List.setIfInBounds_toArray, List.set_cons_zero, List.set_cons_succ]
  refine wpAnyL_take (i := 10) (oi := { dst := some 49, op := _, type := _, pos := _, after := _, guard := _ }) (v := ?v11) rfl (by kernel_rfl) (by kernel_rfl) (by kernel_rfl) (by kernel_rfl) (fun _ _ _ h => h) (Or.inl ⟨by kernel_rfl, ?y11⟩) hHeld ?r11
  case y11 =>
    intro w hSw
    try dsimp only at hSw
    try simp only [List.getElem_toArray, List.getElem_cons_zero, List.getElem_cons_succ]
    go_simp
    try with_reducible rfl
  try simp only [List.getElem_toArray, List.getElem_cons_zero, List.getElem_cons_succ, Act.put, List.setIfInBounds_toArray, List.set_cons_zero, List.set_cons_succ]
  refine wpAnyL_take (i := 11) (oi := { dst := some 50, op := _, type := _, pos := _, after := _, guard := _ }) (v := ?v12) rfl (by kernel_rfl) (by kernel_rfl) (by kernel_rfl) (by kernel_rfl) (fun _ _ _ h => h) (Or.inl ⟨by kernel_rfl, ?y12⟩) hHeld ?r12
  case y12 =>
    intro w hSw
    try dsimp only at hSw
    try simp only [List.getElem_toArray, List.getElem_cons_zero, List.getElem_cons_succ]
    go_simp
    try with_reducible rfl
  try simp only [List.getElem_toArray, List.getElem_cons_zero, List.getElem_cons_succ, Act.put, List.setIfInBounds_toArray, List.set_cons_zero, List.set_cons_succ]
  refine wpAnyL_take (i := 12) (oi := { dst := some 51, op := _, type := _, pos := _, after := _, guard := _ }) (v := ?v13) rfl (by kernel_rfl) (by kernel_rfl) (by kernel_rfl) (by kernel_rfl) (fun _ _ _ h => h) (Or.inl ⟨by kernel_rfl, ?y13⟩) hHeld ?r13
  case y13 =>
    intro w hSw
    try dsimp only at hSw
    try simp only [List.getElem_toArray, List.getElem_cons_zero, List.getElem_cons_succ]
    go_simp
    try with_reducible rfl
  try simp only [List.getElem_toArray, List.getElem_cons_zero, List.getElem_cons_succ, Act.put, List.setIfInBounds_toArray, List.set_cons_zero, List.set_cons_succ]
  refine wpAnyL_take (i := 13) (oi := { dst := some 52, op := _, type := _, pos := _, after := _, guard := _ }) (v := ?v14) rfl (by kernel_rfl) (by kernel_rfl) (by kernel_rfl) (by kernel_rfl) (fun _ _ _ h => h) (Or.inl ⟨by kernel_rfl, ?y14⟩) hHeld ?r14
  case y14 =>
    intro w hSw
    try dsimp only at hSw
    try simp only [List.getElem_toArray, List.getElem_cons_zero, List.getElem_cons_succ]
    go_simp
    try with_reducible rfl
  try simp only [List.getElem_toArray, List.getElem_cons_zero, List.getElem_cons_succ, Act.put, List.setIfInBounds_toArray, List.set_cons_zero, List.set_cons_succ]
  refine wpAnyL_take (i := 14) (oi := { dst := some 53, op := _, type := _, pos := _, after := _, guard := _ }) (v := ?v15) rfl (by kernel_rfl) (by kernel_rfl) (by kernel_rfl) (by kernel_rfl) (fun _ _ _ h => h) (Or.inl ⟨by kernel_rfl, ?y15⟩) hHeld ?r15
  case y15 =>
    intro w hSw
    try dsimp only at hSw
    try simp only [List.getElem_toArray, List.getElem_cons_zero, List.getElem_cons_succ]
    go_simp
    try with_reducible rfl
  try simp only [List.getElem_toArray, List.getElem_cons_zero, List.getElem_cons_succ, Act.put, List.setIfInBounds_toArray, List.set_cons_zero, List.set_cons_succ]
  refine wpAnyL_take (i := 15) (oi := { dst := some 54, op := _, type := _, pos := _, after := _, guard := _ }) (v := ?v16) rfl (by kernel_rfl) (by kernel_rfl) (by kernel_rfl) (by kernel_rfl) (fun _ _ _ h => h) (Or.inl ⟨by kernel_rfl, ?y16⟩) hHeld ?r16
  case y16 =>
    intro w hSw
    try dsimp only at hSw
    try simp only [List.getElem_toArray, List.getElem_cons_zero, List.getElem_cons_succ]
    go_simp
    try with_reducible rfl
  try simp only [List.getElem_toArray, List.getElem_cons_zero, List.getElem_cons_succ, Act.put, List.setIfInBounds_toArray, List.set_cons_zero, List.set_cons_succ]
  refine wpAnyL_take (i := 16) (oi := { dst := some 55, op := _, type := _, pos := _, after := _, guard := _ }) (v := ?v17) rfl (by kernel_rfl) (by kernel_rfl) (by kernel_rfl) (by kernel_rfl) (fun _ _ _ h => h) (Or.inl ⟨by kernel_rfl, ?y17⟩) hHeld ?r17
  case y17 =>
    intro w hSw
    try dsimp only at hSw
    try simp only [List.getElem_toArray, List.getElem_cons_zero, List.getElem_cons_succ]
    go_simp
    try with_reducible rfl
  try simp only [List.getElem_toArray, List.getElem_cons_zero, List.getElem_cons_succ, Act.put, List.setIfInBounds_toArray, List.set_cons_zero, List.set_cons_succ]
  refine wpAnyL_take (i := 17) (oi := { dst := some 56, op := _, type := _, pos := _, after := _, guard := _ }) (v := ?v18) rfl (by kernel_rfl) (by kernel_rfl) (by kernel_rfl) (by kernel_rfl) (fun _ _ _ h => h) (Or.inl ⟨by kernel_rfl, ?y18⟩) hHeld ?r18
  case y18 =>
    intro w hSw
    try dsimp only at hSw
    try simp only [List.getElem_toArray, List.getElem_cons_zero, List.getElem_cons_succ]
    go_simp
    try with_reducible rfl
  try simp only [List.getElem_toArray, List.getElem_cons_zero, List.getElem_cons_succ, Act.put, List.setIfInBounds_toArray, List.set_cons_zero, List.set_cons_succ]
  refine wpAnyL_take (i := 18) (oi := { dst := some 57, op := _, type := _, pos := _, after := _, guard := _ }) (v := ?v19) rfl (by kernel_rfl) (by kernel_rfl) (by kernel_rfl) (by kernel_rfl) (fun _ _ _ h => h) (Or.inl ⟨by kernel_rfl, ?y19⟩) hHeld ?r19
  case y19 =>
    intro w hSw
    try dsimp only at hSw
    try simp only [List.getElem_toArray, List.getElem_cons_zero, List.getElem_cons_succ]
    go_simp
    try with_reducible rfl
  try simp only [List.getElem_toArray, List.getElem_cons_zero, List.getElem_cons_succ, Act.put, List.setIfInBounds_toArray, List.set_cons_zero, List.set_cons_succ]
  refine wpAnyL_take (i := 19) (oi := { dst := some 58, op := _, type := _, pos := _, after := _, guard := _ }) (v := ?v20) rfl (by kernel_rfl) (by kernel_rfl) (by kernel_rfl) (by kernel_rfl) (fun _ _ _ h => h) (Or.inl ⟨by kernel_rfl, ?y20⟩) hHeld ?r20
  case y20 =>
    intro w hSw
    try dsimp only at hSw
    try simp only [List.getElem_toArray, List.getElem_cons_zero, List.getElem_cons_succ]
    go_simp
    try with_reducible rfl
  try simp only [List.getElem_toArray, List.getElem_cons_zero, List.getElem_cons_succ, Act.put, List.setIfInBounds_toArray, List.set_cons_zero, List.set_cons_succ]
  refine wpAnyL_take (i := 20) (oi := { dst := some 59, op := _, type := _, pos := _, after := _, guard := _ }) (v := ?v21) rfl (by kernel_rfl) (by kernel_rfl) (by kernel_rfl) (by kernel_rfl) (fun _ _ _ h => h) (Or.inl ⟨by kernel_rfl, ?y21⟩) hHeld ?r21
  case y21 =>
    intro w hSw
    try dsimp only at hSw
    try simp only [List.getElem_toArray, List.getElem_cons_zero, List.getElem_cons_succ]
    go_simp
    try with_reducible rfl
  try simp only [List.getElem_toArray, List.getElem_cons_zero, List.getElem_cons_succ, Act.put, List.setIfInBounds_toArray, List.set_cons_zero, List.set_cons_succ]
  refine wpAnyL_take (i := 21) (oi := { dst := some 60, op := _, type := _, pos := _, after := _, guard := _ }) (v := ?v22) rfl (by kernel_rfl) (by kernel_rfl) (by kernel_rfl) (by kernel_rfl) (fun _ _ _ h => h) (Or.inl ⟨by kernel_rfl, ?y22⟩) hHeld ?r22
  case y22 =>
    intro w hSw
    try dsimp only at hSw
    try simp only [List.getElem_toArray, List.getElem_cons_zero, List.getElem_cons_succ]
    go_simp
    try with_reducible rfl
  try simp only [List.getElem_toArray, List.getElem_cons_zero, List.getElem_cons_succ, Act.put, List.setIfInBounds_toArray, List.set_cons_zero, List.set_cons_succ]
  refine wpAnyL_take (i := 22) (oi := { dst := some 61, op := _, type := _, pos := _, after := _, guard := _ }) (v := ?v23) rfl (by kernel_rfl) (by kernel_rfl) (by kernel_rfl) (by kernel_rfl) (fun _ _ _ h => h) (Or.inl ⟨by kernel_rfl, ?y23⟩) hHeld ?r23
  case y23 =>
    intro w hSw
    try dsimp only at hSw
    try simp only [List.getElem_toArray, List.getElem_cons_zero, List.getElem_cons_succ]
    go_simp
    try with_reducible rfl
  try simp only [List.getElem_toArray, List.getElem_cons_zero, List.getElem_cons_succ, Act.put, List.setIfInBounds_toArray, List.set_cons_zero, List.set_cons_succ]
  refine wpAnyL_take (i := 23) (oi := { dst := some 62, op := _, type := _, pos := _, after := _, guard := _ }) (v := ?v24) rfl (by kernel_rfl) (by kernel_rfl) (by kernel_rfl) (by kernel_rfl) (fun _ _ _ h => h) (Or.inl ⟨by kernel_rfl, ?y24⟩) hHeld ?r24
  case y24 =>
    intro w hSw
    try dsimp only at hSw
    try simp only [List.getElem_toArray, List.getElem_cons_zero, List.getElem_cons_succ]
    go_simp
    try with_reducible rfl
  try simp only [List.getElem_toArray, List.getElem_cons_zero, List.getElem_cons_succ, Act.put, List.setIfInBounds_toArray, List.set_cons_zero, List.set_cons_succ]
  refine wpAnyL_take (i := 24) (oi := { dst := some 63, op := _, type := _, pos := _, after := _, guard := _ }) (v := ?v25) rfl (by kernel_rfl) (by kernel_rfl) (by kernel_rfl) (by kernel_rfl) (fun _ _ _ h => h) (Or.inl ⟨by kernel_rfl, ?y25⟩) hHeld ?r25
  case y25 =>
    intro w hSw
    try dsimp only at hSw
    try simp only [List.getElem_toArray, List.getElem_cons_zero, List.getElem_cons_succ]
    go_simp
    try with_reducible rfl
  try simp only [List.getElem_toArray, List.getElem_cons_zero, List.getElem_cons_succ, Act.put, List.setIfInBounds_toArray, List.set_cons_zero, List.set_cons_succ]
  refine wpAnyL_take (i := 25) (oi := { dst := some 64, op := _, type := _, pos := _, after := _, guard := _ }) (v := ?v26) rfl (by kernel_rfl) (by kernel_rfl) (by kernel_rfl) (by kernel_rfl) (fun _ _ _ h => h) (Or.inl ⟨by kernel_rfl, ?y26⟩) hHeld ?r26
  case y26 =>
    intro w hSw
    try dsimp only at hSw
    try simp only [List.getElem_toArray, List.getElem_cons_zero, List.getElem_cons_succ]
    go_simp
    try with_reducible rfl
  try simp only [List.getElem_toArray, List.getElem_cons_zero, List.getElem_cons_succ, Act.put, List.setIfInBounds_toArray, List.set_cons_zero, List.set_cons_succ]
  refine wpAnyL_take (i := 26) (oi := { dst := some 65, op := _, type := _, pos := _, after := _, guard := _ }) (v := ?v27) rfl (by kernel_rfl) (by kernel_rfl) (by kernel_rfl) (by kernel_rfl) (fun _ _ _ h => h) (Or.inl ⟨by kernel_rfl, ?y27⟩) hHeld ?r27
  case y27 =>
    intro w hSw
    try dsimp only at hSw
    try simp only [List.getElem_toArray, List.getElem_cons_zero, List.getElem_cons_succ]
    go_simp
    try with_reducible rfl
  try simp only [List.getElem_toArray, List.getElem_cons_zero, List.getElem_cons_succ, Act.put, List.setIfInBounds_toArray, List.set_cons_zero, List.set_cons_succ]
  refine wpAnyL_take (i := 27) (oi := { dst := some 66, op := _, type := _, pos := _, after := _, guard := _ }) (v := ?v28) rfl (by kernel_rfl) (by kernel_rfl) (by kernel_rfl) (by kernel_rfl) (fun _ _ _ h => h) (Or.inl ⟨by kernel_rfl, ?y28⟩) hHeld ?r28
  case y28 =>
    intro w hSw
    try dsimp only at hSw
    try simp only [List.getElem_toArray, List.getElem_cons_zero, List.getElem_cons_succ]
    go_simp
    try with_reducible rfl
  try simp only [List.getElem_toArray, List.getElem_cons_zero, List.getElem_cons_succ, Act.put, List.setIfInBounds_toArray, List.set_cons_zero, List.set_cons_succ]
  refine wpAnyL_take (i := 28) (oi := { dst := some 67, op := _, type := _, pos := _, after := _, guard := _ }) (v := ?v29) rfl (by kernel_rfl) (by kernel_rfl) (by kernel_rfl) (by kernel_rfl) (fun _ _ _ h => h) (Or.inl ⟨by kernel_rfl, ?y29⟩) hHeld ?r29
  case y29 =>
    intro w hSw
    try dsimp only at hSw
    try simp only [List.getElem_toArray, List.getElem_cons_zero, List.getElem_cons_succ]
    go_simp
    try with_reducible rfl
  try simp only [List.getElem_toArray, List.getElem_cons_zero, List.getElem_cons_succ, Act.put, List.setIfInBounds_toArray, List.set_cons_zero, List.set_cons_succ]
  refine wpAnyL_take (i := 29) (oi := { dst := some 68, op := _, type := _, pos := _, after := _, guard := _ }) (v := ?v30) rfl (by kernel_rfl) (by kernel_rfl) (by kernel_rfl) (by kernel_rfl) (fun _ _ _ h => h) (Or.inl ⟨by kernel_rfl, ?y30⟩) hHeld ?r30
  case y30 =>
    intro w hSw
    try dsimp only at hSw
    try simp only [List.getElem_toArray, List.getElem_cons_zero, List.getElem_cons_succ]
    go_simp
    try with_reducible rfl
  try simp only [List.getElem_toArray, List.getElem_cons_zero, List.getElem_cons_succ, Act.put, List.setIfInBounds_toArray, List.set_cons_zero, List.set_cons_succ]
  refine wpAnyL_take (i := 30) (oi := { dst := some 69, op := _, type := _, pos := _, after := _, guard := _ }) (v := ?v31) rfl (by kernel_rfl) (by kernel_rfl) (by kernel_rfl) (by kernel_rfl) (fun _ _ _ h => h) (Or.inl ⟨by kernel_rfl, ?y31⟩) hHeld ?r31
  case y31 =>
    intro w hSw
    try dsimp only at hSw
    try simp only [List.getElem_toArray, List.getElem_cons_zero, List.getElem_cons_succ]
    go_simp
    try with_reducible rfl
  try simp only [List.getElem_toArray, List.getElem_cons_zero, List.getElem_cons_succ, Act.put, List.setIfInBounds_toArray, List.set_cons_zero, List.set_cons_succ]
  refine wpAnyL_take (i := 31) (oi := { dst := some 70, op := _, type := _, pos := _, after := _, guard := _ }) (v := ?v32) rfl (by kernel_rfl) (by kernel_rfl) (by kernel_rfl) (by kernel_rfl) (fun _ _ _ h => h) (Or.inl ⟨by kernel_rfl, ?y32⟩) hHeld ?r32
  case y32 =>
    intro w hSw
    try dsimp only at hSw
    try simp only [List.getElem_toArray, List.getElem_cons_zero, List.getElem_cons_succ]
    go_simp
    try with_reducible rfl
  try simp only [List.getElem_toArray, List.getElem_cons_zero, List.getElem_cons_succ, Act.put, List.setIfInBounds_toArray, List.set_cons_zero, List.set_cons_succ]
  refine wpAnyL_take (i := 32) (oi := { dst := some 71, op := _, type := _, pos := _, after := _, guard := _ }) (v := ?v33) rfl (by kernel_rfl) (by kernel_rfl) (by kernel_rfl) (by kernel_rfl) (fun _ _ _ h => h) (Or.inl ⟨by kernel_rfl, ?y33⟩) hHeld ?r33
  case y33 =>
    intro w hSw
    try dsimp only at hSw
    try simp only [List.getElem_toArray, List.getElem_cons_zero, List.getElem_cons_succ]
    go_simp
    try with_reducible rfl
  try simp only [List.getElem_toArray, List.getElem_cons_zero, List.getElem_cons_succ, Act.put, List.setIfInBounds_toArray, List.set_cons_zero, List.set_cons_succ]
  refine wpAnyL_take (i := 33) (oi := { dst := some 72, op := _, type := _, pos := _, after := _, guard := _ }) (v := ?v34) rfl (by kernel_rfl) (by kernel_rfl) (by kernel_rfl) (by kernel_rfl) (fun _ _ _ h => h) (Or.inl ⟨by kernel_rfl, ?y34⟩) hHeld ?r34
  case y34 =>
    intro w hSw
    try dsimp only at hSw
    try simp only [List.getElem_toArray, List.getElem_cons_zero, List.getElem_cons_succ]
    go_simp
    try with_reducible rfl
  try simp only [List.getElem_toArray, List.getElem_cons_zero, List.getElem_cons_succ, Act.put, List.setIfInBounds_toArray, List.set_cons_zero, List.set_cons_succ]
  refine wpAnyL_take (i := 34) (oi := { dst := some 73, op := _, type := _, pos := _, after := _, guard := _ }) (v := ?v35) rfl (by kernel_rfl) (by kernel_rfl) (by kernel_rfl) (by kernel_rfl) (fun _ _ _ h => h) (Or.inl ⟨by kernel_rfl, ?y35⟩) hHeld ?r35
  case y35 =>
    intro w hSw
    try dsimp only at hSw
    try simp only [List.getElem_toArray, List.getElem_cons_zero, List.getElem_cons_succ]
    go_simp
    try with_reducible rfl
  try simp only [List.getElem_toArray, List.getElem_cons_zero, List.getElem_cons_succ, Act.put, List.setIfInBounds_toArray, List.set_cons_zero, List.set_cons_succ]
  refine wpAnyL_one (i := 35) (by kernel_rfl) rfl (fun K hK => ?_)
  try simp only [List.getElem_toArray, List.getElem_cons_zero, List.getElem_cons_succ]
  go_simp
  go_at_call 38
  refine (kOf.out _).mono ?_
  rintro e Wn35 ⟨rfl, hbn⟩
  have hnew := Lib.hid (keep6 hbn hHeld)
  refine hK.out _ _ (fun _ => hnew.out) ?_
  have hHeld' := hnew.out
  clear hHeld hnew hK K hbn
  have hHeld := hHeld'
  clear hHeld'
  try simp only [List.getElem_toArray, List.getElem_cons_zero, List.getElem_cons_succ, Act.put, List.setIfInBounds_toArray, List.set_cons_zero, List.set_cons_succ]
  refine wpAnyL_take (i := 36) (oi := { dst := some 75, op := _, type := _, pos := _, after := _, guard := _ }) (v := ?v36) rfl (by kernel_rfl) (by kernel_rfl) (by kernel_rfl) (by kernel_rfl) (fun _ _ _ h => h) (Or.inl ⟨by kernel_rfl, ?y36⟩) hHeld ?r36
  case y36 =>
    intro w hSw
    try dsimp only at hSw
    try simp only [List.getElem_toArray, List.getElem_cons_zero, List.getElem_cons_succ]
    go_simp
    try with_reducible rfl
  try simp only [List.getElem_toArray, List.getElem_cons_zero, List.getElem_cons_succ, Act.put, List.setIfInBounds_toArray, List.set_cons_zero, List.set_cons_succ]
  refine wpAnyL_take (i := 37) (oi := { dst := some 76, op := _, type := _, pos := _, after := _, guard := _ }) (v := ?v37) rfl (by kernel_rfl) (by kernel_rfl) (by kernel_rfl) (by kernel_rfl) (fun _ _ _ h => h) (Or.inl ⟨by kernel_rfl, ?y37⟩) hHeld ?r37
  case y37 =>
    intro w hSw
    try dsimp only at hSw
    try simp only [List.getElem_toArray, List.getElem_cons_zero, List.getElem_cons_succ]
    go_simp
    try with_reducible rfl
  try simp only [List.getElem_toArray, List.getElem_cons_zero, List.getElem_cons_succ, Act.put, List.setIfInBounds_toArray, List.set_cons_zero, List.set_cons_succ]
  refine wpAnyL_take (i := 38) (oi := { dst := some 77, op := _, type := _, pos := _, after := _, guard := _ }) (v := ?v38) rfl (by kernel_rfl) (by kernel_rfl) (by kernel_rfl) (by kernel_rfl) (fun _ _ _ h => h) (Or.inl ⟨by kernel_rfl, ?y38⟩) hHeld ?r38
  case y38 =>
    intro w hSw
    try dsimp only at hSw
    try simp only [List.getElem_toArray, List.getElem_cons_zero, List.getElem_cons_succ]
    go_simp
    try with_reducible rfl
  try simp only [List.getElem_toArray, List.getElem_cons_zero, List.getElem_cons_succ, Act.put, List.setIfInBounds_toArray, List.set_cons_zero, List.set_cons_succ]
  refine wpAnyL_take (i := 39) (oi := { dst := some 78, op := _, type := _, pos := _, after := _, guard := _ }) (v := ?v39) rfl (by kernel_rfl) (by kernel_rfl) (by kernel_rfl) (by kernel_rfl) (fun _ _ _ h => h) (Or.inl ⟨by kernel_rfl, ?y39⟩) hHeld ?r39
  case y39 =>
    intro w hSw
    try dsimp only at hSw
    try simp only [List.getElem_toArray, List.getElem_cons_zero, List.getElem_cons_succ]
    go_simp
    try with_reducible rfl
  try simp only [List.getElem_toArray, List.getElem_cons_zero, List.getElem_cons_succ, Act.put, List.setIfInBounds_toArray, List.set_cons_zero, List.set_cons_succ]
  refine wpAnyL_take (i := 40) (oi := { dst := some 79, op := _, type := _, pos := _, after := _, guard := _ }) (v := ?v40) rfl (by kernel_rfl) (by kernel_rfl) (by kernel_rfl) (by kernel_rfl) (fun _ _ _ h => h) (Or.inl ⟨by kernel_rfl, ?y40⟩) hHeld ?r40
  case y40 =>
    intro w hSw
    try dsimp only at hSw
    try simp only [List.getElem_toArray, List.getElem_cons_zero, List.getElem_cons_succ]
    go_simp
    try with_reducible rfl
  try simp only [List.getElem_toArray, List.getElem_cons_zero, List.getElem_cons_succ, Act.put, List.setIfInBounds_toArray, List.set_cons_zero, List.set_cons_succ]
  refine wpAnyL_take (i := 41) (oi := { dst := some 80, op := _, type := _, pos := _, after := _, guard := _ }) (v := ?v41) rfl (by kernel_rfl) (by kernel_rfl) (by kernel_rfl) (by kernel_rfl) (fun _ _ _ h => h) (Or.inl ⟨by kernel_rfl, ?y41⟩) hHeld ?r41
  case y41 =>
    intro w hSw
    try dsimp only at hSw
    try simp only [List.getElem_toArray, List.getElem_cons_zero, List.getElem_cons_succ]
    go_simp
    try with_reducible rfl
  try simp only [List.getElem_toArray, List.getElem_cons_zero, List.getElem_cons_succ, Act.put, List.setIfInBounds_toArray, List.set_cons_zero, List.set_cons_succ]
  refine wpAnyL_take (i := 42) (oi := { dst := some 0, op := _, type := _, pos := _, after := _, guard := _ }) (v := ?v42) rfl (by kernel_rfl) (by kernel_rfl) (by kernel_rfl) (by kernel_rfl) (fun _ _ _ h => h) (Or.inl ⟨by kernel_rfl, ?y42⟩) hHeld ?r42
  case y42 =>
    intro w hSw
    try dsimp only at hSw
    try simp only [List.getElem_toArray, List.getElem_cons_zero, List.getElem_cons_succ]
    go_simp
    try with_reducible rfl
  try simp only [List.getElem_toArray, List.getElem_cons_zero, List.getElem_cons_succ, Act.put, List.setIfInBounds_toArray, List.set_cons_zero, List.set_cons_succ]
  refine wpAnyL_done (by kernel_rfl) (OnlyN.normal ?_) _
  go_wp2
  exact bodyPost_ret (v := .bool true) (by simp [results, Tryd.results10, go_sem]) rfl ⟨rfl, hB5'.out.trans (hHeld.1.out.mono hB5'.out.size)⟩
end Go.Proofs.YtnigpmbpipmgfaaDoor

/-
  BsiHalves in plain.
-/
namespace Go.Proofs.YtnigpmbpipmgfaaDoor
open Go.RowKit Tess

theorem cntN_and {a r : List Ch} (ha : rightL a = true) (hr : rightL r = true) : cntN (andL a r) = (((List.range 65536).filter (bitL a)).filter (bitL r)).length := by
  unfold cntN
  rw [List.filter_filter]
  exact congrArg List.length (List.filter_congr fun n hn => by
    rw [(and_some ha hr).2.2 n (List.mem_range.1 hn), Bool.and_comm])
/-- Rows, the others, all. -/
structure Halves (r o s : List Ch) : Prop where
  rr : rightL r = true
  oo : rightL o = true
  ss : rightL s = true
  ho : ∀ n, n < 65536 → bitL o n = !bitL r n
  hs : ∀ n, n < 65536 → bitL s n = true
theorem halves_ex {r : List Ch} (hr : rightL r = true) : (flipL r 0 65536).2 = 0 ∧ (spanL 0 65536).2 = 0 ∧ Halves r (flipL r 0 65536).1 (spanL 0 65536).1 := by
  obtain ⟨o, eo, ho, bo⟩ := flip_some (l := r) (a := 0) (b := 65536) hr ⟨by decide, by decide, by decide, by decide⟩
  obtain ⟨s, es, hs, bs⟩ := flip_some (l := []) (a := 0) (b := 65536) right_nil ⟨by decide, by decide, by decide, by decide⟩
  have es' : spanL 0 65536 = (s, 0) := es
  rw [eo, es']
  have full : ∀ n : Nat, n < 65536 → decide ((0 : Int) ≤ (n : Int) ∧ (n : Int) < 65536) = true := fun n hn => decide_eq_true (by omega)
  refine ⟨rfl, rfl, hr, ho, hs, fun n hn => ?_, fun n hn => ?_⟩
  · show bitL o n = _
    rw [bo n hn, full n hn]; cases bitL r n <;> rfl
  · show bitL s n = _
    rw [bs n hn, full n hn, bitL_nil]; rfl
theorem cnt_parts {a r o s : List Ch} (ha : rightL a = true) (h : Halves r o s) : cntN (andL a r) + cntN (andL a o) = cntN (andL a s) ∧ cntN (andL a s) = cntN a := by
  have hs : cntN (andL a s) = cntN a := by
    rw [cntN_and ha h.ss]
    unfold cntN
    exact congrArg List.length (List.filter_eq_self.2 fun n hn => h.hs n (List.mem_range.1 (List.mem_filter.1 hn).1))
  refine ⟨?_, hs⟩
  rw [hs, cntN_and ha h.rr, cntN_and ha h.oo]
  have e : ((List.range 65536).filter (bitL a)).filter (bitL o) = ((List.range 65536).filter (bitL a)).filter (fun n => !bitL r n) :=
    List.filter_congr fun n hn => h.ho n (List.mem_range.1 (List.mem_filter.1 hn).1)
  rw [e]
  have := filter_not ((List.range 65536).filter (bitL a)) (bitL r)
  unfold cntN
  omega
theorem acc_parts {bits : List (List Ch)} (hb : ∀ x ∈ bits, rightL x = true) {r o s : List Ch} (h : Halves r o s) (z1 z2 : Int) : ∀ k, k ≤ bits.length → accU bits r z1 k + accU bits o z2 k = accU bits s (z1 + z2) k
  | 0, _ => rfl
  | k + 1, hk => by
    have ih := acc_parts hb h z1 z2 k (by omega)
    have hx : rightL (bits[k]?.getD []) = true := by
      rw [List.getElem?_eq_getElem (by omega)]
      exact hb _ (List.getElem_mem _)
    have hc := (cnt_parts hx h).1
    unfold accU
    rw [← ih, ← hc]
    generalize cntN (andL (bits[k]?.getD []) r) = x
    generalize cntN (andL (bits[k]?.getD []) o) = y
    rw [Int.natCast_add, Int.add_mul]
    omega
/-- **BsiHalves, in plain.** -/
theorem halves_plain {b : Sl} (hl : -9223372036854775808 ≤ b.least ∧ b.least ≤ 9223372036854775807) (hr : isRightB b = true) {r o s : List Ch} (h : Halves r o s) :
    (sumB b r).1 + (sumB b o).1 = (sumB b s).1 ∧ (sumB b r).2.1 + (sumB b o).2.1 = (sumB b s).2.1 ∧ (sumB b s).2.2 = 0 ∧ cntL b.ex = (sumB b s).2.1 ∧ 0 ≤ (sumB b r).2.1 ∧ (sumB b r).2.1 ≤ 65536 ∧ 0 ≤ (sumB b o).2.1 ∧ (sumB b o).2.1 ≤ 65536 := by
  have hc := (right_iff hl).1 hr
  have hp := cnt_parts hc.rex h
  rw [sumB_yes ⟨hr, h.rr⟩, sumB_yes ⟨hr, h.oo⟩, sumB_yes ⟨hr, h.ss⟩]
  refine ⟨?_, ?_, rfl, ?_, Int.natCast_nonneg _, ?_, Int.natCast_nonneg _, ?_⟩
  · show accU _ _ _ _ + accU _ _ _ _ = accU _ _ _ _
    rw [acc_parts hc.rbits h _ _ _ (Nat.le_refl _), ← hp.1]
    congr 1
    push_cast
    rw [Int.mul_add]
  · show (cntN _ : Int) + (cntN _ : Int) = (cntN _ : Int)
    rw [← hp.1]; push_cast; rfl
  · show cntL b.ex = (cntN _ : Int)
    rw [cntN_eq hc.rex, hp.2]
  · have := cntN_le (andL b.ex r); show (cntN _ : Int) ≤ _; omega
  · have := cntN_le (andL b.ex o); show (cntN _ : Int) ≤ _; omega
end Go.Proofs.YtnigpmbpipmgfaaDoor

/-
  BsiHalves' walk. (Printed by genbshb.py.)
-/
namespace Go.Proofs.YtnigpmbpipmgfaaDoor
open Go.RowKit Go.Shelf Tess

theorem keep8 {W W1 W2 : World} {a1 a2 a3 a4 a5 a6 a7 : Addr} {x1 x2 x3 x4 x5 x6 x7 : Value} (hb : Below W1.heap.size W1 W2) (h : Hid (Below W.heap.size W W1) ∧ W1.cell? a1 = some x1 ∧ W1.cell? a2 = some x2 ∧ W1.cell? a3 = some x3 ∧ W1.cell? a4 = some x4 ∧ W1.cell? a5 = some x5 ∧ W1.cell? a6 = some x6 ∧ W1.cell? a7 = some x7) :
    Hid (Below W.heap.size W W2) ∧ W2.cell? a1 = some x1 ∧ W2.cell? a2 = some x2 ∧ W2.cell? a3 = some x3 ∧ W2.cell? a4 = some x4 ∧ W2.cell? a5 = some x5 ∧ W2.cell? a6 = some x6 ∧ W2.cell? a7 = some x7 := by
  have d {a : Addr} {x : Value} (k : W1.cell? a = some x) : W2.cell? a = some x := (hb.cell (World.block_lt_of_cell? W1 a k)).trans k
  exact ⟨Lib.hid (h.1.out.trans (hb.mono h.1.out.size)), d h.2.1, d h.2.2.1, d h.2.2.2.1, d h.2.2.2.2.1, d h.2.2.2.2.2.1, d h.2.2.2.2.2.2.1, d h.2.2.2.2.2.2.2⟩
set_option linter.unusedSimpArgs false in
set_option maxRecDepth 100000 in
set_option maxHeartbeats 2000000 in
theorem halvesBad_any {p ph ps : Option Addr} {n c nh ch ns cs m : Nat} {bb : Sl} {rr : List Ch} {eb em : Int} {w : World} (hw : Hid (eb = 80 ∨ em = 70)) (he : Hid (eb = 0 ∨ eb = 80)) (hem : Hid (em = 0 ∨ em = 70)) (hp : n ≤ c) (hh : nh ≤ ch) (p0 : p = none → n = 0 ∧ c = 0) (h0 : ph = none → nh = 0 ∧ ch = 0) (s0 : ps = none → ns = 0 ∧ cs = 0) (hm : min ns 300 = m) (hs : ns ≤ cs)
    (kS : Hid (Calls Tryd.prog 10 #[] w fun e W' => e = .returned (.bool true) ∧ Below w.heap.size w W'))
    (kB : Hid (∀ W : World, Below w.heap.size w W → Calls Tryd.prog 11 #[.slice p (min n 200) c, .slice ph (min nh 200) ch] W fun e W' => ∃ vE vB, e = .returned (.tuple #[.agg #[.int .i64 bb.n, .int .i64 bb.least, vE, vB], .int .i64 eb]) ∧ HC W' vE bb.ex ∧ HR W' vB bb.bits ∧ Below W.heap.size W W'))
    (kM : Hid (∀ W : World, Below w.heap.size w W → Calls Tryd.prog 13 #[.slice ps m cs] W fun e W' => ∃ v', e = .returned (.tuple #[.agg #[v'], .int .i64 em]) ∧ HC W' v' rr ∧ Below W.heap.size W W')) :
    Calls Tryd.prog 3 #[.slice p n c, .slice ph nh ch, .slice ps ns cs] w fun e W' => e = .returned (.bool true) ∧ Below w.heap.size w W' := by
  have m0 : (if (300 : Int) < (ns : Int) then 300 else (ns : Int)) = (m : Int) := by split <;> omega
  have m1 : m ≤ cs := by omega
  have m2 : m ≤ ns := by omega
  have m3 : (0 : Int) ≤ (m : Int) ∧ (m : Int) ≤ (cs : Int) := by omega
  cases ps with
  | none =>
    obtain ⟨rfl, rfl⟩ := s0 rfl
    obtain rfl : m = 0 := by omega
    clear s0 hm hs
    go_enter Tryd.func3, Tryd.ntmps3
    rcases he.out with rfl | rfl <;> rcases hem.out with rfl | rfl
    · exact absurd hw.out (by decide)
    · go_wp2_with (first
        | (go_at_call 10; refine (kS.out).mono ?_; rintro e W1 ⟨rfl, hb1⟩; have hB1 := Lib.hid hb1; have kf := Lib.hid (few8_any W1 hp hh p0 h0))
        | (go_at_call 12; refine (kf.out).mono ?_; rintro e W2 ⟨rfl, hb2⟩; clear kf; have hB2 := Lib.hid (hB1.out.trans (hb2.mono hB1.out.size)); have kb := Lib.hid (kB.out _ hB2.out))
        | (go_at_call 11; refine (kb.out).mono ?_; rintro e W3 ⟨vE, vB, rfl, hE, hB, hb3⟩; clear kb; obtain ⟨pE, cE, rfl, -, -⟩ := Hid.out hE; obtain ⟨pB, cB, rfl, -, -⟩ := Hid.out hB; have q1 := Lib.hid (SBox.new W3 31 bb.n bb.least (.slice pE bb.ex.length cE) (.slice pB bb.bits.length cB)); have hA := (Below.refl _ W3).alloc (Nat.le_refl _) (.cells #[.int .i64 bb.n, .int .i64 bb.least, .slice pE bb.ex.length cE, .slice pB bb.bits.length cB] 31); have hbA := hb3.trans (hA.mono hb3.size); have hB3 := Lib.hid (hB2.out.trans (hbA.mono hB2.out.size)); have hE' := hE.later hA; have hB' := hB.later hA; have km := Lib.hid (kM.out _ hB3.out))
        | (go_at_call 13; refine (km.out).mono ?_; rintro e W4 ⟨vr, rfl, hr, hb4⟩; clear km; obtain ⟨pr, cr, rfl, -, -⟩ := Hid.out hr; have hA4 := (Below.refl _ W4).alloc (Nat.le_refl _) (.cells #[.slice pr rr.length cr] 28); have x4 := Lib.hid (RBox.new W4 (.slice pr rr.length cr)); have hbA4 := hb4.trans (hA4.mono hb4.size); have hB4 := Lib.hid (hB3.out.trans (hbA4.mono hB3.out.size)); have q4 := Lib.hid (q1.out.later hbA4); have hr4 := hr.later hA4; have hE4 := hE'.later hbA4; have hB44 := hB'.later hbA4))
      exact bodyPost_ret (v := .bool true) (by simp [results, Tryd.results3, go_sem]) rfl ⟨rfl, hB4.out⟩
    · go_wp2_with (first
        | (go_at_call 10; refine (kS.out).mono ?_; rintro e W1 ⟨rfl, hb1⟩; have hB1 := Lib.hid hb1; have kf := Lib.hid (few8_any W1 hp hh p0 h0))
        | (go_at_call 12; refine (kf.out).mono ?_; rintro e W2 ⟨rfl, hb2⟩; clear kf; have hB2 := Lib.hid (hB1.out.trans (hb2.mono hB1.out.size)); have kb := Lib.hid (kB.out _ hB2.out))
        | (go_at_call 11; refine (kb.out).mono ?_; rintro e W3 ⟨vE, vB, rfl, hE, hB, hb3⟩; clear kb; obtain ⟨pE, cE, rfl, -, -⟩ := Hid.out hE; obtain ⟨pB, cB, rfl, -, -⟩ := Hid.out hB; have q1 := Lib.hid (SBox.new W3 31 bb.n bb.least (.slice pE bb.ex.length cE) (.slice pB bb.bits.length cB)); have hA := (Below.refl _ W3).alloc (Nat.le_refl _) (.cells #[.int .i64 bb.n, .int .i64 bb.least, .slice pE bb.ex.length cE, .slice pB bb.bits.length cB] 31); have hbA := hb3.trans (hA.mono hb3.size); have hB3 := Lib.hid (hB2.out.trans (hbA.mono hB2.out.size)); have hE' := hE.later hA; have hB' := hB.later hA; have km := Lib.hid (kM.out _ hB3.out))
        | (go_at_call 13; refine (km.out).mono ?_; rintro e W4 ⟨vr, rfl, hr, hb4⟩; clear km; obtain ⟨pr, cr, rfl, -, -⟩ := Hid.out hr; have hA4 := (Below.refl _ W4).alloc (Nat.le_refl _) (.cells #[.slice pr rr.length cr] 28); have x4 := Lib.hid (RBox.new W4 (.slice pr rr.length cr)); have hbA4 := hb4.trans (hA4.mono hb4.size); have hB4 := Lib.hid (hB3.out.trans (hbA4.mono hB3.out.size)); have q4 := Lib.hid (q1.out.later hbA4); have hr4 := hr.later hA4; have hE4 := hE'.later hbA4; have hB44 := hB'.later hbA4))
      exact bodyPost_ret (v := .bool true) (by simp [results, Tryd.results3, go_sem]) rfl ⟨rfl, hB4.out⟩
    · go_wp2_with (first
        | (go_at_call 10; refine (kS.out).mono ?_; rintro e W1 ⟨rfl, hb1⟩; have hB1 := Lib.hid hb1; have kf := Lib.hid (few8_any W1 hp hh p0 h0))
        | (go_at_call 12; refine (kf.out).mono ?_; rintro e W2 ⟨rfl, hb2⟩; clear kf; have hB2 := Lib.hid (hB1.out.trans (hb2.mono hB1.out.size)); have kb := Lib.hid (kB.out _ hB2.out))
        | (go_at_call 11; refine (kb.out).mono ?_; rintro e W3 ⟨vE, vB, rfl, hE, hB, hb3⟩; clear kb; obtain ⟨pE, cE, rfl, -, -⟩ := Hid.out hE; obtain ⟨pB, cB, rfl, -, -⟩ := Hid.out hB; have q1 := Lib.hid (SBox.new W3 31 bb.n bb.least (.slice pE bb.ex.length cE) (.slice pB bb.bits.length cB)); have hA := (Below.refl _ W3).alloc (Nat.le_refl _) (.cells #[.int .i64 bb.n, .int .i64 bb.least, .slice pE bb.ex.length cE, .slice pB bb.bits.length cB] 31); have hbA := hb3.trans (hA.mono hb3.size); have hB3 := Lib.hid (hB2.out.trans (hbA.mono hB2.out.size)); have hE' := hE.later hA; have hB' := hB.later hA; have km := Lib.hid (kM.out _ hB3.out))
        | (go_at_call 13; refine (km.out).mono ?_; rintro e W4 ⟨vr, rfl, hr, hb4⟩; clear km; obtain ⟨pr, cr, rfl, -, -⟩ := Hid.out hr; have hA4 := (Below.refl _ W4).alloc (Nat.le_refl _) (.cells #[.slice pr rr.length cr] 28); have x4 := Lib.hid (RBox.new W4 (.slice pr rr.length cr)); have hbA4 := hb4.trans (hA4.mono hb4.size); have hB4 := Lib.hid (hB3.out.trans (hbA4.mono hB3.out.size)); have q4 := Lib.hid (q1.out.later hbA4); have hr4 := hr.later hA4; have hE4 := hE'.later hbA4; have hB44 := hB'.later hbA4))
      exact bodyPost_ret (v := .bool true) (by simp [results, Tryd.results3, go_sem]) rfl ⟨rfl, hB4.out⟩
  | some x =>
    clear s0 hm hs
    go_enter Tryd.func3, Tryd.ntmps3
    rcases he.out with rfl | rfl <;> rcases hem.out with rfl | rfl
    · exact absurd hw.out (by decide)
    · go_wp2_with (first
        | (go_at_call 10; refine (kS.out).mono ?_; rintro e W1 ⟨rfl, hb1⟩; have hB1 := Lib.hid hb1; have kf := Lib.hid (few8_any W1 hp hh p0 h0))
        | (go_at_call 12; refine (kf.out).mono ?_; rintro e W2 ⟨rfl, hb2⟩; clear kf; have hB2 := Lib.hid (hB1.out.trans (hb2.mono hB1.out.size)); have kb := Lib.hid (kB.out _ hB2.out))
        | (go_at_call 11; refine (kb.out).mono ?_; rintro e W3 ⟨vE, vB, rfl, hE, hB, hb3⟩; clear kb; obtain ⟨pE, cE, rfl, -, -⟩ := Hid.out hE; obtain ⟨pB, cB, rfl, -, -⟩ := Hid.out hB; have q1 := Lib.hid (SBox.new W3 31 bb.n bb.least (.slice pE bb.ex.length cE) (.slice pB bb.bits.length cB)); have hA := (Below.refl _ W3).alloc (Nat.le_refl _) (.cells #[.int .i64 bb.n, .int .i64 bb.least, .slice pE bb.ex.length cE, .slice pB bb.bits.length cB] 31); have hbA := hb3.trans (hA.mono hb3.size); have hB3 := Lib.hid (hB2.out.trans (hbA.mono hB2.out.size)); have hE' := hE.later hA; have hB' := hB.later hA; have km := Lib.hid (kM.out _ hB3.out))
        | (go_at_call 13; refine (km.out).mono ?_; rintro e W4 ⟨vr, rfl, hr, hb4⟩; clear km; obtain ⟨pr, cr, rfl, -, -⟩ := Hid.out hr; have hA4 := (Below.refl _ W4).alloc (Nat.le_refl _) (.cells #[.slice pr rr.length cr] 28); have x4 := Lib.hid (RBox.new W4 (.slice pr rr.length cr)); have hbA4 := hb4.trans (hA4.mono hb4.size); have hB4 := Lib.hid (hB3.out.trans (hbA4.mono hB3.out.size)); have q4 := Lib.hid (q1.out.later hbA4); have hr4 := hr.later hA4; have hE4 := hE'.later hbA4; have hB44 := hB'.later hbA4))
      exact bodyPost_ret (v := .bool true) (by simp [results, Tryd.results3, go_sem]) rfl ⟨rfl, hB4.out⟩
    · go_wp2_with (first
        | (go_at_call 10; refine (kS.out).mono ?_; rintro e W1 ⟨rfl, hb1⟩; have hB1 := Lib.hid hb1; have kf := Lib.hid (few8_any W1 hp hh p0 h0))
        | (go_at_call 12; refine (kf.out).mono ?_; rintro e W2 ⟨rfl, hb2⟩; clear kf; have hB2 := Lib.hid (hB1.out.trans (hb2.mono hB1.out.size)); have kb := Lib.hid (kB.out _ hB2.out))
        | (go_at_call 11; refine (kb.out).mono ?_; rintro e W3 ⟨vE, vB, rfl, hE, hB, hb3⟩; clear kb; obtain ⟨pE, cE, rfl, -, -⟩ := Hid.out hE; obtain ⟨pB, cB, rfl, -, -⟩ := Hid.out hB; have q1 := Lib.hid (SBox.new W3 31 bb.n bb.least (.slice pE bb.ex.length cE) (.slice pB bb.bits.length cB)); have hA := (Below.refl _ W3).alloc (Nat.le_refl _) (.cells #[.int .i64 bb.n, .int .i64 bb.least, .slice pE bb.ex.length cE, .slice pB bb.bits.length cB] 31); have hbA := hb3.trans (hA.mono hb3.size); have hB3 := Lib.hid (hB2.out.trans (hbA.mono hB2.out.size)); have hE' := hE.later hA; have hB' := hB.later hA; have km := Lib.hid (kM.out _ hB3.out))
        | (go_at_call 13; refine (km.out).mono ?_; rintro e W4 ⟨vr, rfl, hr, hb4⟩; clear km; obtain ⟨pr, cr, rfl, -, -⟩ := Hid.out hr; have hA4 := (Below.refl _ W4).alloc (Nat.le_refl _) (.cells #[.slice pr rr.length cr] 28); have x4 := Lib.hid (RBox.new W4 (.slice pr rr.length cr)); have hbA4 := hb4.trans (hA4.mono hb4.size); have hB4 := Lib.hid (hB3.out.trans (hbA4.mono hB3.out.size)); have q4 := Lib.hid (q1.out.later hbA4); have hr4 := hr.later hA4; have hE4 := hE'.later hbA4; have hB44 := hB'.later hbA4))
      exact bodyPost_ret (v := .bool true) (by simp [results, Tryd.results3, go_sem]) rfl ⟨rfl, hB4.out⟩
    · go_wp2_with (first
        | (go_at_call 10; refine (kS.out).mono ?_; rintro e W1 ⟨rfl, hb1⟩; have hB1 := Lib.hid hb1; have kf := Lib.hid (few8_any W1 hp hh p0 h0))
        | (go_at_call 12; refine (kf.out).mono ?_; rintro e W2 ⟨rfl, hb2⟩; clear kf; have hB2 := Lib.hid (hB1.out.trans (hb2.mono hB1.out.size)); have kb := Lib.hid (kB.out _ hB2.out))
        | (go_at_call 11; refine (kb.out).mono ?_; rintro e W3 ⟨vE, vB, rfl, hE, hB, hb3⟩; clear kb; obtain ⟨pE, cE, rfl, -, -⟩ := Hid.out hE; obtain ⟨pB, cB, rfl, -, -⟩ := Hid.out hB; have q1 := Lib.hid (SBox.new W3 31 bb.n bb.least (.slice pE bb.ex.length cE) (.slice pB bb.bits.length cB)); have hA := (Below.refl _ W3).alloc (Nat.le_refl _) (.cells #[.int .i64 bb.n, .int .i64 bb.least, .slice pE bb.ex.length cE, .slice pB bb.bits.length cB] 31); have hbA := hb3.trans (hA.mono hb3.size); have hB3 := Lib.hid (hB2.out.trans (hbA.mono hB2.out.size)); have hE' := hE.later hA; have hB' := hB.later hA; have km := Lib.hid (kM.out _ hB3.out))
        | (go_at_call 13; refine (km.out).mono ?_; rintro e W4 ⟨vr, rfl, hr, hb4⟩; clear km; obtain ⟨pr, cr, rfl, -, -⟩ := Hid.out hr; have hA4 := (Below.refl _ W4).alloc (Nat.le_refl _) (.cells #[.slice pr rr.length cr] 28); have x4 := Lib.hid (RBox.new W4 (.slice pr rr.length cr)); have hbA4 := hb4.trans (hA4.mono hb4.size); have hB4 := Lib.hid (hB3.out.trans (hbA4.mono hB3.out.size)); have q4 := Lib.hid (q1.out.later hbA4); have hr4 := hr.later hA4; have hE4 := hE'.later hbA4; have hB44 := hB'.later hbA4))
      exact bodyPost_ret (v := .bool true) (by simp [results, Tryd.results3, go_sem]) rfl ⟨rfl, hB4.out⟩
set_option linter.unusedSimpArgs false in
set_option maxRecDepth 100000 in
set_option maxHeartbeats 2000000 in
theorem halvesGood_any {p ph ps : Option Addr} {n c nh ch ns cs m : Nat} {bb : Sl} {rr : List Ch} {oo ss : List Ch} {zr zo nr no nz er eo : Int} {w : World} (hp : n ≤ c) (hh : nh ≤ ch) (p0 : p = none → n = 0 ∧ c = 0) (h0 : ph = none → nh = 0 ∧ ch = 0) (s0 : ps = none → ns = 0 ∧ cs = 0) (hm : min ns 300 = m) (hs : ns ≤ cs)
    (kS : Hid (Calls Tryd.prog 10 #[] w fun e W' => e = .returned (.bool true) ∧ Below w.heap.size w W'))
    (kB : Hid (∀ W : World, Below w.heap.size w W → Calls Tryd.prog 11 #[.slice p (min n 200) c, .slice ph (min nh 200) ch] W fun e W' => ∃ vE vB, e = .returned (.tuple #[.agg #[.int .i64 bb.n, .int .i64 bb.least, vE, vB], .int .i64 0]) ∧ HC W' vE bb.ex ∧ HR W' vB bb.bits ∧ Below W.heap.size W W'))
    (kM : Hid (∀ W : World, Below w.heap.size w W → Calls Tryd.prog 13 #[.slice ps m cs] W fun e W' => ∃ v', e = .returned (.tuple #[.agg #[v'], .int .i64 0]) ∧ HC W' v' rr ∧ Below W.heap.size W W'))
    (kF : Hid (∀ (v : Value) (W : World), Below w.heap.size w W → HC W v rr → Calls Tryd.prog 14 #[.agg #[v], .int .i64 0, .int .i64 65536] W fun e W' => ∃ v', e = .returned (.tuple #[.agg #[v'], .int .i64 0]) ∧ HC W' v' oo ∧ Below W.heap.size W W'))
    (kP : Hid (∀ W : World, Below w.heap.size w W → Calls Tryd.prog 15 #[.int .i64 0, .int .i64 65536] W fun e W' => ∃ v', e = .returned (.tuple #[.agg #[v'], .int .i64 0]) ∧ HC W' v' ss ∧ Below W.heap.size W W'))
    (kS1 : Hid (∀ (vE vB vr : Value) (W : World), Below w.heap.size w W → HC W vE bb.ex → HR W vB bb.bits → HC W vr rr → Calls Tryd.prog 16 #[.agg #[.int .i64 bb.n, .int .i64 bb.least, vE, vB], .agg #[vr]] W fun e W' => e = .returned (.tuple #[.agg #[.int .i64 (hiW zr), .int .u64 (loW zr)], .int .i64 nr, .int .i64 er]) ∧ Below W.heap.size W W'))
    (kS2 : Hid (∀ (vE vB vr : Value) (W : World), Below w.heap.size w W → HC W vE bb.ex → HR W vB bb.bits → HC W vr oo → Calls Tryd.prog 16 #[.agg #[.int .i64 bb.n, .int .i64 bb.least, vE, vB], .agg #[vr]] W fun e W' => e = .returned (.tuple #[.agg #[.int .i64 (hiW zo), .int .u64 (loW zo)], .int .i64 no, .int .i64 eo]) ∧ Below W.heap.size W W'))
    (kS3 : Hid (∀ (vE vB vr : Value) (W : World), Below w.heap.size w W → HC W vE bb.ex → HR W vB bb.bits → HC W vr ss → Calls Tryd.prog 16 #[.agg #[.int .i64 bb.n, .int .i64 bb.least, vE, vB], .agg #[vr]] W fun e W' => e = .returned (.tuple #[.agg #[.int .i64 (hiW (zr + zo)), .int .u64 (loW (zr + zo))], .int .i64 nz, .int .i64 0]) ∧ Below W.heap.size W W'))
    (kA : Hid (∀ W : World, Calls Tryd.prog 17 #[.agg #[.int .i64 (hiW zr), .int .u64 (loW zr)], .agg #[.int .i64 (hiW zo), .int .u64 (loW zo)]] W fun e W' => e = .returned (.agg #[.int .i64 (hiW (zr + zo)), .int .u64 (loW (zr + zo))]) ∧ Below W.heap.size W W'))
    (kC : Hid (∀ (vE : Value) (W : World), Below w.heap.size w W → HC W vE bb.ex → Calls Tryd.prog 18 #[.agg #[vE]] W fun e W' => e = .returned (.int .i64 nz) ∧ Below W.heap.size W W'))
    (hadd : IntKind.i64.wrap (nr + no) = nz) :
    Calls Tryd.prog 3 #[.slice p n c, .slice ph nh ch, .slice ps ns cs] w fun e W' => e = .returned (.bool true) ∧ Below w.heap.size w W' := by
  have m0 : (if (300 : Int) < (ns : Int) then 300 else (ns : Int)) = (m : Int) := by split <;> omega
  have m1 : m ≤ cs := by omega
  have m2 : m ≤ ns := by omega
  have m3 : (0 : Int) ≤ (m : Int) ∧ (m : Int) ≤ (cs : Int) := by omega
  cases ps with
  | none =>
    obtain ⟨rfl, rfl⟩ := s0 rfl
    obtain rfl : m = 0 := by omega
    clear s0 hm hs
    go_enter Tryd.func3, Tryd.ntmps3
    go_wp2_with (first
      | (go_at_call 10; refine (kS.out).mono ?_; rintro e W1 ⟨rfl, hb1⟩; have hB1 := Lib.hid hb1; have kf := Lib.hid (few8_any W1 hp hh p0 h0))
      | (go_at_call 12; refine (kf.out).mono ?_; rintro e W2 ⟨rfl, hb2⟩; clear kf; have hB2 := Lib.hid (hB1.out.trans (hb2.mono hB1.out.size)); have kb := Lib.hid (kB.out _ hB2.out))
      | (go_at_call 11; refine (kb.out).mono ?_; rintro e W3 ⟨vE, vB, rfl, hE, hB, hb3⟩; clear kb; obtain ⟨pE, cE, rfl, -, -⟩ := Hid.out hE; obtain ⟨pB, cB, rfl, -, -⟩ := Hid.out hB; have q1 := Lib.hid (SBox.new W3 31 bb.n bb.least (.slice pE bb.ex.length cE) (.slice pB bb.bits.length cB)); have hA := (Below.refl _ W3).alloc (Nat.le_refl _) (.cells #[.int .i64 bb.n, .int .i64 bb.least, .slice pE bb.ex.length cE, .slice pB bb.bits.length cB] 31); have hbA := hb3.trans (hA.mono hb3.size); have hB3 := Lib.hid (hB2.out.trans (hbA.mono hB2.out.size)); have hE' := hE.later hA; have hB' := hB.later hA; have km := Lib.hid (kM.out _ hB3.out))
      | (go_at_call 13; refine (km.out).mono ?_; rintro e W4 ⟨vr, rfl, hr, hb4⟩; clear km; obtain ⟨pr, cr, rfl, -, -⟩ := Hid.out hr; have hA4 := (Below.refl _ W4).alloc (Nat.le_refl _) (.cells #[.slice pr rr.length cr] 28); have x4 := Lib.hid (RBox.new W4 (.slice pr rr.length cr)); have hbA4 := hb4.trans (hA4.mono hb4.size); have hB4 := Lib.hid (hB3.out.trans (hbA4.mono hB3.out.size)); have q4 := Lib.hid (q1.out.later hbA4); have hr4 := hr.later hA4; have hE4 := hE'.later hbA4; have hB44 := hB'.later hbA4; have y4 := x4.out.cell; have kfl := Lib.hid (kF.out _ _ hB4.out hr4))
      | (go_at_call 14; refine (kfl.out).mono ?_; rintro e W5 ⟨v5, rfl, ho, hb5⟩; clear kfl y4; obtain ⟨po, co, rfl, -, -⟩ := Hid.out ho; have hA5 := (Below.refl _ W5).alloc (Nat.le_refl _) (.cells #[.slice po oo.length co] 28); have o5 := Lib.hid (RBox.new W5 (.slice po oo.length co)); have hbA5 := hb5.trans (hA5.mono hb5.size); have hB5 := Lib.hid (hB4.out.trans (hbA5.mono hB4.out.size)); have q5 := Lib.hid (q4.out.later hbA5); have x5 := Lib.hid (x4.out.later hbA5); have hr5 := hr4.later hbA5; have ho5 := ho.later hA5; have hE5 := hE4.later hbA5; have hB55 := hB44.later hbA5; have ks := Lib.hid (kP.out _ hB5.out))
      | (go_at_call 15; refine (ks.out).mono ?_; rintro e W6 ⟨v6, rfl, hs, hb6⟩; clear ks; obtain ⟨pz, cz, rfl, -, -⟩ := Hid.out hs; have hA6 := (Below.refl _ W6).alloc (Nat.le_refl _) (.cells #[.slice pz ss.length cz] 28); have s6 := Lib.hid (RBox.new W6 (.slice pz ss.length cz)); have hbA6 := hb6.trans (hA6.mono hb6.size); have hB6 := Lib.hid (hB5.out.trans (hbA6.mono hB5.out.size)); have q6 := Lib.hid (q5.out.later hbA6); have x6 := Lib.hid (x5.out.later hbA6); have o6 := Lib.hid (o5.out.later hbA6); have hr6 := hr5.later hbA6; have ho6 := ho5.later hbA6; have hs6 := hs.later hA6; have hE6 := hE5.later hbA6; have hB66 := hB55.later hbA6; have c0 := q6.out.c0; have c1 := q6.out.c1; have c2 := q6.out.c2; have c3 := q6.out.c3; have y1 := x6.out.cell; have k1 := Lib.hid (kS1.out _ _ _ _ hB6.out hE6 hB66 hr6))
      | (go_at_call 16; refine (k1.out).mono ?_; rintro e W7 ⟨rfl, hb7⟩; clear k1 c0 c1 c2 c3 y1; have hA7 := (Below.refl _ W7).alloc (Nat.le_refl _) (.cells #[.int .i64 (hiW zr), .int .u64 (loW zr)] 43); have w7 := Lib.hid (WBox.new W7 zr); have hbA7 := hb7.trans (hA7.mono hb7.size); have hB7 := Lib.hid (hB6.out.trans (hbA7.mono hB6.out.size)); have q7 := Lib.hid (q6.out.later hbA7); have o7 := Lib.hid (o6.out.later hbA7); have s7 := Lib.hid (s6.out.later hbA7); have ho7 := ho6.later hbA7; have hs7 := hs6.later hbA7; have hE7 := hE6.later hbA7; have hB77 := hB66.later hbA7; have c0 := q7.out.c0; have c1 := q7.out.c1; have c2 := q7.out.c2; have c3 := q7.out.c3; have y1 := o7.out.cell; have k2 := Lib.hid (kS2.out _ _ _ _ hB7.out hE7 hB77 ho7))
      | (go_at_call 16; refine (k2.out).mono ?_; rintro e W8 ⟨rfl, hb8⟩; clear k2 c0 c1 c2 c3 y1; have hA8 := (Below.refl _ W8).alloc (Nat.le_refl _) (.cells #[.int .i64 (hiW zo), .int .u64 (loW zo)] 43); have w8 := Lib.hid (WBox.new W8 zo); have hbA8 := hb8.trans (hA8.mono hb8.size); have hB8 := Lib.hid (hB7.out.trans (hbA8.mono hB7.out.size)); have q8 := Lib.hid (q7.out.later hbA8); have v8 := Lib.hid (w7.out.later hbA8); have s8 := Lib.hid (s7.out.later hbA8); have hs8 := hs7.later hbA8; have hE8 := hE7.later hbA8; have hB88 := hB77.later hbA8; have c0 := q8.out.c0; have c1 := q8.out.c1; have c2 := q8.out.c2; have c3 := q8.out.c3; have y1 := s8.out.cell; have k3 := Lib.hid (kS3.out _ _ _ _ hB8.out hE8 hB88 hs8))
      | (go_at_call 16; refine (k3.out).mono ?_; rintro e W9 ⟨rfl, hb9⟩; clear k3 c0 c1 c2 c3 y1; have hA9 := (Below.refl _ W9).alloc (Nat.le_refl _) (.cells #[.int .i64 (hiW (zr + zo)), .int .u64 (loW (zr + zo))] 43); have w9 := Lib.hid (WBox.new W9 (zr + zo)); have hbA9 := hb9.trans (hA9.mono hb9.size); have hB9 := Lib.hid (hB8.out.trans (hbA9.mono hB8.out.size)); have q9 := Lib.hid (q8.out.later hbA9); have v9 := Lib.hid (v8.out.later hbA9); have u9 := Lib.hid (w8.out.later hbA9); have hE9 := hE8.later hbA9))
    have hB10 := hB9.out
    have a0 := v9.out.c0
    have a1 := v9.out.c1
    have a2 := u9.out.c0
    have a3 := u9.out.c1
    have a4 := w9.out.c0
    have a5 := w9.out.c1
    have a6 := q9.out.c2
    clear hb1 hb2 hb3 hb4 hb5 hb6 hb7 hb8 hb9 hA hA4 hA5 hA6 hA7 hA8 hA9 hbA hbA4 hbA5 hbA6 hbA7 hbA8 hbA9 w9 w8 w7 v8 v9 u9 q9 q8 q7 q6 q5 q4 q1 x4 x5 x6 o5 o6 o7 s6 s7 s8 hB1 hB2 hB3 hB4 hB5 hB6 hB7 hB8 hB9 hE hE' hE4 hE5 hE6 hE7 hE8 hr hr4 hr5 hr6 ho ho5 ho6 ho7 hs hs6 hs7 hs8 hB hB' hB44 hB55 hB66 hB77 hB88 kS kB kM kF kP kS1 kS2 kS3
    generalize W9.alloc (.cells #[.int .i64 (hiW (zr + zo)), .int .u64 (loW (zr + zo))] 43) = W10 at *
    generalize W9.heap.size = b9 at *
    generalize W8.heap.size = b8 at *
    generalize W7.heap.size = b7 at *
    generalize W3.heap.size = b3 at *
    have kC10 := Lib.hid (fun (W : World) (h : Below W10.heap.size W10 W) => kC.out _ _ (hB10.trans (h.mono hB10.size)) (hE9.later h))
    have hB10' := Lib.hid hB10
    have hMd : (fun W' : World => Hid (Below W10.heap.size W10 W') ∧ W'.cell? ⟨b7, 0, none⟩ = some (.int .i64 (hiW zr)) ∧ W'.cell? ⟨b7, 1, none⟩ = some (.int .u64 (loW zr)) ∧ W'.cell? ⟨b8, 0, none⟩ = some (.int .i64 (hiW zo)) ∧ W'.cell? ⟨b8, 1, none⟩ = some (.int .u64 (loW zo)) ∧ W'.cell? ⟨b9, 0, none⟩ = some (.int .i64 (hiW (zr + zo))) ∧ W'.cell? ⟨b9, 1, none⟩ = some (.int .u64 (loW (zr + zo))) ∧ W'.cell? ⟨b3, 2, none⟩ = some (.slice pE bb.ex.length cE)) W10.drew := ⟨Lib.hid (Below.refl _ W10).drew, a0, a1, a2, a3, a4, a5, a6⟩
    clear hB10 hE9 kC a0 a1 a2 a3 a4 a5 a6
    refine region_late (S := (fun W' : World => Hid (Below W10.heap.size W10 W') ∧ W'.cell? ⟨b7, 0, none⟩ = some (.int .i64 (hiW zr)) ∧ W'.cell? ⟨b7, 1, none⟩ = some (.int .u64 (loW zr)) ∧ W'.cell? ⟨b8, 0, none⟩ = some (.int .i64 (hiW zo)) ∧ W'.cell? ⟨b8, 1, none⟩ = some (.int .u64 (loW zo)) ∧ W'.cell? ⟨b9, 0, none⟩ = some (.int .i64 (hiW (zr + zo))) ∧ W'.cell? ⟨b9, 1, none⟩ = some (.int .u64 (loW (zr + zo))) ∧ W'.cell? ⟨b3, 2, none⟩ = some (.slice pE bb.ex.length cE))) (fun n => n == 999) (by kernel_rfl) hMd (fun hHeld => ?_)
    clear hMd
    generalize World.drew W10 = Wd at *
    refine wpAnyL_take (i := 0) (oi := { dst := some 81, op := _, type := _, pos := _, after := _, guard := _ }) (v := ?v1) rfl (by kernel_rfl) (by kernel_rfl) (by kernel_rfl) (by kernel_rfl) (fun _ _ _ h => h) (Or.inl ⟨by kernel_rfl, ?y1⟩) hHeld ?r1
    case y1 =>
      intro w hSw
      try dsimp only at hSw
      try simp only [List.getElem_toArray, List.getElem_cons_zero, List.getElem_cons_succ]
      go_simp
      try with_reducible rfl
    try simp only [List.getElem_toArray, List.getElem_cons_zero, List.getElem_cons_succ, Act.put, List.setIfInBounds_toArray, List.set_cons_zero, List.set_cons_succ]
    refine wpAnyL_take (i := 1) (oi := { dst := some 82, op := _, type := _, pos := _, after := _, guard := _ }) (v := ?v2) rfl (by kernel_rfl) (by kernel_rfl) (by kernel_rfl) (by kernel_rfl) (fun _ _ _ h => h) (Or.inl ⟨by kernel_rfl, ?y2⟩) hHeld ?r2
    case y2 =>
      intro w hSw
      try dsimp only at hSw
      try simp only [List.getElem_toArray, List.getElem_cons_zero, List.getElem_cons_succ]
      go_simp
      try with_reducible rfl
    try simp only [List.getElem_toArray, List.getElem_cons_zero, List.getElem_cons_succ, Act.put, List.setIfInBounds_toArray, List.set_cons_zero, List.set_cons_succ]
    refine wpAnyL_take (i := 2) (oi := { dst := some 83, op := _, type := _, pos := _, after := _, guard := _ }) (v := ?v3) rfl (by kernel_rfl) (by kernel_rfl) (by kernel_rfl) (by kernel_rfl) (fun _ _ _ h => h) (Or.inl ⟨by kernel_rfl, ?y3⟩) hHeld ?r3
    case y3 =>
      intro w hSw
      try dsimp only at hSw
      try simp only [List.getElem_toArray, List.getElem_cons_zero, List.getElem_cons_succ]
      go_simp
      try with_reducible rfl
    try simp only [List.getElem_toArray, List.getElem_cons_zero, List.getElem_cons_succ, Act.put, List.setIfInBounds_toArray, List.set_cons_zero, List.set_cons_succ]
    refine wpAnyL_take (i := 3) (oi := { dst := some 84, op := _, type := _, pos := _, after := _, guard := _ }) (v := ?v4) rfl (by kernel_rfl) (by kernel_rfl) (by kernel_rfl) (by kernel_rfl) (fun _ _ _ h => h) (Or.inl ⟨by kernel_rfl, ?y4⟩) hHeld ?r4
    case y4 =>
      intro w hSw
      try dsimp only at hSw
      try simp only [List.getElem_toArray, List.getElem_cons_zero, List.getElem_cons_succ]
      go_simp
      try with_reducible rfl
    try simp only [List.getElem_toArray, List.getElem_cons_zero, List.getElem_cons_succ, Act.put, List.setIfInBounds_toArray, List.set_cons_zero, List.set_cons_succ]
    refine wpAnyL_take (i := 4) (oi := { dst := some 85, op := _, type := _, pos := _, after := _, guard := _ }) (v := ?v5) rfl (by kernel_rfl) (by kernel_rfl) (by kernel_rfl) (by kernel_rfl) (fun _ _ _ h => h) (Or.inl ⟨by kernel_rfl, ?y5⟩) hHeld ?r5
    case y5 =>
      intro w hSw
      try dsimp only at hSw
      try simp only [List.getElem_toArray, List.getElem_cons_zero, List.getElem_cons_succ]
      go_simp
      try with_reducible rfl
    try simp only [List.getElem_toArray, List.getElem_cons_zero, List.getElem_cons_succ, Act.put, List.setIfInBounds_toArray, List.set_cons_zero, List.set_cons_succ]
    refine wpAnyL_take (i := 5) (oi := { dst := some 86, op := _, type := _, pos := _, after := _, guard := _ }) (v := ?v6) rfl (by kernel_rfl) (by kernel_rfl) (by kernel_rfl) (by kernel_rfl) (fun _ _ _ h => h) (Or.inl ⟨by kernel_rfl, ?y6⟩) hHeld ?r6
    case y6 =>
      intro w hSw
      try dsimp only at hSw
      try simp only [List.getElem_toArray, List.getElem_cons_zero, List.getElem_cons_succ]
      go_simp
      try with_reducible rfl
    try simp only [List.getElem_toArray, List.getElem_cons_zero, List.getElem_cons_succ, Act.put, List.setIfInBounds_toArray, List.set_cons_zero, List.set_cons_succ]
    refine wpAnyL_take (i := 6) (oi := { dst := some 87, op := _, type := _, pos := _, after := _, guard := _ }) (v := ?v7) rfl (by kernel_rfl) (by kernel_rfl) (by kernel_rfl) (by kernel_rfl) (fun _ _ _ h => h) (Or.inl ⟨by kernel_rfl, ?y7⟩) hHeld ?r7
    case y7 =>
      intro w hSw
      try dsimp only at hSw
      try simp only [List.getElem_toArray, List.getElem_cons_zero, List.getElem_cons_succ]
      go_simp
      try with_reducible rfl
    try simp only [List.getElem_toArray, List.getElem_cons_zero, List.getElem_cons_succ, Act.put, List.setIfInBounds_toArray, List.set_cons_zero, List.set_cons_succ]
    refine wpAnyL_take (i := 7) (oi := { dst := some 88, op := _, type := _, pos := _, after := _, guard := _ }) (v := ?v8) rfl (by kernel_rfl) (by kernel_rfl) (by kernel_rfl) (by kernel_rfl) (fun _ _ _ h => h) (Or.inl ⟨by kernel_rfl, ?y8⟩) hHeld ?r8
    case y8 =>
      intro w hSw
      try dsimp only at hSw
      try simp only [List.getElem_toArray, List.getElem_cons_zero, List.getElem_cons_succ]
      go_simp
      try with_reducible rfl
    try simp only [List.getElem_toArray, List.getElem_cons_zero, List.getElem_cons_succ, Act.put, List.setIfInBounds_toArray, List.set_cons_zero, List.set_cons_succ]
    refine wpAnyL_take (i := 8) (oi := { dst := some 89, op := _, type := _, pos := _, after := _, guard := _ }) (v := ?v9) rfl (by kernel_rfl) (by kernel_rfl) (by kernel_rfl) (by kernel_rfl) (fun _ _ _ h => h) (Or.inl ⟨by kernel_rfl, ?y9⟩) hHeld ?r9
    case y9 =>
      intro w hSw
      try dsimp only at hSw
      try simp only [List.getElem_toArray, List.getElem_cons_zero, List.getElem_cons_succ]
      go_simp
      try with_reducible rfl
    try simp only [List.getElem_toArray, List.getElem_cons_zero, List.getElem_cons_succ, Act.put, List.setIfInBounds_toArray, List.set_cons_zero, List.set_cons_succ]
    refine wpAnyL_take (i := 9) (oi := { dst := some 90, op := _, type := _, pos := _, after := _, guard := _ }) (v := ?v10) rfl (by kernel_rfl) (by kernel_rfl) (by kernel_rfl) (by kernel_rfl) (fun _ _ _ h => h) (Or.inl ⟨by kernel_rfl, ?y10⟩) hHeld ?r10
    case y10 =>
      intro w hSw
      try dsimp only at hSw
      try simp only [List.getElem_toArray, List.getElem_cons_zero, List.getElem_cons_succ]
      go_simp
      try with_reducible rfl
    try simp only [List.getElem_toArray, List.getElem_cons_zero, List.getElem_cons_succ, Act.put, List.setIfInBounds_toArray, List.set_cons_zero, List.set_cons_succ]
    refine wpAnyL_take (i := 10) (oi := { dst := some 91, op := _, type := _, pos := _, after := _, guard := _ }) (v := ?v11) rfl (by kernel_rfl) (by kernel_rfl) (by kernel_rfl) (by kernel_rfl) (fun _ _ _ h => h) (Or.inl ⟨by kernel_rfl, ?y11⟩) hHeld ?r11
    case y11 =>
      intro w hSw
      try dsimp only at hSw
      try simp only [List.getElem_toArray, List.getElem_cons_zero, List.getElem_cons_succ]
      go_simp
      try with_reducible rfl
    try simp only [List.getElem_toArray, List.getElem_cons_zero, List.getElem_cons_succ, Act.put, List.setIfInBounds_toArray, List.set_cons_zero, List.set_cons_succ]
    refine wpAnyL_take (i := 11) (oi := { dst := some 92, op := _, type := _, pos := _, after := _, guard := _ }) (v := ?v12) rfl (by kernel_rfl) (by kernel_rfl) (by kernel_rfl) (by kernel_rfl) (fun _ _ _ h => h) (Or.inl ⟨by kernel_rfl, ?y12⟩) hHeld ?r12
    case y12 =>
      intro w hSw
      try dsimp only at hSw
      try simp only [List.getElem_toArray, List.getElem_cons_zero, List.getElem_cons_succ]
      go_simp
      try with_reducible rfl
    try simp only [List.getElem_toArray, List.getElem_cons_zero, List.getElem_cons_succ, Act.put, List.setIfInBounds_toArray, List.set_cons_zero, List.set_cons_succ]
    refine wpAnyL_take (i := 12) (oi := { dst := some 93, op := _, type := _, pos := _, after := _, guard := _ }) (v := ?v13) rfl (by kernel_rfl) (by kernel_rfl) (by kernel_rfl) (by kernel_rfl) (fun _ _ _ h => h) (Or.inl ⟨by kernel_rfl, ?y13⟩) hHeld ?r13
    case y13 =>
      intro w hSw
      try dsimp only at hSw
      try simp only [List.getElem_toArray, List.getElem_cons_zero, List.getElem_cons_succ]
      go_simp
      try with_reducible rfl
    try simp only [List.getElem_toArray, List.getElem_cons_zero, List.getElem_cons_succ, Act.put, List.setIfInBounds_toArray, List.set_cons_zero, List.set_cons_succ]
    refine wpAnyL_take (i := 13) (oi := { dst := some 94, op := _, type := _, pos := _, after := _, guard := _ }) (v := ?v14) rfl (by kernel_rfl) (by kernel_rfl) (by kernel_rfl) (by kernel_rfl) (fun _ _ _ h => h) (Or.inl ⟨by kernel_rfl, ?y14⟩) hHeld ?r14
    case y14 =>
      intro w hSw
      try dsimp only at hSw
      try simp only [List.getElem_toArray, List.getElem_cons_zero, List.getElem_cons_succ]
      go_simp
      try with_reducible rfl
    try simp only [List.getElem_toArray, List.getElem_cons_zero, List.getElem_cons_succ, Act.put, List.setIfInBounds_toArray, List.set_cons_zero, List.set_cons_succ]
    refine wpAnyL_take (i := 14) (oi := { dst := some 95, op := _, type := _, pos := _, after := _, guard := _ }) (v := ?v15) rfl (by kernel_rfl) (by kernel_rfl) (by kernel_rfl) (by kernel_rfl) (fun _ _ _ h => h) (Or.inl ⟨by kernel_rfl, ?y15⟩) hHeld ?r15
    case y15 =>
      intro w hSw
      try dsimp only at hSw
      try simp only [List.getElem_toArray, List.getElem_cons_zero, List.getElem_cons_succ]
      go_simp
      try with_reducible rfl
    try simp only [List.getElem_toArray, List.getElem_cons_zero, List.getElem_cons_succ, Act.put, List.setIfInBounds_toArray, List.set_cons_zero, List.set_cons_succ]
    refine wpAnyL_take (i := 15) (oi := { dst := some 96, op := _, type := _, pos := _, after := _, guard := _ }) (v := ?v16) rfl (by kernel_rfl) (by kernel_rfl) (by kernel_rfl) (by kernel_rfl) (fun _ _ _ h => h) (Or.inl ⟨by kernel_rfl, ?y16⟩) hHeld ?r16
    case y16 =>
      intro w hSw
      try dsimp only at hSw
      try simp only [List.getElem_toArray, List.getElem_cons_zero, List.getElem_cons_succ]
      go_simp
      try with_reducible rfl
    try simp only [List.getElem_toArray, List.getElem_cons_zero, List.getElem_cons_succ, Act.put, List.setIfInBounds_toArray, List.set_cons_zero, List.set_cons_succ]
    refine wpAnyL_take (i := 17) (oi := { dst := some 98, op := _, type := _, pos := _, after := _, guard := _ }) (v := ?v17) rfl (by kernel_rfl) (by kernel_rfl) (by kernel_rfl) (by kernel_rfl) (fun _ _ _ h => h) (Or.inl ⟨by kernel_rfl, ?y17⟩) hHeld ?r17
    case y17 =>
      intro w hSw
      try dsimp only at hSw
      try simp only [List.getElem_toArray, List.getElem_cons_zero, List.getElem_cons_succ]
      go_simp
      try with_reducible rfl
    try simp only [List.getElem_toArray, List.getElem_cons_zero, List.getElem_cons_succ, Act.put, List.setIfInBounds_toArray, List.set_cons_zero, List.set_cons_succ]
    refine wpAnyL_one (i := 16) (by kernel_rfl) rfl (fun K hK => ?_)
    try simp only [List.getElem_toArray, List.getElem_cons_zero, List.getElem_cons_succ]
    go_simp
    go_at_call 17
    refine (kA.out _).mono ?_
    rintro e Wn16 ⟨rfl, hbn⟩
    have hnew := Lib.hid (keep8 hbn hHeld)
    refine hK.out _ _ (fun _ => hnew.out) ?_
    have hHeld' := hnew.out
    clear hHeld hnew hK K hbn
    have hHeld := hHeld'
    clear hHeld'
    try simp only [List.getElem_toArray, List.getElem_cons_zero, List.getElem_cons_succ, Act.put, List.setIfInBounds_toArray, List.set_cons_zero, List.set_cons_succ]
    refine wpAnyL_take (i := 18) (oi := { dst := some 99, op := _, type := _, pos := _, after := _, guard := _ }) (v := ?v18) rfl (by kernel_rfl) (by kernel_rfl) (by kernel_rfl) (by kernel_rfl) (fun _ _ _ h => h) (Or.inl ⟨by kernel_rfl, ?y18⟩) hHeld ?r18
    case y18 =>
      intro w hSw
      try dsimp only at hSw
      try simp only [List.getElem_toArray, List.getElem_cons_zero, List.getElem_cons_succ]
      go_simp
      try with_reducible rfl
    try simp only [List.getElem_toArray, List.getElem_cons_zero, List.getElem_cons_succ, Act.put, List.setIfInBounds_toArray, List.set_cons_zero, List.set_cons_succ]
    refine wpAnyL_take (i := 19) (oi := { dst := some 100, op := _, type := _, pos := _, after := _, guard := _ }) (v := ?v19) rfl (by kernel_rfl) (by kernel_rfl) (by kernel_rfl) (by kernel_rfl) (fun _ _ _ h => h) (Or.inl ⟨by kernel_rfl, ?y19⟩) hHeld ?r19
    case y19 =>
      intro w hSw
      try dsimp only at hSw
      try simp only [List.getElem_toArray, List.getElem_cons_zero, List.getElem_cons_succ]
      go_simp
      try with_reducible rfl
    try simp only [List.getElem_toArray, List.getElem_cons_zero, List.getElem_cons_succ, Act.put, List.setIfInBounds_toArray, List.set_cons_zero, List.set_cons_succ]
    refine wpAnyL_take (i := 20) (oi := { dst := some 101, op := _, type := _, pos := _, after := _, guard := _ }) (v := ?v20) rfl (by kernel_rfl) (by kernel_rfl) (by kernel_rfl) (by kernel_rfl) (fun _ _ _ h => h) (Or.inl ⟨by kernel_rfl, ?y20⟩) hHeld ?r20
    case y20 =>
      intro w hSw
      try dsimp only at hSw
      try simp only [List.getElem_toArray, List.getElem_cons_zero, List.getElem_cons_succ]
      go_simp
      try with_reducible rfl
    try simp only [List.getElem_toArray, List.getElem_cons_zero, List.getElem_cons_succ, Act.put, List.setIfInBounds_toArray, List.set_cons_zero, List.set_cons_succ]
    refine wpAnyL_take (i := 21) (oi := { dst := some 102, op := _, type := _, pos := _, after := _, guard := _ }) (v := ?v21) rfl (by kernel_rfl) (by kernel_rfl) (by kernel_rfl) (by kernel_rfl) (fun _ _ _ h => h) (Or.inl ⟨by kernel_rfl, ?y21⟩) hHeld ?r21
    case y21 =>
      intro w hSw
      try dsimp only at hSw
      try simp only [List.getElem_toArray, List.getElem_cons_zero, List.getElem_cons_succ]
      go_simp
      try with_reducible rfl
    try simp only [List.getElem_toArray, List.getElem_cons_zero, List.getElem_cons_succ, Act.put, List.setIfInBounds_toArray, List.set_cons_zero, List.set_cons_succ]
    refine wpAnyL_take (i := 22) (oi := { dst := some 103, op := _, type := _, pos := _, after := _, guard := _ }) (v := ?v22) rfl (by kernel_rfl) (by kernel_rfl) (by kernel_rfl) (by kernel_rfl) (fun _ _ _ h => h) (Or.inl ⟨by kernel_rfl, ?y22⟩) hHeld ?r22
    case y22 =>
      intro w hSw
      try dsimp only at hSw
      try simp only [List.getElem_toArray, List.getElem_cons_zero, List.getElem_cons_succ]
      go_simp
      try with_reducible rfl
    try simp only [List.getElem_toArray, List.getElem_cons_zero, List.getElem_cons_succ, Act.put, List.setIfInBounds_toArray, List.set_cons_zero, List.set_cons_succ]
    refine wpAnyL_take (i := 23) (oi := { dst := some 104, op := _, type := _, pos := _, after := _, guard := _ }) (v := ?v23) rfl (by kernel_rfl) (by kernel_rfl) (by kernel_rfl) (by kernel_rfl) (fun _ _ _ h => h) (Or.inl ⟨by kernel_rfl, ?y23⟩) hHeld ?r23
    case y23 =>
      intro w hSw
      try dsimp only at hSw
      try simp only [List.getElem_toArray, List.getElem_cons_zero, List.getElem_cons_succ]
      go_simp
      try with_reducible rfl
    try simp only [List.getElem_toArray, List.getElem_cons_zero, List.getElem_cons_succ, Act.put, List.setIfInBounds_toArray, List.set_cons_zero, List.set_cons_succ]
    refine wpAnyL_take (i := 24) (oi := { dst := some 105, op := _, type := _, pos := _, after := _, guard := _ }) (v := ?v24) rfl (by kernel_rfl) (by kernel_rfl) (by kernel_rfl) (by kernel_rfl) (fun _ _ _ h => h) (Or.inl ⟨by kernel_rfl, ?y24⟩) hHeld ?r24
    case y24 =>
      intro w hSw
      try dsimp only at hSw
      try simp only [List.getElem_toArray, List.getElem_cons_zero, List.getElem_cons_succ]
      go_simp
      try with_reducible rfl
    try simp only [List.getElem_toArray, List.getElem_cons_zero, List.getElem_cons_succ, Act.put, List.setIfInBounds_toArray, List.set_cons_zero, List.set_cons_succ]
    refine wpAnyL_take (i := 25) (oi := { dst := some 106, op := _, type := _, pos := _, after := _, guard := _ }) (v := ?v25) rfl (by kernel_rfl) (by kernel_rfl) (by kernel_rfl) (by kernel_rfl) (fun _ _ _ h => h) (Or.inl ⟨by kernel_rfl, ?y25⟩) hHeld ?r25
    case y25 =>
      intro w hSw
      try dsimp only at hSw
      try simp only [List.getElem_toArray, List.getElem_cons_zero, List.getElem_cons_succ]
      go_simp
      try with_reducible rfl
    try simp only [List.getElem_toArray, List.getElem_cons_zero, List.getElem_cons_succ, Act.put, List.setIfInBounds_toArray, List.set_cons_zero, List.set_cons_succ]
    refine wpAnyL_take (i := 26) (oi := { dst := some 107, op := _, type := _, pos := _, after := _, guard := _ }) (v := ?v26) rfl (by kernel_rfl) (by kernel_rfl) (by kernel_rfl) (by kernel_rfl) (fun _ _ _ h => h) (Or.inl ⟨by kernel_rfl, ?y26⟩) hHeld ?r26
    case y26 =>
      intro w hSw
      try dsimp only at hSw
      try simp only [List.getElem_toArray, List.getElem_cons_zero, List.getElem_cons_succ]
      go_simp
      try with_reducible rfl
    try simp only [List.getElem_toArray, List.getElem_cons_zero, List.getElem_cons_succ, Act.put, List.setIfInBounds_toArray, List.set_cons_zero, List.set_cons_succ]
    refine wpAnyL_take (i := 27) (oi := { dst := some 108, op := _, type := _, pos := _, after := _, guard := _ }) (v := ?v27) rfl (by kernel_rfl) (by kernel_rfl) (by kernel_rfl) (by kernel_rfl) (fun _ _ _ h => h) (Or.inl ⟨by kernel_rfl, ?y27⟩) hHeld ?r27
    case y27 =>
      intro w hSw
      try dsimp only at hSw
      try simp only [List.getElem_toArray, List.getElem_cons_zero, List.getElem_cons_succ]
      go_simp
      try with_reducible rfl
    try simp only [List.getElem_toArray, List.getElem_cons_zero, List.getElem_cons_succ, Act.put, List.setIfInBounds_toArray, List.set_cons_zero, List.set_cons_succ]
    refine wpAnyL_take (i := 28) (oi := { dst := some 109, op := _, type := _, pos := _, after := _, guard := _ }) (v := ?v28) rfl (by kernel_rfl) (by kernel_rfl) (by kernel_rfl) (by kernel_rfl) (fun _ _ _ h => h) (Or.inl ⟨by kernel_rfl, ?y28⟩) hHeld ?r28
    case y28 =>
      intro w hSw
      try dsimp only at hSw
      try simp only [List.getElem_toArray, List.getElem_cons_zero, List.getElem_cons_succ]
      go_simp
      try with_reducible rfl
    try simp only [List.getElem_toArray, List.getElem_cons_zero, List.getElem_cons_succ, Act.put, List.setIfInBounds_toArray, List.set_cons_zero, List.set_cons_succ]
    refine wpAnyL_take (i := 29) (oi := { dst := some 110, op := _, type := _, pos := _, after := _, guard := _ }) (v := ?v29) rfl (by kernel_rfl) (by kernel_rfl) (by kernel_rfl) (by kernel_rfl) (fun _ _ _ h => h) (Or.inl ⟨by kernel_rfl, ?y29⟩) hHeld ?r29
    case y29 =>
      intro w hSw
      try dsimp only at hSw
      try simp only [List.getElem_toArray, List.getElem_cons_zero, List.getElem_cons_succ]
      go_simp
      try with_reducible rfl
    try simp only [List.getElem_toArray, List.getElem_cons_zero, List.getElem_cons_succ, Act.put, List.setIfInBounds_toArray, List.set_cons_zero, List.set_cons_succ]
    refine wpAnyL_take (i := 30) (oi := { dst := some 111, op := _, type := _, pos := _, after := _, guard := _ }) (v := ?v30) rfl (by kernel_rfl) (by kernel_rfl) (by kernel_rfl) (by kernel_rfl) (fun _ _ _ h => h) (Or.inl ⟨by kernel_rfl, ?y30⟩) hHeld ?r30
    case y30 =>
      intro w hSw
      try dsimp only at hSw
      try simp only [List.getElem_toArray, List.getElem_cons_zero, List.getElem_cons_succ]
      go_simp
      try with_reducible rfl
    try simp only [List.getElem_toArray, List.getElem_cons_zero, List.getElem_cons_succ, Act.put, List.setIfInBounds_toArray, List.set_cons_zero, List.set_cons_succ]
    refine wpAnyL_one (i := 31) (by kernel_rfl) rfl (fun K hK => ?_)
    try simp only [List.getElem_toArray, List.getElem_cons_zero, List.getElem_cons_succ]
    go_simp
    go_at_call 18
    refine (kC10.out _ hHeld.1.out).mono ?_
    rintro e Wn31 ⟨rfl, hbn⟩
    have hnew := Lib.hid (keep8 hbn hHeld)
    refine hK.out _ _ (fun _ => hnew.out) ?_
    have hHeld' := hnew.out
    clear hHeld hnew hK K hbn
    have hHeld := hHeld'
    clear hHeld'
    try simp only [List.getElem_toArray, List.getElem_cons_zero, List.getElem_cons_succ, Act.put, List.setIfInBounds_toArray, List.set_cons_zero, List.set_cons_succ]
    refine wpAnyL_take (i := 32) (oi := { dst := some 113, op := _, type := _, pos := _, after := _, guard := _ }) (v := ?v31) rfl (by kernel_rfl) (by kernel_rfl) (by kernel_rfl) (by kernel_rfl) (fun _ _ _ h => h) (Or.inl ⟨by kernel_rfl, ?y31⟩) hHeld ?r31
    case y31 =>
      intro w hSw
      try dsimp only at hSw
      try simp only [List.getElem_toArray, List.getElem_cons_zero, List.getElem_cons_succ]
      go_simp
      try with_reducible rfl
    try simp only [List.getElem_toArray, List.getElem_cons_zero, List.getElem_cons_succ, Act.put, List.setIfInBounds_toArray, List.set_cons_zero, List.set_cons_succ]
    refine wpAnyL_take (i := 33) (oi := { dst := some 114, op := _, type := _, pos := _, after := _, guard := _ }) (v := ?v32) rfl (by kernel_rfl) (by kernel_rfl) (by kernel_rfl) (by kernel_rfl) (fun _ _ _ h => h) (Or.inl ⟨by kernel_rfl, ?y32⟩) hHeld ?r32
    case y32 =>
      intro w hSw
      try dsimp only at hSw
      try simp only [List.getElem_toArray, List.getElem_cons_zero, List.getElem_cons_succ]
      go_simp
      try with_reducible rfl
    try simp only [List.getElem_toArray, List.getElem_cons_zero, List.getElem_cons_succ, Act.put, List.setIfInBounds_toArray, List.set_cons_zero, List.set_cons_succ]
    refine wpAnyL_take (i := 34) (oi := { dst := some 6, op := _, type := _, pos := _, after := _, guard := _ }) (v := ?v33) rfl (by kernel_rfl) (by kernel_rfl) (by kernel_rfl) (by kernel_rfl) (fun _ _ _ h => h) (Or.inl ⟨by kernel_rfl, ?y33⟩) hHeld ?r33
    case y33 =>
      intro w hSw
      try dsimp only at hSw
      try simp only [List.getElem_toArray, List.getElem_cons_zero, List.getElem_cons_succ]
      go_simp
      try with_reducible rfl
    try simp only [List.getElem_toArray, List.getElem_cons_zero, List.getElem_cons_succ, Act.put, List.setIfInBounds_toArray, List.set_cons_zero, List.set_cons_succ]
    refine wpAnyL_done (by kernel_rfl) (OnlyN.normal ?_) _
    go_wp2
    exact bodyPost_ret (v := .bool true) (by simp [results, Tryd.results3, go_sem]) rfl ⟨rfl, hB10'.out.trans (hHeld.1.out.mono hB10'.out.size)⟩
  | some x =>
    clear s0 hm hs
    go_enter Tryd.func3, Tryd.ntmps3
    go_wp2_with (first
      | (go_at_call 10; refine (kS.out).mono ?_; rintro e W1 ⟨rfl, hb1⟩; have hB1 := Lib.hid hb1; have kf := Lib.hid (few8_any W1 hp hh p0 h0))
      | (go_at_call 12; refine (kf.out).mono ?_; rintro e W2 ⟨rfl, hb2⟩; clear kf; have hB2 := Lib.hid (hB1.out.trans (hb2.mono hB1.out.size)); have kb := Lib.hid (kB.out _ hB2.out))
      | (go_at_call 11; refine (kb.out).mono ?_; rintro e W3 ⟨vE, vB, rfl, hE, hB, hb3⟩; clear kb; obtain ⟨pE, cE, rfl, -, -⟩ := Hid.out hE; obtain ⟨pB, cB, rfl, -, -⟩ := Hid.out hB; have q1 := Lib.hid (SBox.new W3 31 bb.n bb.least (.slice pE bb.ex.length cE) (.slice pB bb.bits.length cB)); have hA := (Below.refl _ W3).alloc (Nat.le_refl _) (.cells #[.int .i64 bb.n, .int .i64 bb.least, .slice pE bb.ex.length cE, .slice pB bb.bits.length cB] 31); have hbA := hb3.trans (hA.mono hb3.size); have hB3 := Lib.hid (hB2.out.trans (hbA.mono hB2.out.size)); have hE' := hE.later hA; have hB' := hB.later hA; have km := Lib.hid (kM.out _ hB3.out))
      | (go_at_call 13; refine (km.out).mono ?_; rintro e W4 ⟨vr, rfl, hr, hb4⟩; clear km; obtain ⟨pr, cr, rfl, -, -⟩ := Hid.out hr; have hA4 := (Below.refl _ W4).alloc (Nat.le_refl _) (.cells #[.slice pr rr.length cr] 28); have x4 := Lib.hid (RBox.new W4 (.slice pr rr.length cr)); have hbA4 := hb4.trans (hA4.mono hb4.size); have hB4 := Lib.hid (hB3.out.trans (hbA4.mono hB3.out.size)); have q4 := Lib.hid (q1.out.later hbA4); have hr4 := hr.later hA4; have hE4 := hE'.later hbA4; have hB44 := hB'.later hbA4; have y4 := x4.out.cell; have kfl := Lib.hid (kF.out _ _ hB4.out hr4))
      | (go_at_call 14; refine (kfl.out).mono ?_; rintro e W5 ⟨v5, rfl, ho, hb5⟩; clear kfl y4; obtain ⟨po, co, rfl, -, -⟩ := Hid.out ho; have hA5 := (Below.refl _ W5).alloc (Nat.le_refl _) (.cells #[.slice po oo.length co] 28); have o5 := Lib.hid (RBox.new W5 (.slice po oo.length co)); have hbA5 := hb5.trans (hA5.mono hb5.size); have hB5 := Lib.hid (hB4.out.trans (hbA5.mono hB4.out.size)); have q5 := Lib.hid (q4.out.later hbA5); have x5 := Lib.hid (x4.out.later hbA5); have hr5 := hr4.later hbA5; have ho5 := ho.later hA5; have hE5 := hE4.later hbA5; have hB55 := hB44.later hbA5; have ks := Lib.hid (kP.out _ hB5.out))
      | (go_at_call 15; refine (ks.out).mono ?_; rintro e W6 ⟨v6, rfl, hs, hb6⟩; clear ks; obtain ⟨pz, cz, rfl, -, -⟩ := Hid.out hs; have hA6 := (Below.refl _ W6).alloc (Nat.le_refl _) (.cells #[.slice pz ss.length cz] 28); have s6 := Lib.hid (RBox.new W6 (.slice pz ss.length cz)); have hbA6 := hb6.trans (hA6.mono hb6.size); have hB6 := Lib.hid (hB5.out.trans (hbA6.mono hB5.out.size)); have q6 := Lib.hid (q5.out.later hbA6); have x6 := Lib.hid (x5.out.later hbA6); have o6 := Lib.hid (o5.out.later hbA6); have hr6 := hr5.later hbA6; have ho6 := ho5.later hbA6; have hs6 := hs.later hA6; have hE6 := hE5.later hbA6; have hB66 := hB55.later hbA6; have c0 := q6.out.c0; have c1 := q6.out.c1; have c2 := q6.out.c2; have c3 := q6.out.c3; have y1 := x6.out.cell; have k1 := Lib.hid (kS1.out _ _ _ _ hB6.out hE6 hB66 hr6))
      | (go_at_call 16; refine (k1.out).mono ?_; rintro e W7 ⟨rfl, hb7⟩; clear k1 c0 c1 c2 c3 y1; have hA7 := (Below.refl _ W7).alloc (Nat.le_refl _) (.cells #[.int .i64 (hiW zr), .int .u64 (loW zr)] 43); have w7 := Lib.hid (WBox.new W7 zr); have hbA7 := hb7.trans (hA7.mono hb7.size); have hB7 := Lib.hid (hB6.out.trans (hbA7.mono hB6.out.size)); have q7 := Lib.hid (q6.out.later hbA7); have o7 := Lib.hid (o6.out.later hbA7); have s7 := Lib.hid (s6.out.later hbA7); have ho7 := ho6.later hbA7; have hs7 := hs6.later hbA7; have hE7 := hE6.later hbA7; have hB77 := hB66.later hbA7; have c0 := q7.out.c0; have c1 := q7.out.c1; have c2 := q7.out.c2; have c3 := q7.out.c3; have y1 := o7.out.cell; have k2 := Lib.hid (kS2.out _ _ _ _ hB7.out hE7 hB77 ho7))
      | (go_at_call 16; refine (k2.out).mono ?_; rintro e W8 ⟨rfl, hb8⟩; clear k2 c0 c1 c2 c3 y1; have hA8 := (Below.refl _ W8).alloc (Nat.le_refl _) (.cells #[.int .i64 (hiW zo), .int .u64 (loW zo)] 43); have w8 := Lib.hid (WBox.new W8 zo); have hbA8 := hb8.trans (hA8.mono hb8.size); have hB8 := Lib.hid (hB7.out.trans (hbA8.mono hB7.out.size)); have q8 := Lib.hid (q7.out.later hbA8); have v8 := Lib.hid (w7.out.later hbA8); have s8 := Lib.hid (s7.out.later hbA8); have hs8 := hs7.later hbA8; have hE8 := hE7.later hbA8; have hB88 := hB77.later hbA8; have c0 := q8.out.c0; have c1 := q8.out.c1; have c2 := q8.out.c2; have c3 := q8.out.c3; have y1 := s8.out.cell; have k3 := Lib.hid (kS3.out _ _ _ _ hB8.out hE8 hB88 hs8))
      | (go_at_call 16; refine (k3.out).mono ?_; rintro e W9 ⟨rfl, hb9⟩; clear k3 c0 c1 c2 c3 y1; have hA9 := (Below.refl _ W9).alloc (Nat.le_refl _) (.cells #[.int .i64 (hiW (zr + zo)), .int .u64 (loW (zr + zo))] 43); have w9 := Lib.hid (WBox.new W9 (zr + zo)); have hbA9 := hb9.trans (hA9.mono hb9.size); have hB9 := Lib.hid (hB8.out.trans (hbA9.mono hB8.out.size)); have q9 := Lib.hid (q8.out.later hbA9); have v9 := Lib.hid (v8.out.later hbA9); have u9 := Lib.hid (w8.out.later hbA9); have hE9 := hE8.later hbA9))
    have hB10 := hB9.out
    have a0 := v9.out.c0
    have a1 := v9.out.c1
    have a2 := u9.out.c0
    have a3 := u9.out.c1
    have a4 := w9.out.c0
    have a5 := w9.out.c1
    have a6 := q9.out.c2
    clear hb1 hb2 hb3 hb4 hb5 hb6 hb7 hb8 hb9 hA hA4 hA5 hA6 hA7 hA8 hA9 hbA hbA4 hbA5 hbA6 hbA7 hbA8 hbA9 w9 w8 w7 v8 v9 u9 q9 q8 q7 q6 q5 q4 q1 x4 x5 x6 o5 o6 o7 s6 s7 s8 hB1 hB2 hB3 hB4 hB5 hB6 hB7 hB8 hB9 hE hE' hE4 hE5 hE6 hE7 hE8 hr hr4 hr5 hr6 ho ho5 ho6 ho7 hs hs6 hs7 hs8 hB hB' hB44 hB55 hB66 hB77 hB88 kS kB kM kF kP kS1 kS2 kS3
    generalize W9.alloc (.cells #[.int .i64 (hiW (zr + zo)), .int .u64 (loW (zr + zo))] 43) = W10 at *
    generalize W9.heap.size = b9 at *
    generalize W8.heap.size = b8 at *
    generalize W7.heap.size = b7 at *
    generalize W3.heap.size = b3 at *
    have kC10 := Lib.hid (fun (W : World) (h : Below W10.heap.size W10 W) => kC.out _ _ (hB10.trans (h.mono hB10.size)) (hE9.later h))
    have hB10' := Lib.hid hB10
    have hMd : (fun W' : World => Hid (Below W10.heap.size W10 W') ∧ W'.cell? ⟨b7, 0, none⟩ = some (.int .i64 (hiW zr)) ∧ W'.cell? ⟨b7, 1, none⟩ = some (.int .u64 (loW zr)) ∧ W'.cell? ⟨b8, 0, none⟩ = some (.int .i64 (hiW zo)) ∧ W'.cell? ⟨b8, 1, none⟩ = some (.int .u64 (loW zo)) ∧ W'.cell? ⟨b9, 0, none⟩ = some (.int .i64 (hiW (zr + zo))) ∧ W'.cell? ⟨b9, 1, none⟩ = some (.int .u64 (loW (zr + zo))) ∧ W'.cell? ⟨b3, 2, none⟩ = some (.slice pE bb.ex.length cE)) W10.drew := ⟨Lib.hid (Below.refl _ W10).drew, a0, a1, a2, a3, a4, a5, a6⟩
    clear hB10 hE9 kC a0 a1 a2 a3 a4 a5 a6
    refine region_late (S := (fun W' : World => Hid (Below W10.heap.size W10 W') ∧ W'.cell? ⟨b7, 0, none⟩ = some (.int .i64 (hiW zr)) ∧ W'.cell? ⟨b7, 1, none⟩ = some (.int .u64 (loW zr)) ∧ W'.cell? ⟨b8, 0, none⟩ = some (.int .i64 (hiW zo)) ∧ W'.cell? ⟨b8, 1, none⟩ = some (.int .u64 (loW zo)) ∧ W'.cell? ⟨b9, 0, none⟩ = some (.int .i64 (hiW (zr + zo))) ∧ W'.cell? ⟨b9, 1, none⟩ = some (.int .u64 (loW (zr + zo))) ∧ W'.cell? ⟨b3, 2, none⟩ = some (.slice pE bb.ex.length cE))) (fun n => n == 999) (by kernel_rfl) hMd (fun hHeld => ?_)
    clear hMd
    generalize World.drew W10 = Wd at *
    refine wpAnyL_take (i := 0) (oi := { dst := some 81, op := _, type := _, pos := _, after := _, guard := _ }) (v := ?v34) rfl (by kernel_rfl) (by kernel_rfl) (by kernel_rfl) (by kernel_rfl) (fun _ _ _ h => h) (Or.inl ⟨by kernel_rfl, ?y34⟩) hHeld ?r34
    case y34 =>
      intro w hSw
      try dsimp only at hSw
      try simp only [List.getElem_toArray, List.getElem_cons_zero, List.getElem_cons_succ]
      go_simp
      try with_reducible rfl
    try simp only [List.getElem_toArray, List.getElem_cons_zero, List.getElem_cons_succ, Act.put, List.setIfInBounds_toArray, List.set_cons_zero, List.set_cons_succ]
    refine wpAnyL_take (i := 1) (oi := { dst := some 82, op := _, type := _, pos := _, after := _, guard := _ }) (v := ?v35) rfl (by kernel_rfl) (by kernel_rfl) (by kernel_rfl) (by kernel_rfl) (fun _ _ _ h => h) (Or.inl ⟨by kernel_rfl, ?y35⟩) hHeld ?r35
    case y35 =>
      intro w hSw
      try dsimp only at hSw
      try simp only [List.getElem_toArray, List.getElem_cons_zero, List.getElem_cons_succ]
      go_simp
      try with_reducible rfl
    try simp only [List.getElem_toArray, List.getElem_cons_zero, List.getElem_cons_succ, Act.put, List.setIfInBounds_toArray, List.set_cons_zero, List.set_cons_succ]
    refine wpAnyL_take (i := 2) (oi := { dst := some 83, op := _, type := _, pos := _, after := _, guard := _ }) (v := ?v36) rfl (by kernel_rfl) (by kernel_rfl) (by kernel_rfl) (by kernel_rfl) (fun _ _ _ h => h) (Or.inl ⟨by kernel_rfl, ?y36⟩) hHeld ?r36
    case y36 =>
      intro w hSw
      try dsimp only at hSw
      try simp only [List.getElem_toArray, List.getElem_cons_zero, List.getElem_cons_succ]
      go_simp
      try with_reducible rfl
    try simp only [List.getElem_toArray, List.getElem_cons_zero, List.getElem_cons_succ, Act.put, List.setIfInBounds_toArray, List.set_cons_zero, List.set_cons_succ]
    refine wpAnyL_take (i := 3) (oi := { dst := some 84, op := _, type := _, pos := _, after := _, guard := _ }) (v := ?v37) rfl (by kernel_rfl) (by kernel_rfl) (by kernel_rfl) (by kernel_rfl) (fun _ _ _ h => h) (Or.inl ⟨by kernel_rfl, ?y37⟩) hHeld ?r37
    case y37 =>
      intro w hSw
      try dsimp only at hSw
      try simp only [List.getElem_toArray, List.getElem_cons_zero, List.getElem_cons_succ]
      go_simp
      try with_reducible rfl
    try simp only [List.getElem_toArray, List.getElem_cons_zero, List.getElem_cons_succ, Act.put, List.setIfInBounds_toArray, List.set_cons_zero, List.set_cons_succ]
    refine wpAnyL_take (i := 4) (oi := { dst := some 85, op := _, type := _, pos := _, after := _, guard := _ }) (v := ?v38) rfl (by kernel_rfl) (by kernel_rfl) (by kernel_rfl) (by kernel_rfl) (fun _ _ _ h => h) (Or.inl ⟨by kernel_rfl, ?y38⟩) hHeld ?r38
    case y38 =>
      intro w hSw
      try dsimp only at hSw
      try simp only [List.getElem_toArray, List.getElem_cons_zero, List.getElem_cons_succ]
      go_simp
      try with_reducible rfl
    try simp only [List.getElem_toArray, List.getElem_cons_zero, List.getElem_cons_succ, Act.put, List.setIfInBounds_toArray, List.set_cons_zero, List.set_cons_succ]
    refine wpAnyL_take (i := 5) (oi := { dst := some 86, op := _, type := _, pos := _, after := _, guard := _ }) (v := ?v39) rfl (by kernel_rfl) (by kernel_rfl) (by kernel_rfl) (by kernel_rfl) (fun _ _ _ h => h) (Or.inl ⟨by kernel_rfl, ?y39⟩) hHeld ?r39
    case y39 =>
      intro w hSw
      try dsimp only at hSw
      try simp only [List.getElem_toArray, List.getElem_cons_zero, List.getElem_cons_succ]
      go_simp
      try with_reducible rfl
    try simp only [List.getElem_toArray, List.getElem_cons_zero, List.getElem_cons_succ, Act.put, List.setIfInBounds_toArray, List.set_cons_zero, List.set_cons_succ]
    refine wpAnyL_take (i := 6) (oi := { dst := some 87, op := _, type := _, pos := _, after := _, guard := _ }) (v := ?v40) rfl (by kernel_rfl) (by kernel_rfl) (by kernel_rfl) (by kernel_rfl) (fun _ _ _ h => h) (Or.inl ⟨by kernel_rfl, ?y40⟩) hHeld ?r40
    case y40 =>
      intro w hSw
      try dsimp only at hSw
      try simp only [List.getElem_toArray, List.getElem_cons_zero, List.getElem_cons_succ]
      go_simp
      try with_reducible rfl
    try simp only [List.getElem_toArray, List.getElem_cons_zero, List.getElem_cons_succ, Act.put, List.setIfInBounds_toArray, List.set_cons_zero, List.set_cons_succ]
    refine wpAnyL_take (i := 7) (oi := { dst := some 88, op := _, type := _, pos := _, after := _, guard := _ }) (v := ?v41) rfl (by kernel_rfl) (by kernel_rfl) (by kernel_rfl) (by kernel_rfl) (fun _ _ _ h => h) (Or.inl ⟨by kernel_rfl, ?y41⟩) hHeld ?r41
    case y41 =>
      intro w hSw
      try dsimp only at hSw
      try simp only [List.getElem_toArray, List.getElem_cons_zero, List.getElem_cons_succ]
      go_simp
      try with_reducible rfl
    try simp only [List.getElem_toArray, List.getElem_cons_zero, List.getElem_cons_succ, Act.put, List.setIfInBounds_toArray, List.set_cons_zero, List.set_cons_succ]
    refine wpAnyL_take (i := 8) (oi := { dst := some 89, op := _, type := _, pos := _, after := _, guard := _ }) (v := ?v42) rfl (by kernel_rfl) (by kernel_rfl) (by kernel_rfl) (by kernel_rfl) (fun _ _ _ h => h) (Or.inl ⟨by kernel_rfl, ?y42⟩) hHeld ?r42
    case y42 =>
      intro w hSw
      try dsimp only at hSw
      try simp only [List.getElem_toArray, List.getElem_cons_zero, List.getElem_cons_succ]
      go_simp
      try with_reducible rfl
    try simp only [List.getElem_toArray, List.getElem_cons_zero, List.getElem_cons_succ, Act.put, List.setIfInBounds_toArray, List.set_cons_zero, List.set_cons_succ]
    refine wpAnyL_take (i := 9) (oi := { dst := some 90, op := _, type := _, pos := _, after := _, guard := _ }) (v := ?v43) rfl (by kernel_rfl) (by kernel_rfl) (by kernel_rfl) (by kernel_rfl) (fun _ _ _ h => h) (Or.inl ⟨by kernel_rfl, ?y43⟩) hHeld ?r43
    case y43 =>
      intro w hSw
      try dsimp only at hSw
      try simp only [List.getElem_toArray, List.getElem_cons_zero, List.getElem_cons_succ]
      go_simp
      try with_reducible rfl
    try simp only [List.getElem_toArray, List.getElem_cons_zero, List.getElem_cons_succ, Act.put, List.setIfInBounds_toArray, List.set_cons_zero, List.set_cons_succ]
    refine wpAnyL_take (i := 10) (oi := { dst := some 91, op := _, type := _, pos := _, after := _, guard := _ }) (v := ?v44) rfl (by kernel_rfl) (by kernel_rfl) (by kernel_rfl) (by kernel_rfl) (fun _ _ _ h => h) (Or.inl ⟨by kernel_rfl, ?y44⟩) hHeld ?r44
    case y44 =>
      intro w hSw
      try dsimp only at hSw
      try simp only [List.getElem_toArray, List.getElem_cons_zero, List.getElem_cons_succ]
      go_simp
      try with_reducible rfl
    try simp only [List.getElem_toArray, List.getElem_cons_zero, List.getElem_cons_succ, Act.put, List.setIfInBounds_toArray, List.set_cons_zero, List.set_cons_succ]
    refine wpAnyL_take (i := 11) (oi := { dst := some 92, op := _, type := _, pos := _, after := _, guard := _ }) (v := ?v45) rfl (by kernel_rfl) (by kernel_rfl) (by kernel_rfl) (by kernel_rfl) (fun _ _ _ h => h) (Or.inl ⟨by kernel_rfl, ?y45⟩) hHeld ?r45
    case y45 =>
      intro w hSw
      try dsimp only at hSw
      try simp only [List.getElem_toArray, List.getElem_cons_zero, List.getElem_cons_succ]
      go_simp
      try with_reducible rfl
    try simp only [List.getElem_toArray, List.getElem_cons_zero, List.getElem_cons_succ, Act.put, List.setIfInBounds_toArray, List.set_cons_zero, List.set_cons_succ]
    refine wpAnyL_take (i := 12) (oi := { dst := some 93, op := _, type := _, pos := _, after := _, guard := _ }) (v := ?v46) rfl (by kernel_rfl) (by kernel_rfl) (by kernel_rfl) (by kernel_rfl) (fun _ _ _ h => h) (Or.inl ⟨by kernel_rfl, ?y46⟩) hHeld ?r46
    case y46 =>
      intro w hSw
      try dsimp only at hSw
      try simp only [List.getElem_toArray, List.getElem_cons_zero, List.getElem_cons_succ]
      go_simp
      try with_reducible rfl
    try simp only [List.getElem_toArray, List.getElem_cons_zero, List.getElem_cons_succ, Act.put, List.setIfInBounds_toArray, List.set_cons_zero, List.set_cons_succ]
    refine wpAnyL_take (i := 13) (oi := { dst := some 94, op := _, type := _, pos := _, after := _, guard := _ }) (v := ?v47) rfl (by kernel_rfl) (by kernel_rfl) (by kernel_rfl) (by kernel_rfl) (fun _ _ _ h => h) (Or.inl ⟨by kernel_rfl, ?y47⟩) hHeld ?r47
    case y47 =>
      intro w hSw
      try dsimp only at hSw
      try simp only [List.getElem_toArray, List.getElem_cons_zero, List.getElem_cons_succ]
      go_simp
      try with_reducible rfl
    try simp only [List.getElem_toArray, List.getElem_cons_zero, List.getElem_cons_succ, Act.put, List.setIfInBounds_toArray, List.set_cons_zero, List.set_cons_succ]
    refine wpAnyL_take (i := 14) (oi := { dst := some 95, op := _, type := _, pos := _, after := _, guard := _ }) (v := ?v48) rfl (by kernel_rfl) (by kernel_rfl) (by kernel_rfl) (by kernel_rfl) (fun _ _ _ h => h) (Or.inl ⟨by kernel_rfl, ?y48⟩) hHeld ?r48
    case y48 =>
      intro w hSw
      try dsimp only at hSw
      try simp only [List.getElem_toArray, List.getElem_cons_zero, List.getElem_cons_succ]
      go_simp
      try with_reducible rfl
    try simp only [List.getElem_toArray, List.getElem_cons_zero, List.getElem_cons_succ, Act.put, List.setIfInBounds_toArray, List.set_cons_zero, List.set_cons_succ]
    refine wpAnyL_take (i := 15) (oi := { dst := some 96, op := _, type := _, pos := _, after := _, guard := _ }) (v := ?v49) rfl (by kernel_rfl) (by kernel_rfl) (by kernel_rfl) (by kernel_rfl) (fun _ _ _ h => h) (Or.inl ⟨by kernel_rfl, ?y49⟩) hHeld ?r49
    case y49 =>
      intro w hSw
      try dsimp only at hSw
      try simp only [List.getElem_toArray, List.getElem_cons_zero, List.getElem_cons_succ]
      go_simp
      try with_reducible rfl
    try simp only [List.getElem_toArray, List.getElem_cons_zero, List.getElem_cons_succ, Act.put, List.setIfInBounds_toArray, List.set_cons_zero, List.set_cons_succ]
    refine wpAnyL_take (i := 17) (oi := { dst := some 98, op := _, type := _, pos := _, after := _, guard := _ }) (v := ?v50) rfl (by kernel_rfl) (by kernel_rfl) (by kernel_rfl) (by kernel_rfl) (fun _ _ _ h => h) (Or.inl ⟨by kernel_rfl, ?y50⟩) hHeld ?r50
    case y50 =>
      intro w hSw
      try dsimp only at hSw
      try simp only [List.getElem_toArray, List.getElem_cons_zero, List.getElem_cons_succ]
      go_simp
      try with_reducible rfl
    try simp only [List.getElem_toArray, List.getElem_cons_zero, List.getElem_cons_succ, Act.put, List.setIfInBounds_toArray, List.set_cons_zero, List.set_cons_succ]
    refine wpAnyL_one (i := 16) (by kernel_rfl) rfl (fun K hK => ?_)
    try simp only [List.getElem_toArray, List.getElem_cons_zero, List.getElem_cons_succ]
    go_simp
    go_at_call 17
    refine (kA.out _).mono ?_
    rintro e Wn16 ⟨rfl, hbn⟩
    have hnew := Lib.hid (keep8 hbn hHeld)
    refine hK.out _ _ (fun _ => hnew.out) ?_
    have hHeld' := hnew.out
    clear hHeld hnew hK K hbn
    have hHeld := hHeld'
    clear hHeld'
    try simp only [List.getElem_toArray, List.getElem_cons_zero, List.getElem_cons_succ, Act.put, List.setIfInBounds_toArray, List.set_cons_zero, List.set_cons_succ]
    refine wpAnyL_take (i := 18) (oi := { dst := some 99, op := _, type := _, pos := _, after := _, guard := _ }) (v := ?v51) rfl (by kernel_rfl) (by kernel_rfl) (by kernel_rfl) (by kernel_rfl) (fun _ _ _ h => h) (Or.inl ⟨by kernel_rfl, ?y51⟩) hHeld ?r51
    case y51 =>
      intro w hSw
      try dsimp only at hSw
      try simp only [List.getElem_toArray, List.getElem_cons_zero, List.getElem_cons_succ]
      go_simp
      try with_reducible rfl
    try simp only [List.getElem_toArray, List.getElem_cons_zero, List.getElem_cons_succ, Act.put, List.setIfInBounds_toArray, List.set_cons_zero, List.set_cons_succ]
    refine wpAnyL_take (i := 19) (oi := { dst := some 100, op := _, type := _, pos := _, after := _, guard := _ }) (v := ?v52) rfl (by kernel_rfl) (by kernel_rfl) (by kernel_rfl) (by kernel_rfl) (fun _ _ _ h => h) (Or.inl ⟨by kernel_rfl, ?y52⟩) hHeld ?r52
    case y52 =>
      intro w hSw
      try dsimp only at hSw
      try simp only [List.getElem_toArray, List.getElem_cons_zero, List.getElem_cons_succ]
      go_simp
      try with_reducible rfl
    try simp only [List.getElem_toArray, List.getElem_cons_zero, List.getElem_cons_succ, Act.put, List.setIfInBounds_toArray, List.set_cons_zero, List.set_cons_succ]
    refine wpAnyL_take (i := 20) (oi := { dst := some 101, op := _, type := _, pos := _, after := _, guard := _ }) (v := ?v53) rfl (by kernel_rfl) (by kernel_rfl) (by kernel_rfl) (by kernel_rfl) (fun _ _ _ h => h) (Or.inl ⟨by kernel_rfl, ?y53⟩) hHeld ?r53
    case y53 =>
      intro w hSw
      try dsimp only at hSw
      try simp only [List.getElem_toArray, List.getElem_cons_zero, List.getElem_cons_succ]
      go_simp
      try with_reducible rfl
    try simp only [List.getElem_toArray, List.getElem_cons_zero, List.getElem_cons_succ, Act.put, List.setIfInBounds_toArray, List.set_cons_zero, List.set_cons_succ]
    refine wpAnyL_take (i := 21) (oi := { dst := some 102, op := _, type := _, pos := _, after := _, guard := _ }) (v := ?v54) rfl (by kernel_rfl) (by kernel_rfl) (by kernel_rfl) (by kernel_rfl) (fun _ _ _ h => h) (Or.inl ⟨by kernel_rfl, ?y54⟩) hHeld ?r54
    case y54 =>
      intro w hSw
      try dsimp only at hSw
      try simp only [List.getElem_toArray, List.getElem_cons_zero, List.getElem_cons_succ]
      go_simp
      try with_reducible rfl
    try simp only [List.getElem_toArray, List.getElem_cons_zero, List.getElem_cons_succ, Act.put, List.setIfInBounds_toArray, List.set_cons_zero, List.set_cons_succ]
    refine wpAnyL_take (i := 22) (oi := { dst := some 103, op := _, type := _, pos := _, after := _, guard := _ }) (v := ?v55) rfl (by kernel_rfl) (by kernel_rfl) (by kernel_rfl) (by kernel_rfl) (fun _ _ _ h => h) (Or.inl ⟨by kernel_rfl, ?y55⟩) hHeld ?r55
    case y55 =>
      intro w hSw
      try dsimp only at hSw
      try simp only [List.getElem_toArray, List.getElem_cons_zero, List.getElem_cons_succ]
      go_simp
      try with_reducible rfl
    try simp only [List.getElem_toArray, List.getElem_cons_zero, List.getElem_cons_succ, Act.put, List.setIfInBounds_toArray, List.set_cons_zero, List.set_cons_succ]
    refine wpAnyL_take (i := 23) (oi := { dst := some 104, op := _, type := _, pos := _, after := _, guard := _ }) (v := ?v56) rfl (by kernel_rfl) (by kernel_rfl) (by kernel_rfl) (by kernel_rfl) (fun _ _ _ h => h) (Or.inl ⟨by kernel_rfl, ?y56⟩) hHeld ?r56
    case y56 =>
      intro w hSw
      try dsimp only at hSw
      try simp only [List.getElem_toArray, List.getElem_cons_zero, List.getElem_cons_succ]
      go_simp
      try with_reducible rfl
    try simp only [List.getElem_toArray, List.getElem_cons_zero, List.getElem_cons_succ, Act.put, List.setIfInBounds_toArray, List.set_cons_zero, List.set_cons_succ]
    refine wpAnyL_take (i := 24) (oi := { dst := some 105, op := _, type := _, pos := _, after := _, guard := _ }) (v := ?v57) rfl (by kernel_rfl) (by kernel_rfl) (by kernel_rfl) (by kernel_rfl) (fun _ _ _ h => h) (Or.inl ⟨by kernel_rfl, ?y57⟩) hHeld ?r57
    case y57 =>
      intro w hSw
      try dsimp only at hSw
      try simp only [List.getElem_toArray, List.getElem_cons_zero, List.getElem_cons_succ]
      go_simp
      try with_reducible rfl
    try simp only [List.getElem_toArray, List.getElem_cons_zero, List.getElem_cons_succ, Act.put, List.setIfInBounds_toArray, List.set_cons_zero, List.set_cons_succ]
    refine wpAnyL_take (i := 25) (oi := { dst := some 106, op := _, type := _, pos := _, after := _, guard := _ }) (v := ?v58) rfl (by kernel_rfl) (by kernel_rfl) (by kernel_rfl) (by kernel_rfl) (fun _ _ _ h => h) (Or.inl ⟨by kernel_rfl, ?y58⟩) hHeld ?r58
    case y58 =>
      intro w hSw
      try dsimp only at hSw
      try simp only [List.getElem_toArray, List.getElem_cons_zero, List.getElem_cons_succ]
      go_simp
      try with_reducible rfl
    try simp only [List.getElem_toArray, List.getElem_cons_zero, List.getElem_cons_succ, Act.put, List.setIfInBounds_toArray, List.set_cons_zero, List.set_cons_succ]
    refine wpAnyL_take (i := 26) (oi := { dst := some 107, op := _, type := _, pos := _, after := _, guard := _ }) (v := ?v59) rfl (by kernel_rfl) (by kernel_rfl) (by kernel_rfl) (by kernel_rfl) (fun _ _ _ h => h) (Or.inl ⟨by kernel_rfl, ?y59⟩) hHeld ?r59
    case y59 =>
      intro w hSw
      try dsimp only at hSw
      try simp only [List.getElem_toArray, List.getElem_cons_zero, List.getElem_cons_succ]
      go_simp
      try with_reducible rfl
    try simp only [List.getElem_toArray, List.getElem_cons_zero, List.getElem_cons_succ, Act.put, List.setIfInBounds_toArray, List.set_cons_zero, List.set_cons_succ]
    refine wpAnyL_take (i := 27) (oi := { dst := some 108, op := _, type := _, pos := _, after := _, guard := _ }) (v := ?v60) rfl (by kernel_rfl) (by kernel_rfl) (by kernel_rfl) (by kernel_rfl) (fun _ _ _ h => h) (Or.inl ⟨by kernel_rfl, ?y60⟩) hHeld ?r60
    case y60 =>
      intro w hSw
      try dsimp only at hSw
      try simp only [List.getElem_toArray, List.getElem_cons_zero, List.getElem_cons_succ]
      go_simp
      try with_reducible rfl
    try simp only [List.getElem_toArray, List.getElem_cons_zero, List.getElem_cons_succ, Act.put, List.setIfInBounds_toArray, List.set_cons_zero, List.set_cons_succ]
    refine wpAnyL_take (i := 28) (oi := { dst := some 109, op := _, type := _, pos := _, after := _, guard := _ }) (v := ?v61) rfl (by kernel_rfl) (by kernel_rfl) (by kernel_rfl) (by kernel_rfl) (fun _ _ _ h => h) (Or.inl ⟨by kernel_rfl, ?y61⟩) hHeld ?r61
    case y61 =>
      intro w hSw
      try dsimp only at hSw
      try simp only [List.getElem_toArray, List.getElem_cons_zero, List.getElem_cons_succ]
      go_simp
      try with_reducible rfl
    try simp only [List.getElem_toArray, List.getElem_cons_zero, List.getElem_cons_succ, Act.put, List.setIfInBounds_toArray, List.set_cons_zero, List.set_cons_succ]
    refine wpAnyL_take (i := 29) (oi := { dst := some 110, op := _, type := _, pos := _, after := _, guard := _ }) (v := ?v62) rfl (by kernel_rfl) (by kernel_rfl) (by kernel_rfl) (by kernel_rfl) (fun _ _ _ h => h) (Or.inl ⟨by kernel_rfl, ?y62⟩) hHeld ?r62
    case y62 =>
      intro w hSw
      try dsimp only at hSw
      try simp only [List.getElem_toArray, List.getElem_cons_zero, List.getElem_cons_succ]
      go_simp
      try with_reducible rfl
    try simp only [List.getElem_toArray, List.getElem_cons_zero, List.getElem_cons_succ, Act.put, List.setIfInBounds_toArray, List.set_cons_zero, List.set_cons_succ]
    refine wpAnyL_take (i := 30) (oi := { dst := some 111, op := _, type := _, pos := _, after := _, guard := _ }) (v := ?v63) rfl (by kernel_rfl) (by kernel_rfl) (by kernel_rfl) (by kernel_rfl) (fun _ _ _ h => h) (Or.inl ⟨by kernel_rfl, ?y63⟩) hHeld ?r63
    case y63 =>
      intro w hSw
      try dsimp only at hSw
      try simp only [List.getElem_toArray, List.getElem_cons_zero, List.getElem_cons_succ]
      go_simp
      try with_reducible rfl
    try simp only [List.getElem_toArray, List.getElem_cons_zero, List.getElem_cons_succ, Act.put, List.setIfInBounds_toArray, List.set_cons_zero, List.set_cons_succ]
    refine wpAnyL_one (i := 31) (by kernel_rfl) rfl (fun K hK => ?_)
    try simp only [List.getElem_toArray, List.getElem_cons_zero, List.getElem_cons_succ]
    go_simp
    go_at_call 18
    refine (kC10.out _ hHeld.1.out).mono ?_
    rintro e Wn31 ⟨rfl, hbn⟩
    have hnew := Lib.hid (keep8 hbn hHeld)
    refine hK.out _ _ (fun _ => hnew.out) ?_
    have hHeld' := hnew.out
    clear hHeld hnew hK K hbn
    have hHeld := hHeld'
    clear hHeld'
    try simp only [List.getElem_toArray, List.getElem_cons_zero, List.getElem_cons_succ, Act.put, List.setIfInBounds_toArray, List.set_cons_zero, List.set_cons_succ]
    refine wpAnyL_take (i := 32) (oi := { dst := some 113, op := _, type := _, pos := _, after := _, guard := _ }) (v := ?v64) rfl (by kernel_rfl) (by kernel_rfl) (by kernel_rfl) (by kernel_rfl) (fun _ _ _ h => h) (Or.inl ⟨by kernel_rfl, ?y64⟩) hHeld ?r64
    case y64 =>
      intro w hSw
      try dsimp only at hSw
      try simp only [List.getElem_toArray, List.getElem_cons_zero, List.getElem_cons_succ]
      go_simp
      try with_reducible rfl
    try simp only [List.getElem_toArray, List.getElem_cons_zero, List.getElem_cons_succ, Act.put, List.setIfInBounds_toArray, List.set_cons_zero, List.set_cons_succ]
    refine wpAnyL_take (i := 33) (oi := { dst := some 114, op := _, type := _, pos := _, after := _, guard := _ }) (v := ?v65) rfl (by kernel_rfl) (by kernel_rfl) (by kernel_rfl) (by kernel_rfl) (fun _ _ _ h => h) (Or.inl ⟨by kernel_rfl, ?y65⟩) hHeld ?r65
    case y65 =>
      intro w hSw
      try dsimp only at hSw
      try simp only [List.getElem_toArray, List.getElem_cons_zero, List.getElem_cons_succ]
      go_simp
      try with_reducible rfl
    try simp only [List.getElem_toArray, List.getElem_cons_zero, List.getElem_cons_succ, Act.put, List.setIfInBounds_toArray, List.set_cons_zero, List.set_cons_succ]
    refine wpAnyL_take (i := 34) (oi := { dst := some 6, op := _, type := _, pos := _, after := _, guard := _ }) (v := ?v66) rfl (by kernel_rfl) (by kernel_rfl) (by kernel_rfl) (by kernel_rfl) (fun _ _ _ h => h) (Or.inl ⟨by kernel_rfl, ?y66⟩) hHeld ?r66
    case y66 =>
      intro w hSw
      try dsimp only at hSw
      try simp only [List.getElem_toArray, List.getElem_cons_zero, List.getElem_cons_succ]
      go_simp
      try with_reducible rfl
    try simp only [List.getElem_toArray, List.getElem_cons_zero, List.getElem_cons_succ, Act.put, List.setIfInBounds_toArray, List.set_cons_zero, List.set_cons_succ]
    refine wpAnyL_done (by kernel_rfl) (OnlyN.normal ?_) _
    go_wp2
    exact bodyPost_ret (v := .bool true) (by simp [results, Tryd.results3, go_sem]) rfl ⟨rfl, hB10'.out.trans (hHeld.1.out.mono hB10'.out.size)⟩
end Go.Proofs.YtnigpmbpipmgfaaDoor

/-
  BsiHalves: whatever the input, true.
-/
namespace Go.Proofs.YtnigpmbpipmgfaaDoor
open Go.RowKit Tess

theorem vI_take {l : List Int} (h : ∀ i, -9223372036854775808 ≤ vI l i ∧ vI l i ≤ 9223372036854775807) (k : Nat) : ∀ i, -9223372036854775808 ≤ vI (l.take k) i ∧ vI (l.take k) i ≤ 9223372036854775807 := by
  intro i
  by_cases hi : i < k
  · have e : vI (l.take k) i = vI l i := by unfold vI; rw [List.getElem?_take_of_lt hi]
    rw [e]; exact h i
  · have e : vI (l.take k) i = 0 := by
      unfold vI
      rw [List.getElem?_eq_none (by rw [List.length_take]; omega)]; rfl
    rw [e]; omega
theorem halves8_any {p ph ps : Option Addr} {c ch cs : Nat} {l : List Int} {hs : List Bool} {zs : List Int} {w : World} (hl : Ints w.heap.size w (.slice p l.length c) l) (hb : BoolsAt w.heap.size w (.slice ph hs.length ch) hs) (hz : Ints w.heap.size w (.slice ps zs.length cs) zs)
    (hp : l.length ≤ c) (hh : hs.length ≤ ch) (hc : zs.length ≤ cs) (p0 : p = none → l.length = 0 ∧ c = 0) (h0 : ph = none → hs.length = 0 ∧ ch = 0) (s0 : ps = none → zs.length = 0 ∧ cs = 0) (hrg : ∀ i, -9223372036854775808 ≤ vI l i ∧ vI l i ≤ 9223372036854775807) (hT : Tab w) :
    Calls Tryd.prog 3 #[.slice p l.length c, .slice ph hs.length ch, .slice ps zs.length cs] w fun e W' => e = .returned (.bool true) ∧ Below w.heap.size w W' := by
  have hl' := ints_take hl 200
  have hb' := bools_take hb 200
  have hz' := ints_take hz 300
  have hrg' := vI_take hrg 200
  have hzl : (zs.take 300).length ≤ 1000000 := by rw [List.length_take]; omega
  obtain ⟨m, hm⟩ : ∃ m, min zs.length 300 = m := ⟨_, rfl⟩
  rw [hm] at hz'
  generalize hlq : l.take 200 = lq at *
  generalize hhq : hs.take 200 = hq at *
  generalize hzq : zs.take 300 = zq at *
  have kS := Lib.hid (shown8_any w hT)
  have kB : Hid (∀ W : World, Below w.heap.size w W → Calls Tryd.prog 11 #[.slice p (min l.length 200) c, .slice ph (min hs.length 200) ch] W fun e W' => ∃ vE vB, e = .returned (.tuple #[.agg #[.int .i64 (buildB lq hq).1.n, .int .i64 (buildB lq hq).1.least, vE, vB], .int .i64 (buildB lq hq).2]) ∧ HC W' vE (buildB lq hq).1.ex ∧ HR W' vB (buildB lq hq).1.bits ∧ Below W.heap.size W W') := fun W h =>
    build_any ((hl'.below h (Nat.le_refl _)).more h.size) ((hb'.below h (Nat.le_refl _)).more h.size) hrg' (hT.below h hT.lt)
  have kM : Hid (∀ W : World, Below w.heap.size w W → Calls Tryd.prog 13 #[.slice ps m cs] W fun e W' => ∃ v', e = .returned (.tuple #[.agg #[v'], .int .i64 (mkL zq).2]) ∧ HC W' v' (mkL zq).1 ∧ Below W.heap.size W W') := fun W h =>
    make7_any ((hz'.below h (Nat.le_refl _)).more h.size) hzl (hT.below h hT.lt)
  obtain ⟨rr, em, hmk, hrr, hem⟩ := mkL_ex zq
  rw [hmk] at kM
  dsimp only at kM
  by_cases hcond : lq.length ≤ 1000 ∧ lq.length = hq.length
  · have okc : ColOk lq hq := ⟨hcond.1, hcond.2, hrg'⟩
    have eB : buildB lq hq = (mkB lq hq, 0) := if_pos hcond
    rw [eB] at kB
    dsimp only at kB
    rcases hem with rfl | rfl
    · have hsm := mkB_small okc
      have hri := mkB_right okc
      generalize mkB lq hq = bb at *
      obtain ⟨f2, s2, hH⟩ := halves_ex hrr
      have hP := halves_plain ⟨hsm.lo, hsm.hi⟩ hri hH
      generalize hoo : (flipL rr 0 65536).1 = oo at *
      generalize hss : (spanL 0 65536).1 = ss at *
      obtain ⟨P1, P2, P3, P4, P5, P6, P7, P8⟩ := hP
      refine halvesGood_any (bb := bb) (rr := rr) (oo := oo) (ss := ss) (zr := (sumB bb rr).1) (zo := (sumB bb oo).1) (nr := (sumB bb rr).2.1) (no := (sumB bb oo).2.1) (nz := (sumB bb ss).2.1) (er := (sumB bb rr).2.2) (eo := (sumB bb oo).2.2) hp hh p0 h0 s0 hm hc kS kB kM ?_ ?_ ?_ ?_ ?_ ?_ ?_ ?_
      · intro v W h hv
        have := flip7_any 0 65536 hv (small_right hrr) (hT.below h hT.lt)
        rw [f2, hoo] at this
        exact this
      · intro W h
        have := span7_any 0 65536 (hT.below h hT.lt)
        rw [s2, hss] at this
        exact this
      · intro vE vB vr W h h1 h2 h3
        exact sumB_any h1 h2 h3 hsm (small_right hH.rr) (hT.below h hT.lt)
      · intro vE vB vr W h h1 h2 h3
        exact sumB_any h1 h2 h3 hsm (small_right hH.oo) (hT.below h hT.lt)
      · intro vE vB vr W h h1 h2 h3
        have := sumB_any h1 h2 h3 hsm (small_right hH.ss) (hT.below h hT.lt)
        rw [← P1, P3] at this
        exact this
      · intro W
        exact wideAdd_any _ _ W
      · intro vE W h h1
        have := count7_any h1 hsm.ex (hT.below h hT.lt)
        rw [P4] at this
        exact this
      · rw [← P2, IntKind.wrap_i64]; omega
    · exact halvesBad_any (Lib.hid (.inr rfl)) (Lib.hid (.inl rfl)) (Lib.hid (.inr rfl)) hp hh p0 h0 s0 hm hc kS kB kM
  · have eB : buildB lq hq = (⟨0, 0, [], []⟩, 80) := if_neg hcond
    rw [eB] at kB
    exact halvesBad_any (bb := ⟨0, 0, [], []⟩) (Lib.hid (.inl rfl)) (Lib.hid (.inr rfl)) (Lib.hid hem) hp hh p0 h0 s0 hm hc kS kB kM
end Go.Proofs.YtnigpmbpipmgfaaDoor

/-
  What every row of this seat needs: the table's premise; the witness's world; a slice of ints opened.
-/
namespace Go.Proofs.YtnigpmbpipmgfaaDoor
open Go.ChangeShapes Go.WideShapes Go.ChangeAt Go.RowKit Tess

theorem own : ownKnob Tryd.prog.godebug = none := by kernel_rfl
theorem laidOut : laidOutB Tryd.prog = true := by kernel_rfl
theorem gTab : Tryd.prog.globalNamed "math/bits.deBruijn64tab" = some 0 := by kernel_rfl
theorem gTabType : (Tryd.prog.globals[0]?).map (·.type) = some 154 := by kernel_rfl
theorem cellsTab : Tryd.prog.cellsOf 154 = 64 := by kernel_rfl
theorem cellsU8 : Tryd.prog.cellsOf 5 = 1 := by kernel_rfl
/-- The one variable that the rows list. -/
def oneLaid : List (String × DataW Unit) := [("math/bits.deBruijn64tab", Rows.laid_math_bits_deBruijn64tab)]
/-- WHAT THE ROW's LIST GIVES. -/
theorem tab_of_laid {W : World} (h : laidMetH Tryd.prog oneLaid W) : Tab W := by
  intro j hj
  have h1 := (Lib.tabIs_of_head (rest := []) (zs := Lib.deBruijn64tab.map Int.ofNat) gTab gTabType Tryd.underlying154 Tryd.underlying5 cellsU8 cellsTab h).cell gTab j (by simpa using hj)
  rw [h1]
  simp [List.getD, hj]

/-- A slice of ints that came in, as the walks want it. -/
theorem ints_open {H : Type} {enc : TypeId × Value → H} {W : World} {a0 : Option Addr} {len0 cap0 : Nat} {d0 : DataW H} {p0 : List MemPlace}
    (h0 : DataW.Trod enc Tryd.prog W 0 (fun _ => true) true 24 (.slice a0 len0 cap0) d0 p0) :
    (∃ zs, Ints W.heap.size W (.slice a0 len0 cap0) zs ∧ ∀ z ∈ zs, (Lit.int .i64 z).wf = true) ∧ ∀ p n c, Value.slice a0 len0 cap0 = .slice p n c → n ≤ c ∧ c ≤ maxLen := by
  obtain ⟨fuel, hf⟩ := h0
  rcases open_ints Tryd.underlying24 Tryd.underlying3 (by kernel_rfl) hf with ⟨hcs, _⟩ | ⟨x, l, c, zs, hcs, _, hl, hm, hz, _, hcell, hwz⟩
  · simp [Value.cells] at hcs
    obtain ⟨rfl, rfl, rfl⟩ := hcs
    refine ⟨⟨[], .inl ⟨⟨_, rfl⟩, rfl⟩, by simp⟩, ?_⟩
    intro p n c e; cases e; exact ⟨Nat.le_refl _, Nat.zero_le _⟩
  · simp [Value.cells] at hcs
    obtain ⟨rfl, rfl, rfl⟩ := hcs
    have hz' : zs.length = cap0 := by simpa using hz
    refine ⟨⟨zs.take len0, ?_, fun z hz => hwz z (List.mem_of_mem_take hz)⟩, fun p n c e => by cases e; exact ⟨hl, hm⟩⟩
    have hlen : (zs.take len0).length = len0 := by rw [List.length_take]; omega
    by_cases h0 : len0 = 0 ∧ cap0 = 0
    · left
      obtain ⟨rfl, rfl⟩ := h0
      exact ⟨⟨_, rfl⟩, by simp⟩
    · right
      have h1 : W.cell? (x.add 0) = some (.int .i64 (zs.getD 0 0)) := hcell 0 (by omega)
      have hsp : x.spot = none := World.cell?_spot (by simpa [Addr.add] using h1)
      obtain ⟨b, off, sp⟩ := x
      obtain rfl : sp = none := hsp
      refine ⟨b, off, cap0, by rw [hlen], World.block_lt_of_cell? W _ (by simpa [Addr.add] using h1), fun j hj => ?_⟩
      rw [hlen] at hj
      have h2 := hcell j (by omega)
      have e : ((⟨b, off, none⟩ : Addr).add j) = ⟨b, off + j, none⟩ := by
        cases j <;> simp [Addr.add]
      rw [e] at h2
      rw [h2, List.getElem?_take_of_lt hj]
      rfl

/-- The world of the witnesses: the variables as start-up lays them. -/
theorem door_met (os : Os) (args : Array Value) : laidMet Tryd.prog oneLaid ((World.doorLaid Tryd.prog 400 os).forCall (fun _ _ => 0) ⟨#[], args, []⟩).memory :=
  laidMet_of_run' 8 (by kernel_rfl) (by kernel_rfl)
theorem top_of {n : Int} (h : (Lit.int .i64 n).wf = true) : n ≤ 9223372036854775807 := by
  simp only [Lit.wf, Bool.and_eq_true, decide_eq_true_eq] at h
  have e : IntKind.i64.max = 9223372036854775807 := by decide +kernel
  have := h.2
  rw [e] at this
  exact this
theorem bot_of {n : Int} (h : (Lit.int .i64 n).wf = true) : -9223372036854775808 ≤ n := by
  simp only [Lit.wf, Bool.and_eq_true, decide_eq_true_eq] at h
  have e : IntKind.i64.min = -9223372036854775808 := by decide +kernel
  have := h.1
  rw [e] at this
  exact this
end Go.Proofs.YtnigpmbpipmgfaaDoor

/-
  What the rows of the seat Bsi need besides: slices of ints of any such type, of truths.
-/
namespace Go.Proofs.YtnigpmbpipmgfaaDoor
open Go.ChangeShapes Go.WideShapes Go.ChangeAt Go.RowKit Tess

theorem add_flat (b off j : Nat) : ((⟨b, off, none⟩ : Addr).add j) = ⟨b, off + j, none⟩ := by cases j <;> simp [Addr.add]
theorem ints_full {H : Type} {enc : TypeId × Value → H} {W : World} {t e : TypeId} (ht : Tryd.prog.underlying t = some (.slice e)) (he : Tryd.prog.underlying e = some (.int .i64)) (hc : Tryd.prog.cellsOf e = 1) {a0 : Option Addr} {len0 cap0 : Nat} {d0 : DataW H} {p0 : List MemPlace}
    (h0 : DataW.Trod enc Tryd.prog W 0 (fun _ => true) true t (.slice a0 len0 cap0) d0 p0) :
    ∃ zs, len0 = zs.length ∧ Ints W.heap.size W (.slice a0 zs.length cap0) zs ∧ (∀ z ∈ zs, (Lit.int .i64 z).wf = true) ∧ zs.length ≤ cap0 ∧ (a0 = none → zs.length = 0 ∧ cap0 = 0) := by
  obtain ⟨fuel, hf⟩ := h0
  rcases open_ints ht he hc hf with ⟨hcs, _⟩ | ⟨x, l, c, zs, hcs, _, hl, hm, hz, _, hcell, hwz⟩
  · simp [Value.cells] at hcs
    obtain ⟨rfl, rfl, rfl⟩ := hcs
    exact ⟨[], rfl, .inl ⟨⟨_, rfl⟩, rfl⟩, by simp, Nat.le_refl _, fun _ => ⟨rfl, rfl⟩⟩
  · simp [Value.cells] at hcs
    obtain ⟨rfl, rfl, rfl⟩ := hcs
    have hz' : zs.length = cap0 := by simpa using hz
    have hlen : (zs.take len0).length = len0 := by rw [List.length_take]; omega
    refine ⟨zs.take len0, hlen.symm, ?_, fun z hz => hwz z (List.mem_of_mem_take hz), by omega, fun h => by cases h⟩
    by_cases h0 : len0 = 0 ∧ cap0 = 0
    · left
      obtain ⟨rfl, rfl⟩ := h0
      exact ⟨⟨_, rfl⟩, by simp⟩
    · right
      have h1 : W.cell? (x.add 0) = some (.int .i64 (zs.getD 0 0)) := hcell 0 (by omega)
      have hsp : x.spot = none := World.cell?_spot (by simpa [Addr.add] using h1)
      obtain ⟨b, off, sp⟩ := x
      obtain rfl : sp = none := hsp
      refine ⟨b, off, cap0, rfl, World.block_lt_of_cell? W _ (by simpa [Addr.add] using h1), fun j hj => ?_⟩
      rw [hlen] at hj
      have h2 := hcell j (by omega)
      rw [add_flat] at h2
      rw [h2, List.getElem?_take_of_lt hj]
      rfl
theorem bools_full {H : Type} {enc : TypeId × Value → H} {W : World} {t e : TypeId} (ht : Tryd.prog.underlying t = some (.slice e)) (he : Tryd.prog.underlying e = some .bool) (hc : Tryd.prog.cellsOf e = 1) {a0 : Option Addr} {len0 cap0 : Nat} {d0 : DataW H} {p0 : List MemPlace}
    (h0 : DataW.Trod enc Tryd.prog W 0 (fun _ => true) true t (.slice a0 len0 cap0) d0 p0) :
    ∃ hs, len0 = hs.length ∧ BoolsAt W.heap.size W (.slice a0 hs.length cap0) hs ∧ hs.length ≤ cap0 ∧ (a0 = none → hs.length = 0 ∧ cap0 = 0) := by
  obtain ⟨fuel, hf⟩ := h0
  rcases Go.Deep.open_bools ht he hc hf with ⟨hcs, _⟩ | ⟨x, l, c, B, hcs, _, hl, hm, _, hcell⟩
  · simp [Value.cells] at hcs
    obtain ⟨rfl, rfl, rfl⟩ := hcs
    exact ⟨[], rfl, ⟨_, _, rfl, fun j hj => by simp at hj⟩, Nat.le_refl _, fun _ => ⟨rfl, rfl⟩⟩
  · simp [Value.cells] at hcs
    obtain ⟨rfl, rfl, rfl⟩ := hcs
    have hlen : ((List.range len0).map B).length = len0 := by simp
    refine ⟨(List.range len0).map B, hlen.symm, ⟨_, _, rfl, fun j hj => ?_⟩, by omega, fun h => by cases h⟩
    rw [hlen] at hj
    have h1 : W.cell? (x.add 0) = some (.bool (B 0)) := hcell 0 (by omega)
    have hsp : x.spot = none := World.cell?_spot (by simpa [Addr.add] using h1)
    obtain ⟨b, off, sp⟩ := x
    obtain rfl : sp = none := hsp
    refine ⟨b, off, rfl, World.block_lt_of_cell? W _ (by simpa [Addr.add] using h1), ?_⟩
    have h2 := hcell j (by omega)
    rw [add_flat] at h2
    rw [h2]
    simp [hj]
theorem rg_of {zs : List Int} (h : ∀ z ∈ zs, (Lit.int .i64 z).wf = true) : ∀ i, -9223372036854775808 ≤ vI zs i ∧ vI zs i ≤ 9223372036854775807 := by
  intro i
  unfold vI
  by_cases hi : i < zs.length
  · rw [List.getElem?_eq_getElem hi]
    have := h _ (List.getElem_mem hi)
    exact ⟨bot_of this, top_of this⟩
  · rw [List.getElem?_eq_none (by omega)]
    exact ⟨by decide, by decide⟩
end Go.Proofs.YtnigpmbpipmgfaaDoor

/-
  BsiHalves: the row, the card.
-/
namespace Go.Proofs.YtnigpmbpipmgfaaDoor.bsiHalves
open Go.ChangeShapes Go.WideShapes Go.ChangeAt Go.RowKit Tess

set_option maxRecDepth 100000 in
theorem contract (H : Type) (enc : TypeId × Value → H) (W : World) (base : Nat) (args : Array Value) (ds gs : List (DataW H)) (before : List MemPlace)
    (hval : ∀ (j : Nat) t v, Tryd.f3.params[j]? = some t → args[j]? = some v → Value.okWide Tryd.prog W .any base t v)
    (hW : DataW.Whole enc Tryd.prog Tryd.f3.params.toList Rows.bsiHalvesSpec.vars false W args.toList ds gs before) (hL : laidMetH Tryd.prog Rows.bsiHalvesRow.laid W) :
    Calls Tryd.prog 3 args W fun e W' => ∃ v, e = .returned v ∧ Rows.bsiHalvesSpec.post enc Tryd.prog Tryd.f3 false true false false W args v W' := by
  have hW' := hW
  obtain ⟨p, q, hA0, hV, rfl, hfz, hnd⟩ := hW
  have hA : DataW.TrodAll enc Tryd.prog W 0 (fun _ => true) true Tryd.f3.params.toList args.toList ds p := hA0
  rw [Tryd.params3] at hA hval
  obtain ⟨v0, vs0, d0, ds0, p0, q0, hargs, rfl, rfl, h0, r0⟩ := trodAll_cons hA
  obtain ⟨v1, vs1, d1, ds1, p1, q1, rfl, rfl, rfl, h1, r1⟩ := trodAll_cons r0
  obtain ⟨v2, vs2, d2, ds2, p2, q2, rfl, rfl, rfl, h2, r2⟩ := trodAll_cons r1
  obtain ⟨rfl, rfl, rfl⟩ := trodAll_nil r2
  obtain rfl : args = #[v0, v1, v2] := by cases args; simp_all
  obtain ⟨rfl, rfl⟩ := trodVars_none hV
  obtain ⟨a0, len0, cap0, rfl⟩ := okWide_slice Tryd.underlying22 (hval 0 22 v0 rfl rfl)
  have hh0 := ints_full Tryd.underlying22 Tryd.underlying2 (by kernel_rfl) h0
  have k0 := h0
  have lt0 : ∀ x ∈ p0, x.block < W.heap.size := by obtain ⟨m, hm⟩ := k0; exact DataW.trod_lt m _ _ _ hm
  obtain ⟨zs0, rfl, hz0, hw0, hc0, hn0⟩ := hh0
  obtain ⟨a1, len1, cap1, rfl⟩ := okWide_slice Tryd.underlying23 (hval 1 23 v1 rfl rfl)
  have hh1 := bools_full Tryd.underlying23 Tryd.underlying4 (by kernel_rfl) h1
  have k1 := h1
  have lt1 : ∀ x ∈ p1, x.block < W.heap.size := by obtain ⟨m, hm⟩ := k1; exact DataW.trod_lt m _ _ _ hm
  obtain ⟨zs1, rfl, hz1, hc1, hn1⟩ := hh1
  obtain ⟨a2, len2, cap2, rfl⟩ := okWide_slice Tryd.underlying24 (hval 2 24 v2 rfl rfl)
  have hh2 := ints_full Tryd.underlying24 Tryd.underlying3 (by kernel_rfl) h2
  have k2 := h2
  have lt2 : ∀ x ∈ p2, x.block < W.heap.size := by obtain ⟨m, hm⟩ := k2; exact DataW.trod_lt m _ _ _ hm
  obtain ⟨zs2, rfl, hz2, hw2, hc2, hn2⟩ := hh2
  clear hA0
  refine (halves8_any hz0 hz1 hz2 hc0 hc1 hc2 hn0 hn1 hn2 (rg_of hw0) (tab_of_laid hL)).mono fun e W' ⟨he, bel⟩ => ?_
  subst he
  exact ⟨_, rfl, _, _, _, [], _, [], hW', trodAll_mk1 (shut_bool Tryd.underlying4 _), (trodAll_cons_mk (Below.trod laidOut (by kernel_rfl) (of_decide_eq_true (by kernel_rfl)) k0 bel lt0) (trodAll_cons_mk (Below.trod laidOut (by kernel_rfl) (of_decide_eq_true (by kernel_rfl)) k1 bel lt1) (trodAll_cons_mk (Below.trod laidOut (by kernel_rfl) (of_decide_eq_true (by kernel_rfl)) k2 bel lt2) trodAll_mk0))), rfl, bel.frame _, fun h => by cases h⟩

theorem reads (os : Os) {H : Type} (enc : TypeId × Value → H) : ∃ places, DataW.whole enc Tryd.prog ((World.doorLaid Tryd.prog 400 os).forCall (fun _ _ => 0) ⟨#[], #[.slice none 0 0, .slice none 0 0, .slice none 0 0], []⟩).memory Tryd.f3.params.toList Rows.bsiHalvesSpec.vars false #[Value.slice none 0 0, .slice none 0 0, .slice none 0 0].toList 8 = some ([.nil, .nil, .nil], [], places) :=
  ⟨[], by kernel_rfl⟩

set_option maxRecDepth 100000 in
theorem lifted (os : Os) (started : os.Started) (H : Type) (enc : TypeId × Value → H) (F : Stop.Interp) :
    ReturnsInHanded {} Tryd.checked os 3 .any ((OpenSpec.ofChange Rows.bsiHalvesSpec).preRow enc Tryd.prog Tryd.f3 Rows.bsiHalvesRow.domain false Rows.bsiHalvesRow.laid) (((OpenSpec.ofChange Rows.bsiHalvesSpec).at F).post enc Tryd.prog Tryd.f3 false true false false) := by
  obtain ⟨places, hx⟩ := reads os enc
  refine returnsInHanded_of_row (C := Tryd.checked) (s := OpenSpec.ofChange Rows.bsiHalvesSpec) own started (by kernel_rfl) Tryd.func3
    (witness_row_at (enc := enc) (C := Tryd.checked) false (World.doorLaid Tryd.prog 400 os) #[.slice none 0 0, .slice none 0 0, .slice none 0 0] rfl (by kernel_rfl) (by kernel_rfl) (by kernel_rfl)
      (OpenSpec.preRow_of_cond 8 hx (by kernel_rfl) (fun k hk => by cases hk) (by kernel_rfl) (door_met os _))) ?_
  intro W base args ds gs before hval hW _ _ _ hL _ _
  exact contract H enc W base args ds gs before hval hW hL

theorem said : Rows.BsiHalvesSaid :=
  OpenClaim.holds_of_cond 3 Tryd.f3 rfl rfl rfl rfl rfl rfl rfl ⟨rfl, rfl, rfl, rfl, rfl⟩ rfl rfl rfl rfl rfl (by kernel_rfl) Tryd.func3 (by kernel_rfl)
    (of_decide_eq_true (by kernel_rfl)) (by unfold Func.isWrapper; first | (rw [if_pos (by decide +kernel)]; kernel_rfl) | (rw [if_neg (by decide +kernel)]; exact ⟨rfl, rfl⟩))
    (fun os started H enc _ F => by rw [OpenClaim.pre_eq_preRow]; exact lifted os started H enc F)

theorem plain (f : FuncId) (fn : Func) (hf : Tryd.pinned.checked.prog.funcNamed "tesserae/tesseraelaw08.BsiHalves" = some f) (hfn : Tryd.pinned.checked.prog.funcs[f]? = some fn) :
    false = Tryd.pinned.checked.prog.looks [] ∧ ∀ (j : Nat) t, fn.params[j]? = some t → Tryd.pinned.checked.prog.wantsStandIn t = false := by
  obtain rfl : f = 3 := Option.some.inj ((show Tryd.prog.funcNamed "tesserae/tesseraelaw08.BsiHalves" = some 3 by kernel_rfl).symm.trans hf) |>.symm
  obtain rfl : fn = Tryd.f3 := (Option.some.inj (Tryd.func3.symm.trans hfn)).symm
  refine ⟨by kernel_rfl, fun j t ht => ?_⟩
  have hall : ∀ t ∈ Tryd.f3.params.toList, Tryd.prog.wantsStandIn t = false := by rw [Tryd.params3]; decide +kernel
  exact hall t (Array.mem_toList_iff.2 (Array.mem_of_getElem? ht))

/-- THE CARD. -/
theorem card : Rows.BsiHalvesCardSaid :=
  Claim7.holds_tied_plain_at .later [] _ _ _ _ said (fun _ h => by cases h) (by kernel_rfl) (fun _ h => by cases h) bsiHalves_row_tie rfl ⟨rfl, rfl⟩ (by kernel_rfl) rfl plain (by kernel_rfl)
end Go.Proofs.YtnigpmbpipmgfaaDoor.bsiHalves

