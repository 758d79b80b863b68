/-
  BsP, BsQ: several texts in one (merge.py).
-/
import Derived.Test.YtnigpmbpipmgfaaDoorBmM

/-
  Columns of numbers, bit by bit: the plain side of bsi's queries. No program.
-/
namespace Go.Proofs.YtnigpmbpipmgfaaDoor
open Go.RowKit Tess

/-- Slices: how many rows, the least number, the rows that have one, the digits' rows. -/
structure Sl where
  n : Int
  least : Int
  ex : List Ch
  bits : List (List Ch)

def andL (l m : List Ch) : List Ch := (opL 1 l m).1
def orL (l m : List Ch) : List Ch := (opL 2 l m).1
def wiL (l m : List Ch) : List Ch := (opL 4 l m).1
theorem and_some {l m : List Ch} (hl : rightL l = true) (hm : rightL m = true) : opL 1 l m = (andL l m, 0) ∧ rightL (andL l m) = true ∧ ∀ n, n < 65536 → bitL (andL l m) n = (bitL l n && bitL m n) := by
  obtain ⟨r, h, hr, hb⟩ := op_some hl hm (by decide : (1 : Int) ≤ 1) (by decide)
  unfold andL
  rw [h]
  exact ⟨rfl, hr, fun n hn => by rw [hb n hn]; rfl⟩
theorem or_some {l m : List Ch} (hl : rightL l = true) (hm : rightL m = true) : opL 2 l m = (orL l m, 0) ∧ rightL (orL l m) = true ∧ ∀ n, n < 65536 → bitL (orL l m) n = (bitL l n || bitL m n) := by
  obtain ⟨r, h, hr, hb⟩ := op_some hl hm (by decide : (1 : Int) ≤ 2) (by decide)
  unfold orL
  rw [h]
  exact ⟨rfl, hr, fun n hn => by rw [hb n hn]; rfl⟩
theorem wi_some {l m : List Ch} (hl : rightL l = true) (hm : rightL m = true) : opL 4 l m = (wiL l m, 0) ∧ rightL (wiL l m) = true ∧ ∀ n, n < 65536 → bitL (wiL l m) n = (bitL l n && !bitL m n) := by
  obtain ⟨r, h, hr, hb⟩ := op_some hl hm (by decide : (1 : Int) ≤ 4) (by decide)
  unfold wiL
  rw [h]
  exact ⟨rfl, hr, fun n hn => by rw [hb n hn]; rfl⟩
theorem right_nil : rightL [] = true := rfl
theorem nil_iff {l : List Ch} (hl : rightL l = true) : l = [] ↔ ∀ n, n < 65536 → bitL l n = false :=
  ⟨fun e n _ => by rw [e]; exact bitL_nil n, fun h => ext_bits hl right_nil fun n hn => by rw [h n hn, bitL_nil]⟩
theorem ne_nil {l : List Ch} (hl : rightL l = true) (h : l ≠ []) : ∃ n, n < 65536 ∧ bitL l n = true := by
  rcases Classical.em (∃ n, n < 65536 ∧ bitL l n = true) with h' | h'
  · exact h'
  · refine absurd ((nil_iff hl).2 fun n hn => ?_) h
    cases hb : bitL l n
    · rfl
    · exact absurd ⟨n, hn, hb⟩ h'
theorem ne_of_bit {l : List Ch} {n : Nat} (h : bitL l n = true) : l ≠ [] := by
  rintro rfl
  rw [bitL_nil] at h; cases h

/-- Has a bitmap just rows of another one? -/
def withinL (r a : List Ch) : Bool := (opL 4 r a).2 == 0 && (opL 4 r a).1.isEmpty
theorem opL_err {op : Int} {l m : List Ch} (h : (rightL l && rightL m) = false) : opL op l m = ([], 70) := opL_no (.inl h)
theorem within_iff {r a : List Ch} : withinL r a = true ↔ (rightL r = true ∧ rightL a = true) ∧ ∀ n, n < 65536 → bitL r n = true → bitL a n = true := by
  unfold withinL
  cases hr : rightL r with
  | false =>
    rw [opL_err (by rw [hr]; rfl)]
    exact ⟨fun h => (by cases h), fun h => absurd h.1.1 (by simp)⟩
  | true =>
    cases ha : rightL a with
    | false =>
      rw [opL_err (by rw [hr, ha]; rfl)]
      exact ⟨fun h => (by cases h), fun h => absurd h.1.2 (by simp)⟩
    | true =>
      obtain ⟨h1, h2, h3⟩ := wi_some hr ha
      rw [h1]
      simp only [beq_self_eq_true, Bool.true_and, List.isEmpty_iff, true_and]
      rw [nil_iff h2]
      constructor
      · intro h n hn hb
        have := h n hn
        rw [h3 n hn, hb] at this
        simpa using this
      · intro h n hn
        rw [h3 n hn]
        cases hb : bitL r n
        · rfl
        · rw [h n hn hb]; rfl

/-- What digits, the greatest first, come to at a row. -/
def valT : List (List Ch) → Nat → Nat → Nat
  | [], _, k => k
  | b :: ds, n, k => valT ds n (2 * k + (bitL b n).toNat)
theorem valT_add (ds : List (List Ch)) (n : Nat) : ∀ k, valT ds n k = k * 2 ^ ds.length + valT ds n 0 := by
  induction ds with
  | nil => intro k; simp [valT]
  | cons b ds ih =>
    intro k
    show valT ds n (2 * k + (bitL b n).toNat) = k * 2 ^ (ds.length + 1) + valT ds n (2 * 0 + (bitL b n).toNat)
    rw [ih (2 * k + (bitL b n).toNat), ih (2 * 0 + (bitL b n).toNat), Nat.pow_succ, Nat.add_mul, Nat.mul_zero, Nat.zero_add, ← Nat.add_assoc]
    congr 2
    rw [Nat.mul_comm 2 k, Nat.mul_assoc, Nat.mul_comm 2]
theorem toNat_le (b : Bool) : b.toNat ≤ 1 := by cases b <;> decide
theorem valT_lt (ds : List (List Ch)) (n : Nat) : valT ds n 0 < 2 ^ ds.length := by
  induction ds with
  | nil => simp [valT]
  | cons b ds ih =>
    show valT ds n (2 * 0 + (bitL b n).toNat) < 2 ^ (ds.length + 1)
    rw [valT_add, Nat.pow_succ]
    have := toNat_le (bitL b n)
    rcases Nat.le_one_iff_eq_zero_or_eq_one.1 this with h | h <;> rw [h] <;> omega
theorem valT_mono {ds : List (List Ch)} {n m j k : Nat} (h : j < k) : valT ds n j < valT ds m k := by
  rw [valT_add ds n j, valT_add ds m k]
  have h1 := valT_lt ds n
  have h2 : j * 2 ^ ds.length + 2 ^ ds.length ≤ k * 2 ^ ds.length := by
    rw [← Nat.succ_mul]; exact Nat.mul_le_mul_right _ h
  omega
/-- The greatest of some rows; the least. -/
def upD : List (List Ch) → List Ch → Nat → Nat
  | [], _, k => k
  | b :: ds, rows, k => if andL rows b = [] then upD ds rows (2 * k) else upD ds (andL rows b) (2 * k + 1)
def downD : List (List Ch) → List Ch → Nat → Nat
  | [], _, k => k
  | b :: ds, rows, k => if wiL rows b = [] then downD ds rows (2 * k + 1) else downD ds (wiL rows b) (2 * k)
theorem upD_spec : ∀ {ds : List (List Ch)} {rows : List Ch} (k : Nat), (∀ b ∈ ds, rightL b = true) → rightL rows = true → rows ≠ [] →
    (∃ n, n < 65536 ∧ bitL rows n = true ∧ valT ds n k = upD ds rows k) ∧ ∀ n, n < 65536 → bitL rows n = true → valT ds n k ≤ upD ds rows k
  | [], rows, k, _, hr, hne => by
    obtain ⟨n, hn, hb⟩ := ne_nil hr hne
    exact ⟨⟨n, hn, hb, rfl⟩, fun _ _ _ => Nat.le_refl _⟩
  | b :: ds, rows, k, hd, hr, hne => by
    have hbr := hd b List.mem_cons_self
    have hd' : ∀ x ∈ ds, rightL x = true := fun x hx => hd x (List.mem_cons_of_mem _ hx)
    obtain ⟨-, h2, h3⟩ := and_some hr hbr
    by_cases he : andL rows b = []
    · have h4 : ∀ n, n < 65536 → bitL rows n = true → bitL b n = false := fun n hn hb => by
        have := (nil_iff h2).1 he n hn
        rw [h3 n hn, hb] at this
        simpa using this
      obtain ⟨⟨n, hn, hb, e⟩, hall⟩ := upD_spec (ds := ds) (2 * k) hd' hr hne
      show (∃ n, _) ∧ ∀ n, _
      unfold upD valT
      rw [if_pos he]
      exact ⟨⟨n, hn, hb, by rw [h4 n hn hb]; exact e⟩, fun m hm hbm => by rw [h4 m hm hbm]; exact hall m hm hbm⟩
    · obtain ⟨⟨n, hn, hb, e⟩, hall⟩ := upD_spec (ds := ds) (2 * k + 1) hd' h2 he
      rw [h3 n hn] at hb
      obtain ⟨hb1, hb2⟩ : bitL rows n = true ∧ bitL b n = true := by simpa using hb
      unfold upD valT
      rw [if_neg he]
      refine ⟨⟨n, hn, hb1, by rw [hb2]; exact e⟩, fun m hm hbm => ?_⟩
      cases hbb : bitL b m with
      | true => exact hall m hm (by rw [h3 m hm, hbm, hbb]; rfl)
      | false =>
        refine Nat.le_of_lt (Nat.lt_of_lt_of_le (valT_mono (ds := ds) (m := n) (show 2 * k + Bool.toNat false < 2 * k + 1 by simp)) ?_)
        rw [e]; exact Nat.le_refl _
theorem downD_spec : ∀ {ds : List (List Ch)} {rows : List Ch} (k : Nat), (∀ b ∈ ds, rightL b = true) → rightL rows = true → rows ≠ [] →
    (∃ n, n < 65536 ∧ bitL rows n = true ∧ valT ds n k = downD ds rows k) ∧ ∀ n, n < 65536 → bitL rows n = true → downD ds rows k ≤ valT ds n k
  | [], rows, k, _, hr, hne => by
    obtain ⟨n, hn, hb⟩ := ne_nil hr hne
    exact ⟨⟨n, hn, hb, rfl⟩, fun _ _ _ => Nat.le_refl _⟩
  | b :: ds, rows, k, hd, hr, hne => by
    have hbr := hd b List.mem_cons_self
    have hd' : ∀ x ∈ ds, rightL x = true := fun x hx => hd x (List.mem_cons_of_mem _ hx)
    obtain ⟨-, h2, h3⟩ := wi_some hr hbr
    by_cases he : wiL rows b = []
    · have h4 : ∀ n, n < 65536 → bitL rows n = true → bitL b n = true := fun n hn hb => by
        have := (nil_iff h2).1 he n hn
        rw [h3 n hn, hb] at this
        simpa using this
      obtain ⟨⟨n, hn, hb, e⟩, hall⟩ := downD_spec (ds := ds) (2 * k + 1) hd' hr hne
      unfold downD valT
      rw [if_pos he]
      exact ⟨⟨n, hn, hb, by rw [h4 n hn hb]; exact e⟩, fun m hm hbm => by rw [h4 m hm hbm]; exact hall m hm hbm⟩
    · obtain ⟨⟨n, hn, hb, e⟩, hall⟩ := downD_spec (ds := ds) (2 * k) hd' h2 he
      rw [h3 n hn] at hb
      obtain ⟨hb1, hb2⟩ : bitL rows n = true ∧ bitL b n = false := by simpa using hb
      unfold downD valT
      rw [if_neg he]
      refine ⟨⟨n, hn, hb1, by rw [hb2]; exact e⟩, fun m hm hbm => ?_⟩
      cases hbb : bitL b m with
      | false => exact hall m hm (by rw [h3 m hm, hbm, hbb]; rfl)
      | true =>
        refine Nat.le_of_lt (Nat.lt_of_le_of_lt ?_ (valT_mono (ds := ds) (n := n) (show 2 * k < 2 * k + Bool.toNat true by simp)))
        rw [e]; exact Nat.le_refl _

/-- What a row's number is greater by. -/
def valB (b : Sl) (n : Nat) : Nat := valT b.bits.reverse n 0
/-- Are they a column's? -/
def isRightB (b : Sl) : Bool :=
  decide (0 ≤ b.n) && decide (b.n ≤ 1000) && decide (b.bits.length ≤ 64) && withinL b.ex (spanL 0 b.n).1 && b.bits.all (withinL · b.ex) &&
    (if b.ex = [] then b.least == 0 && b.bits.isEmpty else
      (b.bits.isEmpty || decide (b.bits.getLastD [] ≠ [])) && decide (b.least ≤ IntKind.i64.wrap (b.least + (upD b.bits.reverse b.ex 0 : Nat))) && decide (downD b.bits.reverse b.ex 0 = 0))
/-- What a column's slices are. -/
structure IsCol (b : Sl) : Prop where
  n0 : 0 ≤ b.n
  n1 : b.n ≤ 1000
  len : b.bits.length ≤ 64
  rex : rightL b.ex = true
  rows : ∀ n, n < 65536 → bitL b.ex n = true → (n : Int) < b.n
  rbits : ∀ x ∈ b.bits, rightL x = true
  inn : ∀ x ∈ b.bits, ∀ n, n < 65536 → bitL x n = true → bitL b.ex n = true
  none : b.ex = [] → b.least = 0 ∧ b.bits = []
  last : b.ex ≠ [] → b.bits ≠ [] → b.bits.getLastD [] ≠ []
  most : ∀ n, n < 65536 → bitL b.ex n = true → b.least + (valB b n : Nat) ≤ 9223372036854775807
  least : b.ex ≠ [] → ∃ n, n < 65536 ∧ bitL b.ex n = true ∧ valB b n = 0
theorem span_bits {N : Int} (h0 : 0 ≤ N) (h1 : N ≤ 65536) : rightL (spanL 0 N).1 = true ∧ ∀ n, n < 65536 → (bitL (spanL 0 N).1 n = true ↔ (n : Int) < N) := by
  obtain ⟨r, h, hr, hb⟩ := flip_some (l := []) (a := 0) (b := N) right_nil ⟨by decide, by decide, h0, h1⟩
  unfold spanL
  rw [h]
  refine ⟨hr, fun n hn => ?_⟩
  rw [hb n hn, bitL_nil]
  simp
theorem pow_len {b : Sl} (h : b.bits.length ≤ 64) (n : Nat) : valB b n < 18446744073709551616 := by
  have h1 := valT_lt b.bits.reverse n
  rw [List.length_reverse] at h1
  have h2 : 2 ^ b.bits.length ≤ 2 ^ 64 := Nat.pow_le_pow_right (by decide) h
  have h3 : (2 : Nat) ^ 64 = 18446744073709551616 := by decide
  unfold valB
  omega
theorem wrap_up {l : Int} {u : Nat} (h1 : -9223372036854775808 ≤ l) (h2 : l ≤ 9223372036854775807) (hu : u < 18446744073709551616) : l ≤ IntKind.i64.wrap (l + u) ↔ l + u ≤ 9223372036854775807 := by
  rw [IntKind.wrap_i64]; omega
theorem right_iff {b : Sl} (hl : -9223372036854775808 ≤ b.least ∧ b.least ≤ 9223372036854775807) : isRightB b = true ↔ IsCol b := by
  have hrev : ∀ {x : List Ch}, x ∈ b.bits.reverse ↔ x ∈ b.bits := List.mem_reverse
  unfold isRightB
  simp only [Bool.and_eq_true, decide_eq_true_eq, List.all_eq_true, within_iff]
  constructor
  · rintro ⟨⟨⟨⟨⟨h0, h1⟩, h2⟩, ⟨⟨hex, -⟩, hrow⟩⟩, hb⟩, hif⟩
    obtain ⟨hs1, hs2⟩ := span_bits h0 (by omega : b.n ≤ 65536)
    have hds : ∀ x ∈ b.bits.reverse, rightL x = true := fun x hx => (hb x (hrev.1 hx)).1.1
    by_cases he : b.ex = []
    · rw [if_pos he] at hif
      simp only [Bool.and_eq_true, beq_iff_eq, List.isEmpty_iff] at hif
      exact ⟨h0, h1, h2, hex, fun n hn hb' => (hs2 n hn).1 (hrow n hn hb'), fun x hx => (hb x hx).1.1, fun x hx => (hb x hx).2, fun _ => hif, fun h => absurd he h, fun n hn hb' => absurd he (ne_of_bit hb'), fun h => absurd he h⟩
    · rw [if_neg he] at hif
      simp only [Bool.and_eq_true, decide_eq_true_eq, Bool.or_eq_true, List.isEmpty_iff] at hif
      obtain ⟨⟨hlast, hup⟩, hdown⟩ := hif
      obtain ⟨⟨m, hm, hbm, hmu⟩, hall⟩ := upD_spec 0 hds hex he
      obtain ⟨⟨d, hd, hbd, hde⟩, -⟩ := downD_spec 0 hds hex he
      have hlt := pow_len h2 m
      rw [wrap_up hl.1 hl.2 (by rw [← hmu]; exact hlt)] at hup
      refine ⟨h0, h1, h2, hex, fun n hn hb' => (hs2 n hn).1 (hrow n hn hb'), fun x hx => (hb x hx).1.1, fun x hx => (hb x hx).2, fun h => absurd h he, fun _ hne => ?_, fun n hn hb' => ?_, fun _ => ⟨d, hd, hbd, hde.trans hdown⟩⟩
      · rcases hlast with h | h
        · exact absurd h hne
        · exact h
      · have := hall n hn hb'
        unfold valB
        omega
  · intro h
    obtain ⟨hs1, hs2⟩ := span_bits h.n0 (by have := h.n1; omega : b.n ≤ 65536)
    have hds : ∀ x ∈ b.bits.reverse, rightL x = true := fun x hx => h.rbits x (hrev.1 hx)
    refine ⟨⟨⟨⟨⟨h.n0, h.n1⟩, h.len⟩, ⟨⟨h.rex, hs1⟩, fun n hn hb => (hs2 n hn).2 (h.rows n hn hb)⟩⟩, fun x hx => ⟨⟨h.rbits x hx, h.rex⟩, h.inn x hx⟩⟩, ?_⟩
    by_cases he : b.ex = []
    · rw [if_pos he]
      obtain ⟨e1, e2⟩ := h.none he
      rw [e1, e2]; rfl
    · rw [if_neg he]
      obtain ⟨⟨m, hm, hbm, hmu⟩, -⟩ := upD_spec 0 hds h.rex he
      obtain ⟨-, hall⟩ := downD_spec 0 hds h.rex he
      obtain ⟨d, hd, hbd, hd0⟩ := h.least he
      simp only [Bool.and_eq_true, decide_eq_true_eq, Bool.or_eq_true, List.isEmpty_iff]
      refine ⟨⟨?_, ?_⟩, ?_⟩
      · rcases Classical.em (b.bits = []) with h' | h'
        · exact .inl h'
        · exact .inr (h.last he h')
      · have hlt := pow_len h.len m
        rw [← hmu]
        exact (wrap_up hl.1 hl.2 hlt).2 (h.most m hm hbm)
      · have := hall d hd hbd
        unfold valB at hd0
        omega

/-- Rows by their numbers: less, the same, greater; one digit more each time, till none is the same. -/
def partF : List (Bool × List Ch) → List Ch × List Ch × List Ch → List Ch × List Ch × List Ch
  | [], p => p
  | (one, b) :: ds, (L, S, G) =>
    if one = true then (if andL S b = [] then (orL L (wiL S b), andL S b, G) else partF ds (orL L (wiL S b), andL S b, G))
    else (if wiL S b = [] then (L, wiL S b, orL G (andL S b)) else partF ds (L, wiL S b, orL G (andL S b)))
/-- What the digits themselves come to. -/
def valN : List (Bool × List Ch) → Nat → Nat
  | [], k => k
  | (one, _) :: ds, k => valN ds (2 * k + one.toNat)
def valP (ds : List (Bool × List Ch)) (n k : Nat) : Nat := valT (ds.map (·.2)) n k
theorem valN_add (ds : List (Bool × List Ch)) : ∀ k, valN ds k = k * 2 ^ ds.length + valN ds 0 := by
  induction ds with
  | nil => intro k; simp [valN]
  | cons b ds ih =>
    intro k
    obtain ⟨one, b⟩ := b
    show valN ds (2 * k + one.toNat) = k * 2 ^ (ds.length + 1) + valN ds (2 * 0 + one.toNat)
    rw [ih (2 * k + one.toNat), ih (2 * 0 + one.toNat), Nat.pow_succ, Nat.add_mul, Nat.mul_zero, Nat.zero_add, ← Nat.add_assoc]
    congr 2
    rw [Nat.mul_comm 2 k, Nat.mul_assoc, Nat.mul_comm 2]
theorem valN_lt (ds : List (Bool × List Ch)) : valN ds 0 < 2 ^ ds.length := by
  induction ds with
  | nil => simp [valN]
  | cons b ds ih =>
    obtain ⟨one, b⟩ := b
    show valN ds (2 * 0 + one.toNat) < 2 ^ (ds.length + 1)
    rw [valN_add, Nat.pow_succ]
    have := toNat_le one
    rcases Nat.le_one_iff_eq_zero_or_eq_one.1 this with h | h <;> rw [h] <;> omega
/-- The order of prefixes decides. -/
theorem val_lt_iff (ds : List (Bool × List Ch)) (n j k : Nat) (h : j ≠ k) : (valP ds n j < valN ds k ↔ j < k) ∧ (valN ds k < valP ds n j ↔ k < j) ∧ valP ds n j ≠ valN ds k := by
  have h1 := valT_lt (ds.map (·.2)) n
  have h2 := valN_lt ds
  unfold valP
  rw [valT_add, valN_add, List.length_map] at *
  generalize 2 ^ ds.length = P at *
  generalize valT (ds.map (·.2)) n 0 = x at *
  generalize valN ds 0 = y at *
  rcases Nat.lt_or_gt_of_ne h with h | h
  · have h3 : j * P + P ≤ k * P := by rw [← Nat.succ_mul]; exact Nat.mul_le_mul_right _ h
    omega
  · have h3 : k * P + P ≤ j * P := by rw [← Nat.succ_mul]; exact Nat.mul_le_mul_right _ h
    omega
/-- These three part the rows E by x against k. -/
structure Parts (E : Nat → Bool) (x : Nat → Nat) (k : Nat) (p : List Ch × List Ch × List Ch) : Prop where
  r1 : rightL p.1 = true
  r2 : rightL p.2.1 = true
  r3 : rightL p.2.2 = true
  lt : ∀ n, n < 65536 → (bitL p.1 n = true ↔ E n = true ∧ x n < k)
  eq : ∀ n, n < 65536 → (bitL p.2.1 n = true ↔ E n = true ∧ x n = k)
  gt : ∀ n, n < 65536 → (bitL p.2.2 n = true ↔ E n = true ∧ k < x n)
theorem partF_spec {E : Nat → Bool} : ∀ {ds : List (Bool × List Ch)} {x : Nat → Nat} {k : Nat} {p : List Ch × List Ch × List Ch}, (∀ b ∈ ds, rightL b.2 = true) → Parts E x k p →
    Parts E (fun n => valP ds n (x n)) (valN ds k) (partF ds p)
  | [], x, k, p, _, h => h
  | (one, b) :: ds, x, k, (L, S, G), hd, h => by
    have hb : rightL b = true := hd (one, b) List.mem_cons_self
    have hd' : ∀ y ∈ ds, rightL y.2 = true := fun y hy => hd y (List.mem_cons_of_mem _ hy)
    obtain ⟨r1, r2, r3, hlt, heq, hgt⟩ := h
    obtain ⟨-, a1, a2⟩ := and_some r2 hb
    obtain ⟨-, w1, w2⟩ := wi_some r2 hb
    simp only at r1 r2 r3 hlt heq hgt a1 a2 w1 w2
    -- one digit
    have step : Parts E (fun n => 2 * x n + (bitL b n).toNat) (2 * k + one.toNat) (if one = true then (orL L (wiL S b), andL S b, G) else (L, wiL S b, orL G (andL S b))) := by
      cases one with
      | true =>
        obtain ⟨-, o1, o2⟩ := or_some r1 w1
        refine ⟨o1, a1, r3, fun n hn => ?_, fun n hn => ?_, fun n hn => ?_⟩
        · have h1 := hlt n hn
          have h2 := heq n hn
          show bitL (orL L (wiL S b)) n = true ↔ _
          rw [o2 n hn, w2 n hn, Bool.or_eq_true, Bool.and_eq_true, h1, h2]
          cases bitL b n <;> cases E n <;> simp <;> omega
        · have h2 := heq n hn
          show bitL (andL S b) n = true ↔ _
          rw [a2 n hn, Bool.and_eq_true, h2]
          cases bitL b n <;> cases E n <;> simp <;> omega
        · have h1 := hgt n hn
          show bitL G n = true ↔ _
          rw [h1]
          cases bitL b n <;> cases E n <;> simp <;> omega
      | false =>
        obtain ⟨-, o1, o2⟩ := or_some r3 a1
        refine ⟨r1, w1, o1, fun n hn => ?_, fun n hn => ?_, fun n hn => ?_⟩
        · have h1 := hlt n hn
          show bitL L n = true ↔ _
          rw [h1]
          cases bitL b n <;> cases E n <;> simp <;> omega
        · have h2 := heq n hn
          show bitL (wiL S b) n = true ↔ _
          rw [w2 n hn, Bool.and_eq_true, h2]
          cases bitL b n <;> cases E n <;> simp <;> omega
        · have h1 := hgt n hn
          have h2 := heq n hn
          show bitL (orL G (andL S b)) n = true ↔ _
          rw [o2 n hn, a2 n hn, Bool.or_eq_true, Bool.and_eq_true, h1, h2]
          cases bitL b n <;> cases E n <;> simp <;> omega
    have go : ∀ q : List Ch × List Ch × List Ch, Parts E (fun n => 2 * x n + (bitL b n).toNat) (2 * k + one.toNat) q → q.2.1 = [] → Parts E (fun n => valP ((one, b) :: ds) n (x n)) (valN ((one, b) :: ds) k) q := by
      intro q hq he
      have hne : ∀ n, n < 65536 → E n = true → 2 * x n + (bitL b n).toNat ≠ 2 * k + one.toNat := fun n hn hE e => by
        have := (hq.eq n hn).2 ⟨hE, e⟩
        rw [he, bitL_nil] at this; cases this
      refine ⟨hq.r1, hq.r2, hq.r3, fun n hn => ?_, fun n hn => ?_, fun n hn => ?_⟩
      · rw [hq.lt n hn]
        exact ⟨fun ⟨a, b'⟩ => ⟨a, (val_lt_iff ds n _ _ (hne n hn a)).1.2 b'⟩, fun ⟨a, b'⟩ => ⟨a, (val_lt_iff ds n _ _ (hne n hn a)).1.1 b'⟩⟩
      · rw [hq.eq n hn]
        exact ⟨fun ⟨a, b'⟩ => absurd b' (hne n hn a), fun ⟨a, b'⟩ => absurd b' (val_lt_iff ds n _ _ (hne n hn a)).2.2⟩
      · rw [hq.gt n hn]
        exact ⟨fun ⟨a, b'⟩ => ⟨a, (val_lt_iff ds n _ _ (hne n hn a)).2.1.2 b'⟩, fun ⟨a, b'⟩ => ⟨a, (val_lt_iff ds n _ _ (hne n hn a)).2.1.1 b'⟩⟩
    unfold partF
    cases one with
    | true =>
      rw [if_pos rfl]
      rw [if_pos rfl] at step
      by_cases he : andL S b = []
      · rw [if_pos he]; exact go _ step he
      · rw [if_neg he]; exact partF_spec hd' step
    | false =>
      rw [if_neg (by decide)]
      rw [if_neg (by decide)] at step
      by_cases he : wiL S b = []
      · rw [if_pos he]; exact go _ step he
      · rw [if_neg he]; exact partF_spec hd' step
end Go.Proofs.YtnigpmbpipmgfaaDoor

/-
  Columns of numbers, bit by bit: comparisons, sums, in plain. No program.
-/
namespace Go.Proofs.YtnigpmbpipmgfaaDoor
open Go.RowKit Tess

/-- How many binary digits a number has. -/
def lenB (x : Nat) : Nat := if x = 0 then 0 else Nat.log2 x + 1
theorem lenB_le {x k : Nat} : lenB x ≤ k ↔ x < 2 ^ k := by
  unfold lenB
  by_cases h : x = 0
  · rw [if_pos h, h]; exact ⟨fun _ => Nat.pow_pos (by decide), fun _ => Nat.zero_le _⟩
  · rw [if_neg h, Nat.add_one_le_iff, Nat.log2_lt h]
/-- A row's number. -/
def numB (b : Sl) (n : Nat) : Int := b.least + (valB b n : Nat)
/-- The digits of a number, and their rows, the greatest first. -/
def digD (bits : List (List Ch)) (x : Nat) : List (Bool × List Ch) := (List.range bits.length).map fun i => (x.testBit (bits.length - 1 - i), bits[bits.length - 1 - i]?.getD [])
theorem digD_len (bits : List (List Ch)) (x : Nat) : (digD bits x).length = bits.length := by unfold digD; rw [List.length_map, List.length_range]
theorem digD_snd (bits : List (List Ch)) (x : Nat) : (digD bits x).map (·.2) = bits.reverse := by
  apply List.ext_getElem
  · rw [List.length_map, digD_len, List.length_reverse]
  · intro i h1 h2
    rw [List.length_reverse] at h2
    rw [List.getElem_map, List.getElem_reverse]
    unfold digD
    rw [List.getElem_map, List.getElem_range]
    simp [show bits.length - 1 - i < bits.length by omega]
theorem digD_get {bits : List (List Ch)} {x i : Nat} (h : i < (digD bits x).length) : (digD bits x)[i] = (x.testBit (bits.length - 1 - i), bits[bits.length - 1 - i]?.getD []) := by simp [digD]
theorem digD_cons (b : List Ch) (bits : List (List Ch)) (x : Nat) : digD (bits ++ [b]) x = (x.testBit bits.length, b) :: digD bits x := by
  apply List.ext_getElem
  · rw [digD_len, List.length_cons, digD_len, List.length_append]; rfl
  · intro i h1 h2
    have h3 : i < bits.length + 1 := by rw [digD_len, List.length_append] at h1; exact h1
    rw [digD_get]
    cases i with
    | zero => simp
    | succ i =>
      rw [List.getElem_cons_succ, digD_get, List.length_append]
      have e : bits.length + [b].length - 1 - (i + 1) = bits.length - 1 - i := by simp; omega
      rw [e, List.getElem?_append_left (by omega)]
theorem valN_dig (bits : List (List Ch)) : ∀ (x : Nat), valN (digD bits x) 0 = x % 2 ^ bits.length := by
  intro x
  obtain ⟨l, hl⟩ : ∃ l, bits.reverse = l := ⟨_, rfl⟩
  induction l generalizing bits with
  | nil =>
    have : bits = [] := by simpa using hl
    subst this
    simp [digD, valN, Nat.mod_one]
  | cons b l ih =>
    have e : bits = l.reverse ++ [b] := by
      have := congrArg List.reverse hl
      rwa [List.reverse_reverse, List.reverse_cons] at this
    subst e
    rw [digD_cons]
    show valN (digD l.reverse x) (2 * 0 + (x.testBit l.reverse.length).toNat) = _
    rw [valN_add, ih l.reverse (by rw [List.reverse_reverse]), digD_len, List.length_append]
    have h2 : x % 2 ^ (l.reverse.length + 1) = x % 2 ^ l.reverse.length + 2 ^ l.reverse.length * (x / 2 ^ l.reverse.length % 2) := Nat.mod_pow_succ
    have h3 : (x.testBit l.reverse.length).toNat = x / 2 ^ l.reverse.length % 2 := by
      rw [Nat.testBit_eq_decide_div_mod_eq]
      have := Nat.mod_lt (x / 2 ^ l.reverse.length) (by decide : 2 > 0)
      rcases (show x / 2 ^ l.reverse.length % 2 = 0 ∨ x / 2 ^ l.reverse.length % 2 = 1 by omega) with h | h <;> rw [h] <;> rfl
    show _ = x % 2 ^ (l.reverse.length + 1)
    rw [h2, h3, Nat.mul_zero, Nat.zero_add, Nat.mul_comm, Nat.add_comm]

/-- parted(n). -/
def partB (b : Sl) (n : Int) : List Ch × List Ch × List Ch :=
  if n < b.least then ([], [], b.ex)
  else if b.bits.length < lenB ((n - b.least).toNat) then (b.ex, [], [])
  else partF (digD b.bits (n - b.least).toNat) ([], b.ex, [])
/-- They part a column's rows by their numbers. -/
structure PartsI (b : Sl) (n : Int) (p : List Ch × List Ch × List Ch) : Prop where
  r1 : rightL p.1 = true
  r2 : rightL p.2.1 = true
  r3 : rightL p.2.2 = true
  lt : ∀ r, r < 65536 → (bitL p.1 r = true ↔ bitL b.ex r = true ∧ numB b r < n)
  eq : ∀ r, r < 65536 → (bitL p.2.1 r = true ↔ bitL b.ex r = true ∧ numB b r = n)
  gt : ∀ r, r < 65536 → (bitL p.2.2 r = true ↔ bitL b.ex r = true ∧ n < numB b r)
theorem valB_lt (b : Sl) (r : Nat) : valB b r < 2 ^ b.bits.length := by
  have := valT_lt b.bits.reverse r
  rwa [List.length_reverse] at this
theorem partB_spec {b : Sl} (h : IsCol b) (n : Int) : PartsI b n (partB b n) := by
  unfold partB
  by_cases h1 : n < b.least
  · rw [if_pos h1]
    refine ⟨rfl, rfl, h.rex, fun r hr => ?_, fun r hr => ?_, fun r hr => ?_⟩
    · rw [bitL_nil]; exact ⟨fun h => (by cases h), fun ⟨_, h2⟩ => by unfold numB at h2; omega⟩
    · rw [bitL_nil]; exact ⟨fun h => (by cases h), fun ⟨_, h2⟩ => by unfold numB at h2; omega⟩
    · exact ⟨fun h => ⟨h, by unfold numB; omega⟩, fun h => h.1⟩
  · rw [if_neg h1]
    by_cases h2 : b.bits.length < lenB ((n - b.least).toNat)
    · rw [if_pos h2]
      have h3 : 2 ^ b.bits.length ≤ (n - b.least).toNat := by
        rcases Nat.lt_or_ge (n - b.least).toNat (2 ^ b.bits.length) with h' | h'
        · have := lenB_le.2 h'; omega
        · exact h'
      have h4 : ∀ r, numB b r < n := fun r => by
        have := valB_lt b r
        unfold numB
        omega
      refine ⟨h.rex, rfl, rfl, fun r hr => ?_, fun r hr => ?_, fun r hr => ?_⟩
      · exact ⟨fun h => ⟨h, h4 r⟩, fun h => h.1⟩
      · rw [bitL_nil]; exact ⟨fun h => (by cases h), fun ⟨_, h5⟩ => by have := h4 r; omega⟩
      · rw [bitL_nil]; exact ⟨fun h => (by cases h), fun ⟨_, h5⟩ => by have := h4 r; omega⟩
    · rw [if_neg h2]
      have h3 : (n - b.least).toNat < 2 ^ b.bits.length := lenB_le.1 (by omega)
      have hd : ∀ y ∈ digD b.bits (n - b.least).toNat, rightL y.2 = true := fun y hy => by
        have : y.2 ∈ (digD b.bits (n - b.least).toNat).map (·.2) := List.mem_map.2 ⟨y, hy, rfl⟩
        rw [digD_snd, List.mem_reverse] at this
        exact h.rbits _ this
      have hp := partF_spec (E := bitL b.ex) (x := fun _ => 0) (k := 0) (p := ([], b.ex, [])) hd
        ⟨rfl, h.rex, rfl, fun r _ => by rw [bitL_nil]; exact ⟨fun h => (by cases h), fun h => absurd h.2 (Nat.lt_irrefl _)⟩, fun r _ => ⟨fun h => ⟨h, rfl⟩, fun h => h.1⟩, fun r _ => by rw [bitL_nil]; exact ⟨fun h => (by cases h), fun h => absurd h.2 (Nat.lt_irrefl _)⟩⟩
      have e1 : ∀ r, valP (digD b.bits (n - b.least).toNat) r 0 = valB b r := fun r => by unfold valP valB; rw [digD_snd]
      have e2 : valN (digD b.bits (n - b.least).toNat) 0 = (n - b.least).toNat := by rw [valN_dig, Nat.mod_eq_of_lt h3]
      refine ⟨hp.r1, hp.r2, hp.r3, fun r hr => ?_, fun r hr => ?_, fun r hr => ?_⟩
      · rw [hp.lt r hr, e1, e2]; unfold numB; exact ⟨fun ⟨a, c⟩ => ⟨a, by omega⟩, fun ⟨a, c⟩ => ⟨a, by omega⟩⟩
      · rw [hp.eq r hr, e1, e2]; unfold numB; exact ⟨fun ⟨a, c⟩ => ⟨a, by omega⟩, fun ⟨a, c⟩ => ⟨a, by omega⟩⟩
      · rw [hp.gt r hr, e1, e2]; unfold numB; exact ⟨fun ⟨a, c⟩ => ⟨a, by omega⟩, fun ⟨a, c⟩ => ⟨a, by omega⟩⟩

/-- find(c, n). -/
def findB (b : Sl) (op n : Int) : List Ch :=
  if op = 1 then (partB b n).2.1 else if op = 2 then wiL b.ex (partB b n).2.1 else if op = 3 then (partB b n).1
  else if op = 4 then wiL b.ex (partB b n).2.2 else if op = 5 then (partB b n).2.2 else wiL b.ex (partB b n).1
/-- Does a comparison hold? -/
def holdsB (a op n : Int) : Bool :=
  if op = 1 then a == n else if op = 2 then a != n else if op = 3 then decide (a < n) else if op = 4 then decide (a ≤ n) else if op = 5 then decide (n < a) else decide (n ≤ a)
theorem findB_spec {b : Sl} (h : IsCol b) (op n : Int) : rightL (findB b op n) = true ∧ ∀ r, r < 65536 → bitL (findB b op n) r = (bitL b.ex r && holdsB (numB b r) op n) := by
  obtain ⟨r1, r2, r3, hlt, heq, hgt⟩ := partB_spec h n
  have key : ∀ {x : Bool} {P : Prop} {q : Bool} (_ : x = true ↔ P) (_ : q = true ↔ P), x = q := fun {x P q} h1 h2 => by
    cases x <;> cases q <;> simp_all
  have w1 := wi_some h.rex r1
  have w2 := wi_some h.rex r2
  have w3 := wi_some h.rex r3
  unfold findB holdsB
  by_cases o1 : op = 1
  · rw [if_pos o1]; simp only [o1, if_true]
    exact ⟨r2, fun r hr => key (heq r hr) (by simp)⟩
  by_cases o2 : op = 2
  · rw [if_neg o1, if_pos o2]; simp only [o2, if_true, if_neg (by decide : ¬ (2 : Int) = 1)]
    refine ⟨w2.2.1, fun r hr => ?_⟩
    rw [w2.2.2 r hr]
    have := heq r hr
    cases hb : bitL b.ex r <;> cases hc : bitL (partB b n).2.1 r <;> simp_all
  by_cases o3 : op = 3
  · rw [if_neg o1, if_neg o2, if_pos o3]; simp only [o3, if_true, if_neg (by decide : ¬ (3 : Int) = 1), if_neg (by decide : ¬ (3 : Int) = 2)]
    exact ⟨r1, fun r hr => key (hlt r hr) (by simp)⟩
  by_cases o4 : op = 4
  · rw [if_neg o1, if_neg o2, if_neg o3, if_pos o4]; simp only [o4, if_true, if_neg (by decide : ¬ (4 : Int) = 1), if_neg (by decide : ¬ (4 : Int) = 2), if_neg (by decide : ¬ (4 : Int) = 3)]
    refine ⟨w3.2.1, fun r hr => ?_⟩
    rw [w3.2.2 r hr]
    have := hgt r hr
    cases hb : bitL b.ex r <;> cases hc : bitL (partB b n).2.2 r <;> simp_all <;> omega
  by_cases o5 : op = 5
  · rw [if_neg o1, if_neg o2, if_neg o3, if_neg o4, if_pos o5]; simp only [o5, if_true, if_neg (by decide : ¬ (5 : Int) = 1), if_neg (by decide : ¬ (5 : Int) = 2), if_neg (by decide : ¬ (5 : Int) = 3), if_neg (by decide : ¬ (5 : Int) = 4)]
    exact ⟨r3, fun r hr => key (hgt r hr) (by simp)⟩
  · rw [if_neg o1, if_neg o2, if_neg o3, if_neg o4, if_neg o5]; simp only [o1, o2, o3, o4, o5, if_false]
    refine ⟨w1.2.1, fun r hr => ?_⟩
    rw [w1.2.2 r hr]
    have := hlt r hr
    cases hb : bitL b.ex r <;> cases hc : bitL (partB b n).1 r <;> simp_all
theorem or_nil {l : List Ch} (hl : rightL l = true) : orL l [] = l := by
  obtain ⟨-, h2, h3⟩ := or_some hl right_nil
  exact ext_bits h2 hl fun n hn => by rw [h3 n hn, bitL_nil, Bool.or_false]
end Go.Proofs.YtnigpmbpipmgfaaDoor
