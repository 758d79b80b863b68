/-
  The least, the greatest of some rows, what is between; BsiOrders in plain.
-/
import Derived.Test.YtnigpmbpipmgfaaDoorBsY
import Derived.Test.YtnigpmbpipmgfaaDoorBsF
namespace Go.Proofs.YtnigpmbpipmgfaaDoor
open Go.RowKit Tess

theorem and_ex {b : Sl} (hc : IsCol b) {rows : List Ch} (hr : rightL rows = true) {r : Nat} (h : r < 65536) (hb : bitL (andL b.ex rows) r = true) : bitL b.ex r = true := by
  rw [(and_some hc.rex hr).2.2 r h, Bool.and_eq_true] at hb
  exact hb.1
theorem lst_spec {b : Sl} (hl : -9223372036854775808 ≤ b.least ∧ b.least ≤ 9223372036854775807) (hri : isRightB b = true) {rows : List Ch} (hr : rightL rows = true) (hne : andL b.ex rows ≠ []) :
    ∃ n, lstB b rows = (n, true) ∧ (∃ r, r < 65536 ∧ bitL (andL b.ex rows) r = true ∧ numB b r = n) ∧ ∀ r, r < 65536 → bitL (andL b.ex rows) r = true → n ≤ numB b r := by
  have hc := (right_iff hl).1 hri
  have a := and_some hc.rex hr
  have hd : ∀ x ∈ b.bits.reverse, rightL x = true := fun x hx => hc.rbits x (List.mem_reverse.1 hx)
  obtain ⟨⟨r, hr1, hb, e⟩, hall⟩ := downD_spec 0 hd a.2.1 hne
  refine ⟨numB b r, ?_, ⟨r, hr1, hb, rfl⟩, fun s hs hbs => ?_⟩
  · unfold lstB
    rw [fndB_yes ⟨⟨hri, hr⟩, hne⟩, ← e]
    show (IntKind.i64.wrap (b.least + ((valB b r : Nat) : Int)), true) = (numB b r, true)
    have := hc.most r hr1 (and_ex hc hr hr1 hb)
    rw [IntKind.wrap_i64]
    unfold numB
    congr 1
    omega
  · have h1 := hall s hs hbs
    have h2 : valB b r ≤ valB b s := by unfold valB; rw [e]; exact h1
    unfold numB
    omega
theorem mst_spec {b : Sl} (hl : -9223372036854775808 ≤ b.least ∧ b.least ≤ 9223372036854775807) (hri : isRightB b = true) {rows : List Ch} (hr : rightL rows = true) (hne : andL b.ex rows ≠ []) :
    ∃ n, mstB b rows = (n, true) ∧ (∃ r, r < 65536 ∧ bitL (andL b.ex rows) r = true ∧ numB b r = n) ∧ ∀ r, r < 65536 → bitL (andL b.ex rows) r = true → numB b r ≤ n := by
  have hc := (right_iff hl).1 hri
  have a := and_some hc.rex hr
  have hd : ∀ x ∈ b.bits.reverse, rightL x = true := fun x hx => hc.rbits x (List.mem_reverse.1 hx)
  obtain ⟨⟨r, hr1, hb, e⟩, hall⟩ := upD_spec 0 hd a.2.1 hne
  refine ⟨numB b r, ?_, ⟨r, hr1, hb, rfl⟩, fun s hs hbs => ?_⟩
  · unfold mstB
    rw [fndB_yes ⟨⟨hri, hr⟩, hne⟩, ← e]
    show (IntKind.i64.wrap (b.least + ((valB b r : Nat) : Int)), true) = (numB b r, true)
    have := hc.most r hr1 (and_ex hc hr hr1 hb)
    rw [IntKind.wrap_i64]
    unfold numB
    congr 1
    omega
  · have h1 := hall s hs hbs
    have h2 : valB b s ≤ valB b r := by unfold valB; rw [e]; exact h1
    unfold numB
    omega
theorem btw_spec {b : Sl} (hc : IsCol b) (hri : isRightB b = true) (x y : Int) : (btwB b x y).2 = 0 ∧ rightL (btwB b x y).1 = true ∧ ∀ r, r < 65536 → (bitL (btwB b x y).1 r = true ↔ bitL b.ex r = true ∧ x ≤ numB b r ∧ numB b r ≤ y) := by
  have p := partB_spec hc x
  have q := partB_spec hc y
  have w1 := wi_some hc.rex p.r1
  have w2 := wi_some hc.rex q.r3
  have a := and_some w1.2.1 w2.2.1
  have e : btwB b x y = (andL (wiL b.ex (partB b x).1) (wiL b.ex (partB b y).2.2), 0) := if_pos hri
  rw [e]
  refine ⟨rfl, a.2.1, fun r hr => ?_⟩
  show bitL (andL _ _) r = true ↔ _
  rw [a.2.2 r hr, w1.2.2 r hr, w2.2.2 r hr]
  have h1 := p.lt r hr
  have h2 := q.gt r hr
  have e1 : bitL (partB b x).1 r = false ↔ ¬ (bitL b.ex r = true ∧ numB b r < x) := by rw [← h1]; simp
  have e2 : bitL (partB b y).2.2 r = false ↔ ¬ (bitL b.ex r = true ∧ y < numB b r) := by rw [← h2]; simp
  simp only [Bool.and_eq_true, Bool.not_eq_true', e1, e2]
  by_cases hx : bitL b.ex r = true
  · simp only [hx, true_and]; omega
  · exact ⟨fun h => absurd h.1.1 hx, fun h => absurd h.1 hx⟩
theorem and_comm_L {l m : List Ch} (hl : rightL l = true) (hm : rightL m = true) : andL l m = andL m l :=
  ext_bits (and_some hl hm).2.1 (and_some hm hl).2.1 fun n hn => by rw [(and_some hl hm).2.2 n hn, (and_some hm hl).2.2 n hn, Bool.and_comm]
theorem num_range {b : Sl} (hl : -9223372036854775808 ≤ b.least ∧ b.least ≤ 9223372036854775807) (hc : IsCol b) {r : Nat} (hr : r < 65536) (hb : bitL b.ex r = true) : -9223372036854775808 ≤ numB b r ∧ numB b r ≤ 9223372036854775807 := by
  have := hc.most r hr hb
  unfold numB
  omega
theorem orders_none {b : Sl} {rows : List Ch} (h : andL b.ex rows = []) : lstB b rows = (0, false) ∧ mstB b rows = (0, false) := ⟨fndB_no fun k => k.2 h, fndB_no fun k => k.2 h⟩
/-- **BsiOrders, in plain.** -/
theorem orders_some {b : Sl} (hl : -9223372036854775808 ≤ b.least ∧ b.least ≤ 9223372036854775807) (hri : isRightB b = true) {rows : List Ch} (hr : rightL rows = true) (hne : andL b.ex rows ≠ []) :
    ∃ n m, lstB b rows = (n, true) ∧ mstB b rows = (m, true) ∧ n ≤ m ∧ (-9223372036854775808 ≤ n ∧ n ≤ 9223372036854775807) ∧ (-9223372036854775808 ≤ m ∧ m ≤ 9223372036854775807) ∧
      wiL (andL b.ex rows) (btwB b n m).1 = [] ∧ andL (findB b 1 n) (andL b.ex rows) ≠ [] ∧ andL (findB b 1 m) (andL b.ex rows) ≠ [] := by
  have hc := (right_iff hl).1 hri
  obtain ⟨n, e1, ⟨r, hr1, hb1, en⟩, h1⟩ := lst_spec hl hri hr hne
  obtain ⟨m, e2, ⟨s, hs1, hbs, em⟩, h2⟩ := mst_spec hl hri hr hne
  have a := and_some hc.rex hr
  have B := btw_spec hc hri n m
  have w := wi_some a.2.1 B.2.1
  have f := fun x => findB_spec hc 1 x
  refine ⟨n, m, e1, e2, by rw [← em]; exact h1 s hs1 hbs, by rw [← en]; exact num_range hl hc hr1 (and_ex hc hr hr1 hb1), by rw [← em]; exact num_range hl hc hs1 (and_ex hc hr hs1 hbs), ?_, ?_, ?_⟩
  · refine (nil_iff w.2.1).2 fun k hk => ?_
    rw [w.2.2 k hk]
    cases hb : bitL (andL b.ex rows) k with
    | false => rfl
    | true => rw [(B.2.2 k hk).2 ⟨and_ex hc hr hk hb, h1 k hk hb, h2 k hk hb⟩]; rfl
  · refine ne_of_bit (n := r) ?_
    rw [(and_some (f n).1 a.2.1).2.2 r hr1, hb1, (f n).2 r hr1, and_ex hc hr hr1 hb1, en]
    show (true && (n == n) && true) = true
    simp
  · refine ne_of_bit (n := s) ?_
    rw [(and_some (f m).1 a.2.1).2.2 s hs1, hbs, (f m).2 s hs1, and_ex hc hr hs1 hbs, em]
    show (true && (m == m) && true) = true
    simp
end Go.Proofs.YtnigpmbpipmgfaaDoor
