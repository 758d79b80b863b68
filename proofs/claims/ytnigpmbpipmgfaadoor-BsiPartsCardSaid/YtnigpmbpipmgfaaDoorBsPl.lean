/-
  BsiParts in plain.
-/
import Derived.Test.YtnigpmbpipmgfaaDoorBsY
namespace Go.Proofs.YtnigpmbpipmgfaaDoor
open Go.RowKit Tess

theorem bool_le (a n : Int) : (decide (a < n) || (a == n)) = decide (a ≤ n) := by rw [Bool.eq_iff_iff]; simp; omega
theorem bool_ge (a n : Int) : (decide (n < a) || (a == n)) = decide (n ≤ a) := by rw [Bool.eq_iff_iff]; simp; omega
theorem bool_ne (a n : Int) : (decide (a < n) || decide (n < a)) = (a != n) := by rw [Bool.eq_iff_iff]; simp; omega
theorem bool_all (a n : Int) : (decide (a ≤ n) || decide (n < a)) = true := by simp; omega
theorem holds1 (a n : Int) : holdsB a 1 n = (a == n) := rfl
theorem holds2 (a n : Int) : holdsB a 2 n = (a != n) := rfl
theorem holds3 (a n : Int) : holdsB a 3 n = decide (a < n) := rfl
theorem holds4 (a n : Int) : holdsB a 4 n = decide (a ≤ n) := rfl
theorem holds5 (a n : Int) : holdsB a 5 n = decide (n < a) := rfl
theorem holds6 (a n : Int) : holdsB a 6 n = decide (n ≤ a) := rfl
theorem filter_three {p1 p2 p3 p : Nat → Bool} : ∀ {xs : List Nat}, (∀ x ∈ xs, (p1 x).toNat + (p2 x).toNat + (p3 x).toNat = (p x).toNat) → (xs.filter p1).length + (xs.filter p2).length + (xs.filter p3).length = (xs.filter p).length
  | [], _ => rfl
  | x :: xs, h => by
    have h1 := h x List.mem_cons_self
    have h2 := filter_three (xs := xs) (fun y hy => h y (List.mem_cons_of_mem _ hy))
    simp only [List.filter_cons]
    revert h1
    cases p1 x <;> cases p2 x <;> cases p3 x <;> cases p x <;> intro h1 <;> first | (exfalso; revert h1; decide) | (simp; omega)
structure PartsP (b : Sl) (n : Int) : Prop where
  r : ∀ op, rightL (findB b op n) = true
  le : orL (findB b 3 n) (findB b 1 n) = findB b 4 n
  ge : orL (findB b 5 n) (findB b 1 n) = findB b 6 n
  ne : orL (findB b 3 n) (findB b 5 n) = findB b 2 n
  all : orL (findB b 4 n) (findB b 5 n) = b.ex
  cnt : cntN (findB b 3 n) + cntN (findB b 1 n) + cntN (findB b 5 n) = cntN b.ex
/-- **BsiParts, in plain.** -/
theorem parts_plain {b : Sl} (hc : IsCol b) (n : Int) : PartsP b n := by
  have s := fun op => findB_spec hc op n
  refine ⟨fun op => (s op).1, ?_, ?_, ?_, ?_, ?_⟩
  · have o := or_some (s 3).1 (s 1).1
    exact ext_bits o.2.1 (s 4).1 fun r hr => by
      rw [o.2.2 r hr, (s 3).2 r hr, (s 1).2 r hr, (s 4).2 r hr, ← Bool.and_or_distrib_left, holds3, holds1, holds4, bool_le]
  · have o := or_some (s 5).1 (s 1).1
    exact ext_bits o.2.1 (s 6).1 fun r hr => by
      rw [o.2.2 r hr, (s 5).2 r hr, (s 1).2 r hr, (s 6).2 r hr, ← Bool.and_or_distrib_left, holds5, holds1, holds6, bool_ge]
  · have o := or_some (s 3).1 (s 5).1
    exact ext_bits o.2.1 (s 2).1 fun r hr => by
      rw [o.2.2 r hr, (s 3).2 r hr, (s 5).2 r hr, (s 2).2 r hr, ← Bool.and_or_distrib_left, holds3, holds5, holds2, bool_ne]
  · have o := or_some (s 4).1 (s 5).1
    exact ext_bits o.2.1 hc.rex fun r hr => by
      rw [o.2.2 r hr, (s 4).2 r hr, (s 5).2 r hr, ← Bool.and_or_distrib_left, holds4, holds5, bool_all, Bool.and_true]
  · unfold cntN
    refine filter_three fun r hr => ?_
    have hr' := List.mem_range.1 hr
    rw [(s 3).2 r hr', (s 1).2 r hr', (s 5).2 r hr', holds3, holds1, holds5]
    cases bitL b.ex r
    · rfl
    · simp only [Bool.true_and]
      rcases Int.lt_trichotomy (numB b r) n with h | h | h
      · rw [decide_eq_true h, beq_false_of_ne (by omega), decide_eq_false (by omega)]; rfl
      · rw [decide_eq_false (by omega), h, decide_eq_false (by omega)]; simp
      · rw [decide_eq_false (by omega), beq_false_of_ne (by omega), decide_eq_true h]; rfl
theorem parts_cnt {b : Sl} (hc : IsCol b) (n : Int) : IntKind.i64.wrap (IntKind.i64.wrap (cntL (findB b 3 n) + cntL (findB b 1 n)) + cntL (findB b 5 n)) = cntL b.ex := by
  have P := parts_plain hc n
  rw [cntN_eq (P.r 3), cntN_eq (P.r 1), cntN_eq (P.r 5), cntN_eq hc.rex, IntKind.wrap_i64, IntKind.wrap_i64]
  have := cntN_le b.ex
  have := P.cnt
  omega
end Go.Proofs.YtnigpmbpipmgfaaDoor
