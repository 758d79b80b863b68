/-
  Columns of numbers, bit by bit: comparisons, sums, in plain. No program.
-/
import Derived.Test.YtnigpmbpipmgfaaDoorBsP
namespace Go.Proofs.YtnigpmbpipmgfaaDoor
open Go.RowKit Tess

/-- How many binary digits a number has. -/
def lenB (x : Nat) : Nat := if x = 0 then 0 else Nat.log2 x + 1
theorem lenB_le {x k : Nat} : lenB x ≤ k ↔ x < 2 ^ k := by
  unfold lenB
  by_cases h : x = 0
  · rw [if_pos h, h]; exact ⟨fun _ => Nat.pow_pos (by decide), fun _ => Nat.zero_le _⟩
  · rw [if_neg h, Nat.add_one_le_iff, Nat.log2_lt h]
/-- A row's number. -/
def numB (b : Sl) (n : Nat) : Int := b.least + (valB b n : Nat)
/-- The digits of a number, and their rows, the greatest first. -/
def digD (bits : List (List Ch)) (x : Nat) : List (Bool × List Ch) := (List.range bits.length).map fun i => (x.testBit (bits.length - 1 - i), bits[bits.length - 1 - i]?.getD [])
theorem digD_len (bits : List (List Ch)) (x : Nat) : (digD bits x).length = bits.length := by unfold digD; rw [List.length_map, List.length_range]
theorem digD_snd (bits : List (List Ch)) (x : Nat) : (digD bits x).map (·.2) = bits.reverse := by
  apply List.ext_getElem
  · rw [List.length_map, digD_len, List.length_reverse]
  · intro i h1 h2
    rw [List.length_reverse] at h2
    rw [List.getElem_map, List.getElem_reverse]
    unfold digD
    rw [List.getElem_map, List.getElem_range]
    simp [show bits.length - 1 - i < bits.length by omega]
theorem digD_get {bits : List (List Ch)} {x i : Nat} (h : i < (digD bits x).length) : (digD bits x)[i] = (x.testBit (bits.length - 1 - i), bits[bits.length - 1 - i]?.getD []) := by simp [digD]
theorem digD_cons (b : List Ch) (bits : List (List Ch)) (x : Nat) : digD (bits ++ [b]) x = (x.testBit bits.length, b) :: digD bits x := by
  apply List.ext_getElem
  · rw [digD_len, List.length_cons, digD_len, List.length_append]; rfl
  · intro i h1 h2
    have h3 : i < bits.length + 1 := by rw [digD_len, List.length_append] at h1; exact h1
    rw [digD_get]
    cases i with
    | zero => simp
    | succ i =>
      rw [List.getElem_cons_succ, digD_get, List.length_append]
      have e : bits.length + [b].length - 1 - (i + 1) = bits.length - 1 - i := by simp; omega
      rw [e, List.getElem?_append_left (by omega)]
theorem valN_dig (bits : List (List Ch)) : ∀ (x : Nat), valN (digD bits x) 0 = x % 2 ^ bits.length := by
  intro x
  obtain ⟨l, hl⟩ : ∃ l, bits.reverse = l := ⟨_, rfl⟩
  induction l generalizing bits with
  | nil =>
    have : bits = [] := by simpa using hl
    subst this
    simp [digD, valN, Nat.mod_one]
  | cons b l ih =>
    have e : bits = l.reverse ++ [b] := by
      have := congrArg List.reverse hl
      rwa [List.reverse_reverse, List.reverse_cons] at this
    subst e
    rw [digD_cons]
    show valN (digD l.reverse x) (2 * 0 + (x.testBit l.reverse.length).toNat) = _
    rw [valN_add, ih l.reverse (by rw [List.reverse_reverse]), digD_len, List.length_append]
    have h2 : x % 2 ^ (l.reverse.length + 1) = x % 2 ^ l.reverse.length + 2 ^ l.reverse.length * (x / 2 ^ l.reverse.length % 2) := Nat.mod_pow_succ
    have h3 : (x.testBit l.reverse.length).toNat = x / 2 ^ l.reverse.length % 2 := by
      rw [Nat.testBit_eq_decide_div_mod_eq]
      have := Nat.mod_lt (x / 2 ^ l.reverse.length) (by decide : 2 > 0)
      rcases (show x / 2 ^ l.reverse.length % 2 = 0 ∨ x / 2 ^ l.reverse.length % 2 = 1 by omega) with h | h <;> rw [h] <;> rfl
    show _ = x % 2 ^ (l.reverse.length + 1)
    rw [h2, h3, Nat.mul_zero, Nat.zero_add, Nat.mul_comm, Nat.add_comm]

/-- parted(n). -/
def partB (b : Sl) (n : Int) : List Ch × List Ch × List Ch :=
  if n < b.least then ([], [], b.ex)
  else if b.bits.length < lenB ((n - b.least).toNat) then (b.ex, [], [])
  else partF (digD b.bits (n - b.least).toNat) ([], b.ex, [])
/-- They part a column's rows by their numbers. -/
structure PartsI (b : Sl) (n : Int) (p : List Ch × List Ch × List Ch) : Prop where
  r1 : rightL p.1 = true
  r2 : rightL p.2.1 = true
  r3 : rightL p.2.2 = true
  lt : ∀ r, r < 65536 → (bitL p.1 r = true ↔ bitL b.ex r = true ∧ numB b r < n)
  eq : ∀ r, r < 65536 → (bitL p.2.1 r = true ↔ bitL b.ex r = true ∧ numB b r = n)
  gt : ∀ r, r < 65536 → (bitL p.2.2 r = true ↔ bitL b.ex r = true ∧ n < numB b r)
theorem valB_lt (b : Sl) (r : Nat) : valB b r < 2 ^ b.bits.length := by
  have := valT_lt b.bits.reverse r
  rwa [List.length_reverse] at this
theorem partB_spec {b : Sl} (h : IsCol b) (n : Int) : PartsI b n (partB b n) := by
  unfold partB
  by_cases h1 : n < b.least
  · rw [if_pos h1]
    refine ⟨rfl, rfl, h.rex, fun r hr => ?_, fun r hr => ?_, fun r hr => ?_⟩
    · rw [bitL_nil]; exact ⟨fun h => (by cases h), fun ⟨_, h2⟩ => by unfold numB at h2; omega⟩
    · rw [bitL_nil]; exact ⟨fun h => (by cases h), fun ⟨_, h2⟩ => by unfold numB at h2; omega⟩
    · exact ⟨fun h => ⟨h, by unfold numB; omega⟩, fun h => h.1⟩
  · rw [if_neg h1]
    by_cases h2 : b.bits.length < lenB ((n - b.least).toNat)
    · rw [if_pos h2]
      have h3 : 2 ^ b.bits.length ≤ (n - b.least).toNat := by
        rcases Nat.lt_or_ge (n - b.least).toNat (2 ^ b.bits.length) with h' | h'
        · have := lenB_le.2 h'; omega
        · exact h'
      have h4 : ∀ r, numB b r < n := fun r => by
        have := valB_lt b r
        unfold numB
        omega
      refine ⟨h.rex, rfl, rfl, fun r hr => ?_, fun r hr => ?_, fun r hr => ?_⟩
      · exact ⟨fun h => ⟨h, h4 r⟩, fun h => h.1⟩
      · rw [bitL_nil]; exact ⟨fun h => (by cases h), fun ⟨_, h5⟩ => by have := h4 r; omega⟩
      · rw [bitL_nil]; exact ⟨fun h => (by cases h), fun ⟨_, h5⟩ => by have := h4 r; omega⟩
    · rw [if_neg h2]
      have h3 : (n - b.least).toNat < 2 ^ b.bits.length := lenB_le.1 (by omega)
      have hd : ∀ y ∈ digD b.bits (n - b.least).toNat, rightL y.2 = true := fun y hy => by
        have : y.2 ∈ (digD b.bits (n - b.least).toNat).map (·.2) := List.mem_map.2 ⟨y, hy, rfl⟩
        rw [digD_snd, List.mem_reverse] at this
        exact h.rbits _ this
      have hp := partF_spec (E := bitL b.ex) (x := fun _ => 0) (k := 0) (p := ([], b.ex, [])) hd
        ⟨rfl, h.rex, rfl, fun r _ => by rw [bitL_nil]; exact ⟨fun h => (by cases h), fun h => absurd h.2 (Nat.lt_irrefl _)⟩, fun r _ => ⟨fun h => ⟨h, rfl⟩, fun h => h.1⟩, fun r _ => by rw [bitL_nil]; exact ⟨fun h => (by cases h), fun h => absurd h.2 (Nat.lt_irrefl _)⟩⟩
      have e1 : ∀ r, valP (digD b.bits (n - b.least).toNat) r 0 = valB b r := fun r => by unfold valP valB; rw [digD_snd]
      have e2 : valN (digD b.bits (n - b.least).toNat) 0 = (n - b.least).toNat := by rw [valN_dig, Nat.mod_eq_of_lt h3]
      refine ⟨hp.r1, hp.r2, hp.r3, fun r hr => ?_, fun r hr => ?_, fun r hr => ?_⟩
      · rw [hp.lt r hr, e1, e2]; unfold numB; exact ⟨fun ⟨a, c⟩ => ⟨a, by omega⟩, fun ⟨a, c⟩ => ⟨a, by omega⟩⟩
      · rw [hp.eq r hr, e1, e2]; unfold numB; exact ⟨fun ⟨a, c⟩ => ⟨a, by omega⟩, fun ⟨a, c⟩ => ⟨a, by omega⟩⟩
      · rw [hp.gt r hr, e1, e2]; unfold numB; exact ⟨fun ⟨a, c⟩ => ⟨a, by omega⟩, fun ⟨a, c⟩ => ⟨a, by omega⟩⟩

/-- find(c, n). -/
def findB (b : Sl) (op n : Int) : List Ch :=
  if op = 1 then (partB b n).2.1 else if op = 2 then wiL b.ex (partB b n).2.1 else if op = 3 then (partB b n).1
  else if op = 4 then wiL b.ex (partB b n).2.2 else if op = 5 then (partB b n).2.2 else wiL b.ex (partB b n).1
/-- Does a comparison hold? -/
def holdsB (a op n : Int) : Bool :=
  if op = 1 then a == n else if op = 2 then a != n else if op = 3 then decide (a < n) else if op = 4 then decide (a ≤ n) else if op = 5 then decide (n < a) else decide (n ≤ a)
theorem findB_spec {b : Sl} (h : IsCol b) (op n : Int) : rightL (findB b op n) = true ∧ ∀ r, r < 65536 → bitL (findB b op n) r = (bitL b.ex r && holdsB (numB b r) op n) := by
  obtain ⟨r1, r2, r3, hlt, heq, hgt⟩ := partB_spec h n
  have key : ∀ {x : Bool} {P : Prop} {q : Bool} (_ : x = true ↔ P) (_ : q = true ↔ P), x = q := fun {x P q} h1 h2 => by
    cases x <;> cases q <;> simp_all
  have w1 := wi_some h.rex r1
  have w2 := wi_some h.rex r2
  have w3 := wi_some h.rex r3
  unfold findB holdsB
  by_cases o1 : op = 1
  · rw [if_pos o1]; simp only [o1, if_true]
    exact ⟨r2, fun r hr => key (heq r hr) (by simp)⟩
  by_cases o2 : op = 2
  · rw [if_neg o1, if_pos o2]; simp only [o2, if_true, if_neg (by decide : ¬ (2 : Int) = 1)]
    refine ⟨w2.2.1, fun r hr => ?_⟩
    rw [w2.2.2 r hr]
    have := heq r hr
    cases hb : bitL b.ex r <;> cases hc : bitL (partB b n).2.1 r <;> simp_all
  by_cases o3 : op = 3
  · rw [if_neg o1, if_neg o2, if_pos o3]; simp only [o3, if_true, if_neg (by decide : ¬ (3 : Int) = 1), if_neg (by decide : ¬ (3 : Int) = 2)]
    exact ⟨r1, fun r hr => key (hlt r hr) (by simp)⟩
  by_cases o4 : op = 4
  · rw [if_neg o1, if_neg o2, if_neg o3, if_pos o4]; simp only [o4, if_true, if_neg (by decide : ¬ (4 : Int) = 1), if_neg (by decide : ¬ (4 : Int) = 2), if_neg (by decide : ¬ (4 : Int) = 3)]
    refine ⟨w3.2.1, fun r hr => ?_⟩
    rw [w3.2.2 r hr]
    have := hgt r hr
    cases hb : bitL b.ex r <;> cases hc : bitL (partB b n).2.2 r <;> simp_all <;> omega
  by_cases o5 : op = 5
  · rw [if_neg o1, if_neg o2, if_neg o3, if_neg o4, if_pos o5]; simp only [o5, if_true, if_neg (by decide : ¬ (5 : Int) = 1), if_neg (by decide : ¬ (5 : Int) = 2), if_neg (by decide : ¬ (5 : Int) = 3), if_neg (by decide : ¬ (5 : Int) = 4)]
    exact ⟨r3, fun r hr => key (hgt r hr) (by simp)⟩
  · rw [if_neg o1, if_neg o2, if_neg o3, if_neg o4, if_neg o5]; simp only [o1, o2, o3, o4, o5, if_false]
    refine ⟨w1.2.1, fun r hr => ?_⟩
    rw [w1.2.2 r hr]
    have := hlt r hr
    cases hb : bitL b.ex r <;> cases hc : bitL (partB b n).1 r <;> simp_all
theorem or_nil {l : List Ch} (hl : rightL l = true) : orL l [] = l := by
  obtain ⟨-, h2, h3⟩ := or_some hl right_nil
  exact ext_bits h2 hl fun n hn => by rw [h3 n hn, bitL_nil, Bool.or_false]
end Go.Proofs.YtnigpmbpipmgfaaDoor
