/-
  The best form of a set; what a container's bytes are the bytes of; the laws of chapter 6 on sets. Plain lists and numbers: no program.
-/
import Derived.Test.YtnigpmbpipmgfaaDoorSet2
namespace Tess

theorem runsAt (s : Nat) : RunsAt (nums s) (runs s) (runsOf (nums s)).2 := runsAt_of _ (sorted_nums s) fun _ h => (mem_nums.1 h).1
theorem runs_get_lt (s j : Nat) : (runs s)[j]?.getD 0 < 256 := by
  cases h : (runs s)[j]? with
  | none => simp
  | some x => exact (runsAt s).small x (List.mem_of_getElem? h)
theorem runs_length_le (s : Nat) : (runs s).length ≤ 256 := by
  have h := runsAt s
  have h1 := h.len
  have h2 := h.even
  have h3 : (runsOf (nums s)).2 ≤ 255 := by
    rw [runsOf_last]
    split
    · decide
    · rename_i hn
      have : (nums s).getLast hn ∈ nums s := List.getLast_mem hn
      have := (mem_nums.1 this).1
      rw [List.getLast?_eq_some_getLast hn, Option.getD_some]
      omega
  omega
/-- Behind a first number there is a pair. -/
theorem runsOf_pair : ∀ (l : List Nat) (k : Nat), k ≤ l.length → 0 < k → 2 ≤ (runsOf (l.take k)).1.length := by
  intro l k hk h0
  induction k with
  | zero => omega
  | succ k ih =>
    rw [List.take_succ_eq_append_getElem (by omega), runsOf_snoc]
    unfold runStep
    by_cases hz : k = 0
    · subst hz
      have : ¬ ((l[0] : Nat) : Int) = (runsOf (l.take 0)).2 + 1 := by
        rw [List.take_zero]; show ¬ _ = (-2 : Int) + 1; omega
      rw [if_neg this]; simp
    · have := ih (by omega) (by omega)
      split
      · rw [List.length_set]; exact this
      · simp
theorem runsOf_two {l : List Nat} (h : l ≠ []) : 2 ≤ (runsOf l).1.length := by
  have := runsOf_pair l l.length (Nat.le_refl _) (List.length_pos_iff.2 h)
  rwa [List.take_length] at this
theorem runsOf_length (l : List Nat) : (runsOf l).1.length ≤ 2 * l.length := by
  have h : ∀ k, k ≤ l.length → (runsOf (l.take k)).1.length ≤ 2 * k := by
    intro k
    induction k with
    | zero => intro _; simp [runsOf]
    | succ k ih =>
      intro hk
      rw [List.take_succ_eq_append_getElem (by omega), runsOf_snoc]
      have := ih (by omega)
      unfold runStep
      split
      · rw [List.length_set]; omega
      · simp; omega
  have := h l.length (Nat.le_refl _)
  rwa [List.take_length] at this
theorem read_runs {s : Nat} (hs : s < big) : readAll 3 (runs s) = s := by
  refine set_ext (readTo_lt (runs_get_lt s) _) hs fun n hn => ?_
  rw [testBit_readRuns _ _ (runsAt s).even]
  have := (runsAt s).mem n hn
  rw [mem_nums] at this
  rw [Bool.eq_iff_iff, this]
  exact ⟨fun h => h.2, fun h => ⟨hn, h⟩⟩

theorem read_as {s : Nat} (hs : s < big) {form : Int} {d : List Nat} (h : asOf s form = some d) : readAll form d = s := by
  unfold asOf at h
  split at h
  · rename_i hf; subst hf; cases h; exact read_arr hs (nums_get_lt s)
  · split at h
    · rename_i hf; subst hf; cases h; exact read_raw hs
    · split at h
      · rename_i hf; subst hf; cases h; exact read_runs hs
      · cases h

/-- A container: its form, its bytes. -/
structure C where
  form : Int
  data : List Nat
deriving DecidableEq

/-- The best form. -/
def best (s : Nat) : C :=
  let o : C := if (runs s).length < (nums s).length then ⟨3, runs s⟩ else ⟨1, nums s⟩
  if 32 < o.data.length then ⟨2, raw s⟩ else o

theorem best_cases (s : Nat) : (best s = ⟨1, nums s⟩ ∧ (nums s).length ≤ 32 ∧ (nums s).length ≤ (runs s).length) ∨ (best s = ⟨3, runs s⟩ ∧ (runs s).length < (nums s).length ∧ (runs s).length ≤ 32) ∨
    (best s = ⟨2, raw s⟩ ∧ 32 < (runs s).length ∧ 32 < (nums s).length) := by
  unfold best
  dsimp only
  by_cases h : (runs s).length < (nums s).length
  · rw [if_pos h]
    by_cases h2 : 32 < (runs s).length
    · rw [if_pos h2]; exact .inr (.inr ⟨rfl, by omega, by omega⟩)
    · rw [if_neg h2]; exact .inr (.inl ⟨rfl, by omega, by omega⟩)
  · rw [if_neg h]
    by_cases h2 : 32 < (nums s).length
    · rw [if_pos h2]; exact .inr (.inr ⟨rfl, by omega, by omega⟩)
    · rw [if_neg h2]; exact .inl ⟨rfl, by omega, by omega⟩
theorem best_as (s : Nat) : asOf s (best s).form = some (best s).data := by
  rcases best_cases s with ⟨h, _⟩ | ⟨h, _⟩ | ⟨h, _⟩ <;> rw [h] <;> rfl

/-- The set whose bytes these are. -/
def ofC (form : Int) (d : List Nat) : Option Nat := if asOf (readAll form d) form = some d then some (readAll form d) else none
theorem ofC_as {s : Nat} (hs : s < big) {form : Int} {d : List Nat} (h : asOf s form = some d) : ofC form d = some s := by
  unfold ofC; rw [read_as hs h, h, if_pos rfl]
theorem ofC_best {s : Nat} (hs : s < big) : ofC (best s).form (best s).data = some s := ofC_as hs (best_as s)

theorem best_length_le (s : Nat) : (best s).data.length ≤ 32 := by
  rcases best_cases s with ⟨h, h1, h2⟩ | ⟨h, h1, h2⟩ | ⟨h, h1, h2⟩ <;> rw [h]
  · exact h1
  · exact h2
  · exact Nat.le_of_eq (raw_length s)
theorem best_length_nums (s : Nat) : (best s).data.length ≤ (nums s).length := by
  rcases best_cases s with ⟨h, h1, h2⟩ | ⟨h, h1, h2⟩ | ⟨h, h1, h2⟩ <;> rw [h]
  · exact Nat.le_refl _
  · exact Nat.le_of_lt h1
  · simp only [raw_length]; omega
theorem best_length_runs (s : Nat) : (best s).data.length ≤ (runs s).length := by
  rcases best_cases s with ⟨h, h1, h2⟩ | ⟨h, h1, h2⟩ | ⟨h, h1, h2⟩ <;> rw [h]
  · exact h2
  · exact Nat.le_refl _
  · simp only [raw_length]; omega
theorem best_least {s : Nat} {form : Int} {d : List Nat} (h : asOf s form = some d) : (best s).data.length ≤ d.length := by
  unfold asOf at h
  split at h
  · cases h; exact best_length_nums s
  · split at h
    · cases h; rw [raw_length]; exact best_length_le s
    · split at h
      · cases h; exact best_length_runs s
      · cases h

/-! ## the laws -/
def count (s : Nat) : Nat := (nums s).length
theorem count_or_and (a b : Nat) : count (a ||| b) + count (a &&& b) = count a + count b := by
  unfold count nums
  generalize List.range 256 = l
  induction l with
  | nil => rfl
  | cons n l ih =>
    simp only [List.filter_cons, Nat.testBit_or, Nat.testBit_and] at ih ⊢
    cases a.testBit n <;> cases b.testBit n <;> simp <;> omega

/-- What is in a, and not in b: as Go's and-not of words. -/
def minus (a b : Nat) : Nat := a ^^^ (a &&& b)
theorem testBit_minus (a b n : Nat) : (minus a b).testBit n = (a.testBit n && !b.testBit n) := by
  unfold minus
  rw [Nat.testBit_xor, Nat.testBit_and]
  cases a.testBit n <;> cases b.testBit n <;> rfl
/-- The operations. -/
def opOf (op : Int) (a b : Nat) : Nat := if op = 1 then a &&& b else if op = 2 then a ||| b else if op = 3 then a ^^^ b else minus a b
def opBit (op : Int) (a b : Bool) : Bool := if op = 1 then a && b else if op = 2 then a || b else if op = 3 then a ^^ b else a && !b
theorem testBit_opOf (op : Int) (a b n : Nat) : (opOf op a b).testBit n = opBit op (a.testBit n) (b.testBit n) := by
  unfold opOf opBit
  split
  · exact Nat.testBit_and ..
  · split
    · exact Nat.testBit_or ..
    · split
      · exact Nat.testBit_xor ..
      · exact testBit_minus ..
theorem opBit_false (op : Int) : opBit op false false = false := by
  unfold opBit; repeat' split
  all_goals rfl
theorem opOf_lt {op : Int} {a b : Nat} (ha : a < big) (hb : b < big) : opOf op a b < big :=
  lt_big_of fun n hn => by rw [testBit_opOf, testBit_big ha hn, testBit_big hb hn, opBit_false]
theorem word_lt {x y : Nat} {op : Int} (hx : x < 18446744073709551616) (hy : y < 18446744073709551616) : opOf op x y < 18446744073709551616 := by
  rw [show (18446744073709551616 : Nat) = 2 ^ 64 from by decide] at *
  refine Nat.lt_pow_two_of_testBit _ fun n hn => ?_
  rw [testBit_opOf, Nat.testBit_lt_two_pow (Nat.lt_of_lt_of_le hx (Nat.pow_le_pow_right (by decide) hn)), Nat.testBit_lt_two_pow (Nat.lt_of_lt_of_le hy (Nat.pow_le_pow_right (by decide) hn)), opBit_false]
theorem limb_opOf (op : Int) (a b i : Nat) : limb (opOf op a b) i = opOf op (limb a i) (limb b i) := by
  refine limb_eq_of (word_lt (limb_lt _ _) (limb_lt _ _)) fun j hj => ?_
  rw [testBit_opOf, testBit_opOf, testBit_limb, testBit_limb]
  simp [hj]

/-- How many are at most n. -/
def rank (s : Nat) (n : Int) : Nat := ((nums s).filter fun m : Nat => decide ((m : Int) ≤ n)).length
theorem rank_succ (s n : Nat) : rank s n = rank s ((n : Int) - 1) + if n < 256 ∧ s.testBit n = true then 1 else 0 := by
  unfold rank
  have hs := sorted_nums s
  have key : ∀ l : List Nat, l.Pairwise (· < ·) → (l.filter fun m : Nat => decide ((m : Int) ≤ n)).length = (l.filter fun m : Nat => decide ((m : Int) ≤ (n : Int) - 1)).length + if n ∈ l then 1 else 0 := by
    intro l
    induction l with
    | nil => intro _; rfl
    | cons a l ih =>
      intro hp
      rw [List.pairwise_cons] at hp
      have ih := ih hp.2
      simp only [List.filter_cons]
      by_cases h1 : a = n
      · subst h1
        have hnot : a ∉ l := fun h => by have := hp.1 a h; omega
        have e1 : ((a : Int) ≤ a) := by omega
        have e2 : ¬ ((a : Int) ≤ (a : Int) - 1) := by omega
        simp only [hnot, if_false] at ih
        simp only [e1, e2, decide_true, decide_false, if_true, Bool.false_eq_true, if_false, List.length_cons, List.mem_cons, true_or, ih]
      · have hn : n ≠ a := fun e => h1 e.symm
        by_cases h2 : (a : Int) ≤ (n : Int) - 1
        · have h3 : (a : Int) ≤ n := by omega
          simp only [h2, h3, decide_true, if_true, List.length_cons, ih, List.mem_cons, hn, false_or]; omega
        · have h3 : ¬ (a : Int) ≤ n := by omega
          simp only [h2, h3, decide_false, Bool.false_eq_true, if_false, ih, List.mem_cons, hn, false_or]
  rw [key _ hs]
  congr 1
  simp only [mem_nums]
theorem rank_neg (s : Nat) {n : Int} (h : n < 0) : rank s n = 0 := by
  unfold rank
  rw [List.length_eq_zero_iff, List.filter_eq_nil_iff]
  intro m _; simp; omega
theorem rank_all (s : Nat) {n : Int} (h : 255 ≤ n) : rank s n = count s := by
  unfold rank count
  rw [List.filter_eq_self.2]
  intro m hm
  have := (mem_nums.1 hm).1
  simp; omega
theorem rank_le_count (s : Nat) (n : Int) : rank s n ≤ count s := List.length_filter_le _ _
theorem count_le (s : Nat) : count s ≤ 256 := by
  have := List.length_filter_le (fun n => s.testBit n) (List.range 256)
  simpa [count, nums] using this

/-- The number of a place: its ranks. -/
theorem rank_place {s p : Nat} (h : p < (nums s).length) : rank s ((nums s)[p] : Nat) = p + 1 ∧ rank s (((nums s)[p] : Nat) - 1 : Int) = p := by
  have hs := sorted_nums s
  have gen : ∀ (l : List Nat) (hl : l.Pairwise (· < ·)) (p : Nat) (h : p < l.length), (l.filter fun m : Nat => decide ((m : Int) ≤ (l[p] : Nat))).length = p + 1 ∧ (l.filter fun m : Nat => decide ((m : Int) ≤ ((l[p] : Nat) : Int) - 1)).length = p := by
    intro l
    induction l with
    | nil => intro _ p h; simp at h
    | cons a l ih =>
      intro hl p h
      rw [List.pairwise_cons] at hl
      cases p with
      | zero =>
        simp only [List.getElem_cons_zero, List.filter_cons]
        have e1 : ((a : Int) ≤ a) := by omega
        have e2 : ¬ ((a : Int) ≤ (a : Int) - 1) := by omega
        have n1 : (l.filter fun m : Nat => decide ((m : Int) ≤ a)) = [] := by
          rw [List.filter_eq_nil_iff]; intro m hm; have := hl.1 m hm; simp; omega
        have n2 : (l.filter fun m : Nat => decide ((m : Int) ≤ (a : Int) - 1)) = [] := by
          rw [List.filter_eq_nil_iff]; intro m hm; have := hl.1 m hm; simp; omega
        simp only [e1, e2, decide_true, decide_false, if_true, Bool.false_eq_true, if_false, n1, n2, List.length_cons, List.length_nil]
        exact ⟨trivial, trivial⟩
      | succ p =>
        have hp : p < l.length := by simpa using h
        have := ih hl.2 p hp
        have hlt := hl.1 l[p] (List.getElem_mem hp)
        simp only [List.getElem_cons_succ, List.filter_cons]
        have e1 : (a : Int) ≤ (l[p] : Nat) := by omega
        have e2 : (a : Int) ≤ ((l[p] : Nat) : Int) - 1 := by omega
        simp only [e1, e2, decide_true, if_true, List.length_cons, this]
        exact ⟨trivial, trivial⟩
  exact gen _ hs p h
end Tess
