/-
  Sets of numbers from 0 to 255 as the bits of one natural number; their four words of 64 bits; their bytes in three forms, and back. Plain lists and numbers: no program.
-/
namespace Tess

/-- The numbers that are there, rising. -/
def nums (s : Nat) : List Nat := (List.range 256).filter fun n => s.testBit n
/-- The places of the digits 1 of a word, rising. -/
def lows (x : Nat) : List Nat := (List.range 64).filter fun n => x.testBit n
/-- Word i. -/
def limb (s i : Nat) : Nat := s / 2 ^ (64 * i) % 18446744073709551616
def big : Nat := 2 ^ 256

theorem limb_lt (s i : Nat) : limb s i < 18446744073709551616 := Nat.mod_lt _ (by decide)

theorem testBit_limb (s i j : Nat) : (limb s i).testBit j = (decide (j < 64) && s.testBit (64 * i + j)) := by
  unfold limb
  rw [show (18446744073709551616 : Nat) = 2 ^ 64 from by decide, Nat.testBit_mod_two_pow, Nat.testBit_div_two_pow]
  rw [Nat.add_comm j]

theorem testBit_of_limb (s n : Nat) : s.testBit n = (limb s (n / 64)).testBit (n % 64) := by
  rw [testBit_limb]
  have h : n % 64 < 64 := Nat.mod_lt _ (by decide)
  simp only [h, decide_true, Bool.true_and]
  congr 1
  omega

theorem lt_big_of {s : Nat} (h : ∀ n, 256 ≤ n → s.testBit n = false) : s < big := Nat.lt_pow_two_of_testBit s h
theorem testBit_big {s : Nat} (h : s < big) {n : Nat} (hn : 256 ≤ n) : s.testBit n = false :=
  Nat.testBit_lt_two_pow (Nat.lt_of_lt_of_le h (Nat.pow_le_pow_right (by decide) hn))

theorem set_ext {s t : Nat} (hs : s < big) (ht : t < big) (h : ∀ n, n < 256 → s.testBit n = t.testBit n) : s = t := by
  apply Nat.eq_of_testBit_eq
  intro n
  by_cases hn : n < 256
  · exact h n hn
  · rw [testBit_big hs (by omega), testBit_big ht (by omega)]

theorem limb_ext {s t : Nat} (hs : s < big) (ht : t < big) (h : ∀ i, i < 4 → limb s i = limb t i) : s = t :=
  set_ext hs ht fun n hn => by rw [testBit_of_limb s, testBit_of_limb t, h _ (by omega)]

theorem limb_eq_of {s i x : Nat} (hx : x < 18446744073709551616) (h : ∀ j, j < 64 → s.testBit (64 * i + j) = x.testBit j) : limb s i = x := by
  apply Nat.eq_of_testBit_eq
  intro j
  rw [testBit_limb]
  by_cases hj : j < 64
  · simp [hj, h j hj]
  · simp only [hj, decide_false, Bool.false_and]
    exact (Nat.testBit_lt_two_pow (Nat.lt_of_lt_of_le hx (by rw [show (18446744073709551616 : Nat) = 2 ^ 64 from by decide]; exact Nat.pow_le_pow_right (by decide) (by omega)))).symm

/-! ## putting in, turning -/
def put (s n : Nat) : Nat := s ||| 2 ^ n
def turn (s n : Nat) : Nat := s ^^^ 2 ^ n

theorem testBit_put (s n m : Nat) : (put s n).testBit m = (s.testBit m || decide (n = m)) := by
  unfold put; rw [Nat.testBit_or, Nat.testBit_two_pow]
theorem testBit_turn (s n m : Nat) : (turn s n).testBit m = (s.testBit m ^^ decide (n = m)) := by
  unfold turn; rw [Nat.testBit_xor, Nat.testBit_two_pow]

theorem put_lt {s n : Nat} (hs : s < big) (hn : n < 256) : put s n < big := by
  unfold put big; exact Nat.or_lt_two_pow hs (Nat.pow_lt_pow_right (by decide) hn)
theorem turn_lt {s n : Nat} (hs : s < big) (hn : n < 256) : turn s n < big := by
  unfold turn big; exact Nat.xor_lt_two_pow hs (Nat.pow_lt_pow_right (by decide) hn)

theorem limb_put (s n i : Nat) : limb (put s n) i = if n / 64 = i then limb s i ||| 2 ^ (n % 64) else limb s i := by
  have hm : n % 64 < 64 := Nat.mod_lt _ (by decide)
  have hp : (2 : Nat) ^ (n % 64) < 18446744073709551616 := Nat.lt_of_lt_of_le (Nat.pow_lt_pow_right (by decide) hm) (by decide)
  split
  · rename_i h
    refine limb_eq_of ?_ ?_
    · rw [show (18446744073709551616 : Nat) = 2 ^ 64 from by decide] at hp ⊢
      exact Nat.or_lt_two_pow (by have := limb_lt s i; rw [show (18446744073709551616 : Nat) = 2 ^ 64 from by decide] at this; exact this) hp
    · intro j hj
      rw [testBit_put, Nat.testBit_or, testBit_limb, Nat.testBit_two_pow]
      simp only [hj, decide_true, Bool.true_and]
      congr 1
      exact decide_eq_decide.2 (by omega)
  · rename_i h
    refine limb_eq_of (limb_lt _ _) ?_
    intro j hj
    rw [testBit_put, testBit_limb]
    have : n ≠ 64 * i + j := by omega
    simp [hj, this]

theorem limb_turn (s n i : Nat) : limb (turn s n) i = if n / 64 = i then limb s i ^^^ 2 ^ (n % 64) else limb s i := by
  have hm : n % 64 < 64 := Nat.mod_lt _ (by decide)
  have hp : (2 : Nat) ^ (n % 64) < 18446744073709551616 := Nat.lt_of_lt_of_le (Nat.pow_lt_pow_right (by decide) hm) (by decide)
  split
  · rename_i h
    refine limb_eq_of ?_ ?_
    · rw [show (18446744073709551616 : Nat) = 2 ^ 64 from by decide] at hp ⊢
      exact Nat.xor_lt_two_pow (by have := limb_lt s i; rw [show (18446744073709551616 : Nat) = 2 ^ 64 from by decide] at this; exact this) hp
    · intro j hj
      rw [testBit_turn, Nat.testBit_xor, testBit_limb, Nat.testBit_two_pow]
      simp only [hj, decide_true, Bool.true_and]
      congr 1
      exact decide_eq_decide.2 (by omega)
  · rename_i h
    refine limb_eq_of (limb_lt _ _) ?_
    intro j hj
    rw [testBit_turn, testBit_limb]
    have : n ≠ 64 * i + j := by omega
    simp [hj, this]

def putAll (s : Nat) (l : List Nat) : Nat := l.foldl put s
theorem putAll_snoc (s : Nat) (l : List Nat) (n : Nat) : putAll s (l ++ [n]) = put (putAll s l) n := by simp [putAll]
theorem testBit_putAll (s : Nat) (l : List Nat) (m : Nat) : (putAll s l).testBit m = (s.testBit m || decide (m ∈ l)) := by
  induction l generalizing s with
  | nil => simp [putAll]
  | cons n l ih =>
    show (putAll (put s n) l).testBit m = _
    rw [ih, testBit_put, Bool.or_assoc]
    congr 1
    by_cases h : n = m
    · subst h; simp
    · have h' : m ≠ n := fun e => h e.symm
      simp [h, h']
theorem putAll_lt {s : Nat} {l : List Nat} (hs : s < big) (hl : ∀ n ∈ l, n < 256) : putAll s l < big := by
  induction l generalizing s with
  | nil => exact hs
  | cons n l ih => exact ih (put_lt hs (hl n (by simp))) fun m hm => hl m (by simp [hm])

/-- From a on, so many. -/
def turnTo (s a k : Nat) : Nat := (List.range' a k).foldl turn s
theorem turnTo_succ (s a k : Nat) : turnTo s a (k + 1) = turn (turnTo s a k) (a + k) := by
  unfold turnTo; rw [List.range'_concat]; simp
theorem testBit_turnTo (s a k m : Nat) : (turnTo s a k).testBit m = (s.testBit m ^^ decide (a ≤ m ∧ m < a + k)) := by
  induction k with
  | zero => rw [show decide (a ≤ m ∧ m < a + 0) = false from decide_eq_false (by omega)]; simp [turnTo]
  | succ k ih =>
    rw [turnTo_succ, testBit_turn, ih, Bool.xor_assoc]
    congr 1
    by_cases h : a + k = m
    · have : ¬ (a ≤ m ∧ m < a + k) := by omega
      have : a ≤ m ∧ m < a + (k + 1) := by omega
      simp [*]
    · by_cases h2 : a ≤ m ∧ m < a + k
      · have : a ≤ m ∧ m < a + (k + 1) := by omega
        simp [h, h2, this]
      · have : ¬ (a ≤ m ∧ m < a + (k + 1)) := by omega
        simp only [h, h2, this, decide_false, Bool.xor_false]
theorem turnTo_lt {s a k : Nat} (hs : s < big) (h : a + k ≤ 256) : turnTo s a k < big := by
  induction k with
  | zero => simpa [turnTo] using hs
  | succ k ih => rw [turnTo_succ]; exact turn_lt (ih (by omega)) (by omega)
theorem turnTo_twice {s a k : Nat} (hs : s < big) (h : a + k ≤ 256) : turnTo (turnTo s a k) a k = s := by
  refine set_ext (turnTo_lt (turnTo_lt hs h) h) hs fun n _ => ?_
  rw [testBit_turnTo, testBit_turnTo, Bool.xor_assoc, Bool.xor_self, Bool.xor_false]

/-! ## the numbers, word by word -/
theorem mem_nums {s n : Nat} : n ∈ nums s ↔ n < 256 ∧ s.testBit n = true := by simp [nums]
theorem mem_lows {x n : Nat} : n ∈ lows x ↔ n < 64 ∧ x.testBit n = true := by simp [lows]

theorem range_split (m n : Nat) : List.range (m + n) = List.range m ++ (List.range n).map (m + ·) := by
  simp [List.range_eq_range', ← List.range'_append_1, List.map_add_range']

theorem nums_to (s k : Nat) (f : Nat → Bool := s.testBit) : (List.range (64 * (k + 1))).filter f = (List.range (64 * k)).filter f ++ ((List.range 64).filter fun j => f (64 * k + j)).map (64 * k + ·) := by
  rw [Nat.mul_succ, range_split, List.filter_append, List.filter_map]
  rfl

theorem lows_limb (s k : Nat) : lows (limb s k) = (List.range 64).filter fun j => s.testBit (64 * k + j) := by
  unfold lows
  apply List.filter_congr
  intro j hj
  rw [testBit_limb]
  simp [List.mem_range.1 hj]

/-- The numbers of the first k words. -/
def numsTo (s k : Nat) : List Nat := (List.range (64 * k)).filter fun n => s.testBit n
theorem numsTo_zero (s : Nat) : numsTo s 0 = [] := rfl
theorem numsTo_succ (s k : Nat) : numsTo s (k + 1) = numsTo s k ++ (lows (limb s k)).map (64 * k + ·) := by
  unfold numsTo; rw [nums_to s k, lows_limb]
theorem numsTo_four (s : Nat) : numsTo s 4 = nums s := rfl

/-- What stands first: where p first holds. -/
theorem filter_first {p : Nat → Bool} {n k : Nat} (hk : k < n) (hp : p k = true) (hlt : ∀ j, j < k → p j = false) :
    (List.range n).filter p = k :: (List.range n).filter (fun j => p j && decide (j ≠ k)) := by
  obtain ⟨m, rfl⟩ : ∃ m, n = k + (m + 1) := ⟨n - k - 1, by omega⟩
  rw [range_split]
  simp only [List.filter_append]
  have h1 : (List.range k).filter p = [] := by
    rw [List.filter_eq_nil_iff]; intro j hj; rw [hlt j (List.mem_range.1 hj)]; simp
  have h2 : (List.range k).filter (fun j => p j && decide (j ≠ k)) = [] := by
    rw [List.filter_eq_nil_iff]; intro j hj; rw [hlt j (List.mem_range.1 hj)]; simp
  rw [h1, h2, List.nil_append, List.nil_append, Nat.add_comm m 1, range_split]
  have h3 : ((List.range m).map (1 + ·)).map (k + ·) = ((List.range m).map fun j => k + (1 + j)) := by simp [List.map_map]
  simp only [List.map_append, List.filter_append, h3]
  have e1 : (List.range 1).map (k + ·) = [k] := by simp
  rw [e1]
  simp only [List.filter_cons, hp, if_true, List.filter_nil, Bool.true_and, ne_eq, not_true_eq_false, decide_false, Bool.false_eq_true, if_false, List.cons_append, List.nil_append]
  congr 1
  apply List.filter_congr
  intro j hj
  obtain ⟨i, _, rfl⟩ := List.mem_map.1 hj
  simp

/-- A word that is not 0: its lowest digit; x & (x - 1) is without it. -/
theorem lows_step {x k m : Nat} (hk : k < 64) (h : x = 2 ^ k * (2 * m + 1)) :
    lows x = k :: lows (x &&& (x - 1)) := by
  have hb : ∀ j, x.testBit j = if j < k then false else (2 * m + 1).testBit (j - k) := by
    intro j
    have := Nat.testBit_two_pow_mul_add (2 * m + 1) (b := 0) (i := k) (Nat.two_pow_pos k) j
    rw [Nat.add_zero, ← h] at this
    rw [this]; simp
  have hx1 : x - 1 = 2 ^ k * (2 * m) + (2 ^ k - 1) := by
    have := Nat.two_pow_pos k
    rw [h, Nat.mul_add, Nat.mul_one]; omega
  have hb1 : ∀ j, (x - 1).testBit j = if j < k then true else (2 * m).testBit (j - k) := by
    intro j
    have := Nat.testBit_two_pow_mul_add (2 * m) (b := 2 ^ k - 1) (i := k) (by have := Nat.two_pow_pos k; omega) j
    rw [hx1, this]
    split
    · rename_i hj; rw [Nat.testBit_two_pow_sub_one]; simp [hj]
    · rfl
  unfold lows
  rw [filter_first (p := fun n => x.testBit n) hk]
  · congr 1
    apply List.filter_congr
    intro j _
    show (x.testBit j && decide (j ≠ k)) = (x &&& (x - 1)).testBit j
    rw [Nat.testBit_and, hb, hb1]
    by_cases h1 : j < k
    · simp [h1]
    · simp only [h1, if_false]
      by_cases h2 : j = k
      · subst h2; simp
      · obtain ⟨i, hi⟩ : ∃ i, j - k = i + 1 := ⟨j - k - 1, by omega⟩
        rw [hi]
        have e1 : (2 * m + 1).testBit (i + 1) = m.testBit i := by rw [Nat.testBit_succ]; congr 1; omega
        have e2 : (2 * m).testBit (i + 1) = m.testBit i := by rw [Nat.testBit_succ]; congr 1; omega
        rw [e1, e2]; simp [h2]
  · show x.testBit k = true
    rw [hb]; simp
  · intro j hj
    show x.testBit j = false
    rw [hb]; simp [hj]

theorem lows_zero : lows 0 = [] := by simp [lows]
end Tess
