/-
  A set's bytes in three forms, and back; its best form. Plain lists and numbers: no program.
-/
import Derived.Test.YtnigpmbpipmgfaaDoorSet1
namespace Tess

/-! ## the three forms -/
/-- Byte i of the bits. -/
def byteAt (s i : Nat) : Nat := s / 2 ^ (8 * i) % 256
def raw (s : Nat) : List Nat := (List.range 32).map (byteAt s)

/-- One number more for the runs: what stands last grows, or a new pair opens. -/
def runStep (o : List Nat × Int) (n : Nat) : List Nat × Int :=
  if (n : Int) = o.2 + 1 then (o.1.set (o.1.length - 1) ((o.1[o.1.length - 1]?.getD 0 + 1) % 256), n) else (o.1 ++ [n, 0], n)
def runsOf (l : List Nat) : List Nat × Int := l.foldl runStep ([], -2)
def runs (s : Nat) : List Nat := (runsOf (nums s)).1
theorem runsOf_snoc (l : List Nat) (n : Nat) : runsOf (l ++ [n]) = runStep (runsOf l) n := by simp [runsOf]

def asOf (s : Nat) (form : Int) : Option (List Nat) := if form = 1 then some (nums s) else if form = 2 then some (raw s) else if form = 3 then some (runs s) else none

/-! ## back -/
def putSpan (s a b : Nat) : Nat := putAll s (List.range' a (b + 1 - a))
/-- What byte i of d puts in. -/
def readStep (form : Int) (d : List Nat) (s i : Nat) : Nat :=
  if form = 3 then (if i % 2 = 1 then s else if i + 1 < d.length then putSpan s (d[i]?.getD 0) (min (d[i]?.getD 0 + d[i + 1]?.getD 0) 255) else s)
  else if form = 2 then (if i < 32 then s ||| d[i]?.getD 0 * 2 ^ (8 * i) else s)
  else if form = 1 then put s (d[i]?.getD 0)
  else s
def readTo (form : Int) (d : List Nat) (k : Nat) : Nat := (List.range k).foldl (readStep form d) 0
def readAll (form : Int) (d : List Nat) : Nat := readTo form d d.length
theorem readTo_succ (form : Int) (d : List Nat) (k : Nat) : readTo form d (k + 1) = readStep form d (readTo form d k) k := by
  simp [readTo, List.range_succ]

theorem mem_span {a b m : Nat} : m ∈ List.range' a (b + 1 - a) ↔ a ≤ m ∧ m ≤ b := by
  rw [List.mem_range'_1]; omega
theorem testBit_putSpan (s a b m : Nat) : (putSpan s a b).testBit m = (s.testBit m || decide (a ≤ m ∧ m ≤ b)) := by
  unfold putSpan; rw [testBit_putAll]; congr 1; exact decide_eq_decide.2 mem_span
theorem putSpan_lt {s a b : Nat} (hs : s < big) (hb : b < 256) : putSpan s a b < big :=
  putAll_lt hs fun n hn => by have := (mem_span.1 hn); omega

theorem byte_lt {x i : Nat} (hx : x < 256) (hi : i < 32) : x * 2 ^ (8 * i) < big := by
  have h1 : x * 2 ^ (8 * i) < 2 ^ 8 * 2 ^ (8 * i) := Nat.mul_lt_mul_of_pos_right (by omega) (Nat.two_pow_pos _)
  rw [← Nat.pow_add] at h1
  exact Nat.lt_of_lt_of_le h1 (Nat.pow_le_pow_right (by decide) (by omega))

theorem readStep_lt {form : Int} {d : List Nat} {s i : Nat} (hs : s < big) (hd : ∀ j : Nat, d[j]?.getD 0 < 256) : readStep form d s i < big := by
  unfold readStep
  have := hd i
  repeat' split
  all_goals first
    | exact hs
    | exact putSpan_lt hs (by omega)
    | exact Nat.or_lt_two_pow hs (byte_lt this (by omega))
    | exact put_lt hs this

theorem readTo_lt {form : Int} {d : List Nat} (hd : ∀ j : Nat, d[j]?.getD 0 < 256) : ∀ k, readTo form d k < big
  | 0 => by show 0 < big; decide
  | k + 1 => by rw [readTo_succ]; exact readStep_lt (readTo_lt hd k) hd

/-! ## there and back: the array -/
theorem testBit_readArr (d : List Nat) (k m : Nat) (hk : k ≤ d.length) : (readTo 1 d k).testBit m = decide (m ∈ d.take k) := by
  induction k with
  | zero => simp [readTo]
  | succ k ih =>
    rw [readTo_succ]
    have hlt : k < d.length := by omega
    simp only [readStep, show ¬ (1 : Int) = 3 from by decide, show ¬ (1 : Int) = 2 from by decide, if_false, if_true]
    rw [testBit_put, ih (by omega), List.take_succ_eq_append_getElem hlt]
    simp only [List.getElem?_eq_getElem hlt, Option.getD_some]
    rw [← Bool.decide_or, decide_eq_decide, List.mem_append, List.mem_singleton]
    exact ⟨fun h => h.imp_right Eq.symm, fun h => h.imp_right Eq.symm⟩
theorem read_arr {s : Nat} (hs : s < big) (h : ∀ j : Nat, (nums s)[j]?.getD 0 < 256) : readAll 1 (nums s) = s := by
  refine set_ext (readTo_lt h _) hs fun n hn => ?_
  unfold readAll
  rw [testBit_readArr _ _ _ (Nat.le_refl _), List.take_length]
  by_cases hb : s.testBit n = true
  · have : n ∈ nums s := mem_nums.2 ⟨hn, hb⟩
    simp [this, hb]
  · have : n ∉ nums s := fun hm => hb (mem_nums.1 hm).2
    simp [this, hb]
theorem nums_get_lt (s j : Nat) : (nums s)[j]?.getD 0 < 256 := by
  cases h : (nums s)[j]? with
  | none => simp
  | some x => exact (mem_nums.1 (List.mem_of_getElem? h)).1

/-! ## there and back: the bits -/
theorem byteAt_lt (s i : Nat) : byteAt s i < 256 := Nat.mod_lt _ (by decide)
theorem testBit_byteAt (s i j : Nat) : (byteAt s i).testBit j = (decide (j < 8) && s.testBit (8 * i + j)) := by
  unfold byteAt
  rw [show (256 : Nat) = 2 ^ 8 from rfl, Nat.testBit_mod_two_pow, Nat.testBit_div_two_pow, Nat.add_comm j]
theorem raw_length (s : Nat) : (raw s).length = 32 := by simp [raw]
theorem raw_get {s i : Nat} (hi : i < 32) : (raw s)[i]?.getD 0 = byteAt s i := by simp [raw, hi]
theorem raw_get_lt (s j : Nat) : (raw s)[j]?.getD 0 < 256 := by
  by_cases h : j < 32
  · rw [raw_get h]; exact byteAt_lt _ _
  · rw [List.getElem?_eq_none (by rw [raw_length]; omega)]; decide
theorem testBit_byteMul (x i m : Nat) (hx : x < 256) : (x * 2 ^ (8 * i)).testBit m = (decide (8 * i ≤ m ∧ m < 8 * i + 8) && x.testBit (m - 8 * i)) := by
  rw [Nat.mul_comm, Nat.testBit_two_pow_mul]
  by_cases h : 8 * i ≤ m
  · by_cases h2 : m < 8 * i + 8
    · simp [h, h2]
    · have : x.testBit (m - 8 * i) = false := Nat.testBit_lt_two_pow (Nat.lt_of_lt_of_le (show x < 2 ^ 8 from hx) (Nat.pow_le_pow_right (by decide) (by omega)))
      simp [h, h2, this]
  · simp [h]
theorem testBit_readRaw (s k m : Nat) (hk : k ≤ 32) : (readTo 2 (raw s) k).testBit m = (decide (m < 8 * k) && s.testBit m) := by
  induction k with
  | zero => simp [readTo]
  | succ k ih =>
    rw [readTo_succ]
    simp only [readStep, show ¬ (2 : Int) = 3 from by decide, if_false, if_true, show k < 32 from by omega]
    rw [Nat.testBit_or, ih (by omega), raw_get (by omega), testBit_byteMul _ _ _ (byteAt_lt _ _), testBit_byteAt]
    by_cases h1 : m < 8 * k
    · have h3 : m < 8 * (k + 1) := by omega
      have h2 : ¬ (8 * k ≤ m ∧ m < 8 * k + 8) := by omega
      simp only [h1, h3, h2, decide_true, decide_false, Bool.true_and, Bool.false_and, Bool.or_false]
    · by_cases h2 : 8 * k ≤ m ∧ m < 8 * k + 8
      · have h3 : m < 8 * (k + 1) := by omega
        have h4 : m - 8 * k < 8 := by omega
        have h5 : 8 * k + (m - 8 * k) = m := by omega
        simp only [h1, h2, h3, h4, h5, decide_true, decide_false, Bool.true_and, Bool.false_and, Bool.false_or, and_self]
      · have h3 : ¬ m < 8 * (k + 1) := by omega
        simp only [h1, h2, h3, decide_false, Bool.false_and, Bool.or_false]
theorem read_raw {s : Nat} (hs : s < big) : readAll 2 (raw s) = s := by
  refine set_ext (readTo_lt (raw_get_lt s) _) hs fun n hn => ?_
  unfold readAll
  rw [raw_length, testBit_readRaw _ _ _ (Nat.le_refl _)]
  simp [show n < 8 * 32 from hn]

/-! ## there and back: the runs -/
/-- Is m in one of the spans? -/
def inRuns : List Nat → Nat → Bool
  | a :: c :: d, m => decide (a ≤ m ∧ m ≤ min (a + c) 255) || inRuns d m
  | _, _ => false

theorem inRuns_append : ∀ (d e : List Nat) (m : Nat), d.length % 2 = 0 → inRuns (d ++ e) m = (inRuns d m || inRuns e m)
  | [], e, m, _ => by simp [inRuns]
  | [_], _, _, h => by simp at h
  | a :: c :: d, e, m, h => by
    have := inRuns_append d e m (by simp at h; omega)
    simp only [List.cons_append, inRuns, this, Bool.or_assoc]

theorem readRuns_pairs : ∀ (d : List Nat) (s k : Nat) (pre : List Nat) (m : Nat), pre.length = k → k % 2 = 0 → d.length % 2 = 0 →
    ((List.range' k d.length).foldl (readStep 3 (pre ++ d)) s).testBit m = (s.testBit m || inRuns d m)
  | [], s, k, pre, m, _, _, _ => by simp [inRuns]
  | [_], _, _, _, _, _, _, h => by simp at h
  | a :: c :: d, s, k, pre, m, hp, hk, hd => by
    have ih := readRuns_pairs d (readStep 3 (pre ++ a :: c :: d) (readStep 3 (pre ++ a :: c :: d) s k) (k + 1)) (k + 2) (pre ++ [a, c]) m (by simp [hp]) (by omega) (by simp at hd; omega)
    have e : pre ++ [a, c] ++ d = pre ++ a :: c :: d := by simp
    rw [e] at ih
    show ((List.range' k (d.length + 1 + 1)).foldl (readStep 3 (pre ++ a :: c :: d)) s).testBit m = _
    rw [List.range'_succ, List.range'_succ, List.foldl_cons, List.foldl_cons, show k + 1 + 1 = k + 2 from rfl, ih]
    have g0 : (pre ++ a :: c :: d)[k]?.getD 0 = a := by rw [← hp]; simp
    have g1 : (pre ++ a :: c :: d)[k + 1]?.getD 0 = c := by rw [← hp]; simp
    have hl : k + 1 < (pre ++ a :: c :: d).length := by simp [hp]
    have s1 : readStep 3 (pre ++ a :: c :: d) s k = putSpan s a (min (a + c) 255) := by
      unfold readStep; rw [if_pos rfl, if_neg (by omega), if_pos hl, g0, g1]
    have s2 : ∀ t, readStep 3 (pre ++ a :: c :: d) t (k + 1) = t := fun t => by
      unfold readStep; rw [if_pos rfl, if_pos (by omega)]
    rw [s1, s2, testBit_putSpan, Bool.or_assoc]
    rfl

theorem testBit_readRuns (d : List Nat) (m : Nat) (hd : d.length % 2 = 0) : (readAll 3 d).testBit m = inRuns d m := by
  have := readRuns_pairs d 0 0 [] m rfl rfl hd
  simp only [List.nil_append, Nat.zero_testBit, Bool.false_or] at this
  rw [← this]
  unfold readAll readTo
  rw [List.range_eq_range']

/-- What is so while the runs are written: pairs; the last one ends where the last number stands; just the numbers so far are in them. -/
structure RunsAt (l : List Nat) (d : List Nat) (last : Int) : Prop where
  even : d.length % 2 = 0
  atNil : l = [] → d = [] ∧ last = -2
  ends : l ≠ [] → ∃ (e : List Nat) (a c : Nat), d = e ++ [a, c] ∧ e.length % 2 = 0 ∧ last = a + c
  mem : ∀ m, m < 256 → (inRuns d m = true ↔ m ∈ l)
  lt : ∀ n ∈ l, (n : Int) ≤ last
  small : ∀ x ∈ d, x < 256
  short : d.length ≤ 2 * l.length
  len : (d.length : Int) ≤ last + 2

theorem runsAt_nil : RunsAt [] [] (-2) := ⟨rfl, fun _ => ⟨rfl, rfl⟩, fun h => absurd rfl h, fun m _ => by simp [inRuns], fun n h => by simp at h, fun x h => by simp at h, Nat.le_refl _, by decide⟩

theorem set_last (e : List Nat) (a c x : Nat) : (e ++ [a, c]).set ((e ++ [a, c]).length - 1) x = e ++ [a, x] := by
  have : (e ++ [a, c]).length - 1 = e.length + 1 := by simp
  rw [this, List.set_append_right _ _ (by omega)]
  simp
theorem get_last (e : List Nat) (a c : Nat) : (e ++ [a, c])[(e ++ [a, c]).length - 1]?.getD 0 = c := by
  have : (e ++ [a, c]).length - 1 = e.length + 1 := by simp
  rw [this, List.getElem?_append_right (by omega)]
  simp

theorem RunsAt.step {l d : List Nat} {last : Int} {n : Nat} (h : RunsAt l d last) (hn : n < 256) (hlt : last < n) : RunsAt (l ++ [n]) (runStep (d, last) n).1 (runStep (d, last) n).2 := by
  unfold runStep
  by_cases he : (n : Int) = last + 1
  · simp only [he, if_true]
    by_cases hl : l = []
    · obtain ⟨_, h2⟩ := h.atNil hl; omega
    obtain ⟨e, a, c, rfl, hev, hla⟩ := h.ends hl
    have hc1 : (c + 1) % 256 = c + 1 := by omega
    rw [get_last, set_last, hc1]
    refine ⟨by have := h.even; simp at this ⊢; omega, fun h => by simp at h, fun _ => ⟨e, a, c + 1, rfl, hev, by omega⟩, fun m hm => ?_, fun k hk => ?_, fun x hx => ?_, by have := h.short; simp at this ⊢; omega, by have := h.len; simp at this ⊢; omega⟩
    · have hmm := h.mem m hm
      rw [inRuns_append _ _ _ hev] at hmm ⊢
      simp only [inRuns, Bool.or_false, Bool.or_eq_true, decide_eq_true_eq, List.mem_append, List.mem_singleton] at hmm ⊢
      have hac : (n : Int) = a + c + 1 := by omega
      constructor
      · rintro (h1 | h1)
        · exact .inl (hmm.1 (.inl h1))
        · by_cases h3 : m = n
          · exact .inr h3
          · exact .inl (hmm.1 (.inr (by omega)))
      · rintro (h1 | h1)
        · rcases hmm.2 h1 with h2 | h2
          · exact .inl h2
          · exact .inr (by omega)
        · exact .inr (by omega)
    · rcases List.mem_append.1 hk with h1 | h1
      · have := h.lt k h1; omega
      · simp at h1; omega
    · have hs := h.small
      simp only [List.mem_append, List.mem_cons, List.not_mem_nil, or_false] at hx hs
      rcases hx with h1 | h1 | h1
      · exact hs x (.inl h1)
      · exact hs x (.inr (.inl h1))
      · omega
  · simp only [he, if_false]
    refine ⟨by have := h.even; simp; omega, fun h => by simp at h, fun _ => ⟨d, n, 0, rfl, h.even, by simp⟩, fun m hm => ?_, fun k hk => ?_, fun x hx => ?_, by have := h.short; simp; omega, by have := h.len; simp; omega⟩
    · have hmm := h.mem m hm
      rw [inRuns_append _ _ _ h.even]
      simp only [inRuns, Bool.or_false, Bool.or_eq_true, decide_eq_true_eq, List.mem_append, List.mem_singleton]
      rw [hmm]
      constructor
      · rintro (h1 | h1)
        · exact .inl h1
        · exact .inr (by omega)
      · rintro (h1 | h1)
        · exact .inl h1
        · exact .inr (by omega)
    · rcases List.mem_append.1 hk with h1 | h1
      · have := h.lt k h1; omega
      · simp at h1; omega
    · have hs := h.small
      simp only [List.mem_append, List.mem_cons, List.not_mem_nil, or_false] at hx
      rcases hx with h1 | h1 | h1
      · exact hs x h1
      · omega
      · omega

theorem sorted_nums (s : Nat) : (nums s).Pairwise (· < ·) := (List.pairwise_lt_range (n := 256)).filter _

/-- Where the last number stands. -/
theorem runsOf_last : ∀ (l : List Nat), (runsOf l).2 = if l = [] then -2 else ((l.getLast?.getD 0 : Nat) : Int) := by
  intro l
  by_cases hn : l = []
  · subst hn; rfl
  · rw [if_neg hn, ← List.dropLast_concat_getLast hn, runsOf_snoc, List.getLast?_concat]
    unfold runStep; split <;> rfl

theorem runsAt_take (l : List Nat) (hp : l.Pairwise (· < ·)) (hl : ∀ n ∈ l, n < 256) : ∀ k, k ≤ l.length → RunsAt (l.take k) (runsOf (l.take k)).1 (runsOf (l.take k)).2 := by
  intro k
  induction k with
  | zero => exact fun _ => runsAt_nil
  | succ k ih =>
    intro hk
    have hlt : k < l.length := by omega
    rw [List.take_succ_eq_append_getElem hlt, runsOf_snoc]
    refine (ih (by omega)).step (hl _ (List.getElem_mem hlt)) ?_
    rw [runsOf_last]
    split
    · omega
    · rename_i h0
      obtain ⟨j, rfl⟩ : ∃ j, k = j + 1 := ⟨k - 1, by
        have : k ≠ 0 := fun e => h0 (by rw [e]; rfl)
        omega⟩
      rw [List.take_succ_eq_append_getElem (by omega), List.getLast?_concat]
      have := List.pairwise_iff_getElem.1 hp j (j + 1) (by omega) hlt (by omega)
      simp only [Option.getD_some]
      omega
theorem runsAt_of (l : List Nat) (hp : l.Pairwise (· < ·)) (hl : ∀ n ∈ l, n < 256) : RunsAt l (runsOf l).1 (runsOf l).2 := by
  have := runsAt_take l hp hl l.length (Nat.le_refl _)
  rwa [List.take_length] at this
end Tess
