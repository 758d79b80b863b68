/-
  Bitmaps of numbers from 0 to 65535, in plain lists: a chunk for each key whose set is not empty, in its best form; which lists of chunks are such. No program.
-/
import Derived.Test.YtnigpmbpipmgfaaDoorPlain
namespace Go.Proofs.YtnigpmbpipmgfaaDoor
open Go.RowKit Tess

/-- A chunk: its key; its container. -/
structure Ch where
  key : Int
  form : Int
  data : ByteArray
deriving DecidableEq
/-- A chunk's set. -/
def Ch.set (x : Ch) : Nat := (ofRes x.form x.data).1
/-- The chunk of a key and a set. -/
def mkCh (k s : Nat) : Ch := ⟨k, (best s).form, bs (best s).data⟩
theorem ofRes_big' (f : Int) (D : ByteArray) : (ofRes f D).1 < big := by
  unfold ofRes ofC
  split
  · rename_i s h
    split at h
    · cases h; exact readTo_lt (dn_get_lt D) _
    · cases h
  · decide +kernel
theorem Ch.set_lt (x : Ch) : x.set < big := ofRes_big' _ _
theorem mkCh_set {k s : Nat} (hs : s < big) : (mkCh k s).set = s := by unfold Ch.set mkCh; rw [ofRes_best hs]
theorem mkCh_ok {k s : Nat} (hs : s < big) : ofRes (mkCh k s).form (mkCh k s).data = (s, true) := ofRes_best hs
theorem count_pos {s : Nat} (hs : s < big) : 0 < count s ↔ s ≠ 0 := by
  constructor
  · rintro h rfl; rw [count_zero] at h; omega
  · intro h
    refine Nat.pos_of_ne_zero fun hc => h (set_ext hs (by decide +kernel) fun n hn => ?_)
    have hn' : nums s = [] := List.length_eq_zero_iff.1 hc
    rw [Nat.zero_testBit]
    cases hb : s.testBit n
    · rfl
    · have : n ∈ nums s := mem_nums.2 ⟨hn, hb⟩
      rw [hn'] at this; cases this

/-- Is a container in its best form, and not empty? -/
def isBestB (f : Int) (D : ByteArray) : Bool := (ofRes f D).2 && sameC (best (ofRes f D).1).form (bs (best (ofRes f D).1).data) f D && decide (0 < count (ofRes f D).1)
theorem isBest_mk {k s : Nat} (hs : s < big) (h0 : s ≠ 0) : isBestB (mkCh k s).form (mkCh k s).data = true := by
  unfold isBestB
  rw [mkCh_ok hs]
  simp only [Bool.true_and, Bool.and_eq_true, decide_eq_true_eq]
  exact ⟨sameC_refl _ _, (count_pos hs).2 h0⟩
theorem isBest_ex {f : Int} {D : ByteArray} (h : isBestB f D = true) : ∃ s, s < big ∧ s ≠ 0 ∧ f = (best s).form ∧ D = bs (best s).data := by
  unfold isBestB at h
  simp only [Bool.and_eq_true, decide_eq_true_eq] at h
  obtain ⟨⟨_, h2⟩, h3⟩ := h
  obtain ⟨e1, e2⟩ := sameC_iff.1 h2
  exact ⟨_, ofRes_big' f D, (count_pos (ofRes_big' f D)).1 h3, e1.symm, e2.symm⟩

/-- Right(r), from a last key on. -/
def rightF : Int → List Ch → Bool
  | _, [] => true
  | last, x :: l => decide (last < x.key) && decide (x.key < 256) && isBestB x.form x.data && rightF x.key l
def rightL (l : List Ch) : Bool := rightF (-1) l
theorem rightF_mono : ∀ {l : List Ch} {a b : Int}, a ≤ b → rightF b l = true → rightF a l = true
  | [], _, _, _, _ => rfl
  | x :: l, a, b, hab, h => by
    simp only [rightF, Bool.and_eq_true, decide_eq_true_eq] at h ⊢
    exact ⟨⟨⟨by omega, h.1.1.2⟩, h.1.2⟩, h.2⟩

/-- The chunks of the sets of n keys from a on. -/
def canonFrom (M : Nat → Nat) (a n : Nat) : List Ch := (List.range' a n).filterMap fun k => if M k = 0 then none else some (mkCh k (M k))
def canon (M : Nat → Nat) : List Ch := canonFrom M 0 256
theorem canonFrom_zero (M : Nat → Nat) (a : Nat) : canonFrom M a 0 = [] := rfl
theorem canonFrom_succ (M : Nat → Nat) (a n : Nat) : canonFrom M a (n + 1) = (if M a = 0 then [] else [mkCh a (M a)]) ++ canonFrom M (a + 1) n := by
  unfold canonFrom
  rw [List.range'_succ, List.filterMap_cons]
  split
  · rename_i h; split at h
    · rename_i h0; rw [if_pos h0]; rfl
    · cases h
  · rename_i b h; split at h
    · cases h
    · rename_i h0; rw [if_neg h0]; cases h; rfl
theorem canonFrom_snoc (M : Nat → Nat) (a n : Nat) : canonFrom M a (n + 1) = canonFrom M a n ++ (if M (a + n) = 0 then [] else [mkCh (a + n) (M (a + n))]) := by
  unfold canonFrom
  rw [List.range'_concat, List.filterMap_append, Nat.one_mul]
  congr 1
  rw [List.filterMap_cons]
  split
  · rename_i h; split at h
    · rename_i h0; rw [if_pos h0]; rfl
    · cases h
  · rename_i b h; split at h
    · cases h
    · rename_i h0; rw [if_neg h0]; cases h; rfl
theorem canonFrom_congr {M N : Nat → Nat} {a n : Nat} (h : ∀ k, a ≤ k → k < a + n → M k = N k) : canonFrom M a n = canonFrom N a n := by
  induction n generalizing a with
  | zero => rfl
  | succ n ih => rw [canonFrom_succ, canonFrom_succ, h a (Nat.le_refl _) (by omega), ih fun k h1 h2 => h k (by omega) (by omega)]
theorem canon_congr {M N : Nat → Nat} (h : ∀ k, k < 256 → M k = N k) : canon M = canon N := canonFrom_congr fun k _ hk => h k (by omega)
theorem canonFrom_len (M : Nat → Nat) (a n : Nat) : (canonFrom M a n).length ≤ n := by
  have := List.length_filterMap_le (fun k => if M k = 0 then none else some (mkCh k (M k))) (List.range' a n)
  simpa [canonFrom] using this
theorem canonFrom_none {M : Nat → Nat} {a n : Nat} (h : ∀ k, a ≤ k → k < a + n → M k = 0) : canonFrom M a n = [] := by
  induction n generalizing a with
  | zero => rfl
  | succ n ih => rw [canonFrom_succ, if_pos (h a (Nat.le_refl _) (by omega)), ih fun k h1 h2 => h k (by omega) (by omega)]; rfl
theorem canonFrom_split (M : Nat → Nat) (a m n : Nat) : canonFrom M a (m + n) = canonFrom M a m ++ canonFrom M (a + m) n := by
  unfold canonFrom
  rw [← List.range'_append_1, List.filterMap_append]

/-- The sets of chunks. -/
def setAt (l : List Ch) (k : Nat) : Nat := match l.find? (fun x => x.key == (k : Int)) with | some x => x.set | none => 0
theorem setAt_nil (k : Nat) : setAt [] k = 0 := rfl
theorem setAt_cons (x : Ch) (l : List Ch) (k : Nat) : setAt (x :: l) k = if x.key = (k : Int) then x.set else setAt l k := by
  unfold setAt
  rw [List.find?_cons]
  by_cases h : x.key = (k : Int)
  · have : (x.key == (k : Int)) = true := by simpa using h
    rw [this, if_pos h]
  · have : (x.key == (k : Int)) = false := by simpa using h
    rw [this, if_neg h]
theorem setAt_lt (l : List Ch) (k : Nat) : setAt l k < big := by
  unfold setAt
  split
  · exact Ch.set_lt _
  · decide +kernel
theorem setAt_below : ∀ {l : List Ch} {b : Int} {k : Nat}, rightF b l = true → (k : Int) ≤ b → setAt l k = 0
  | [], _, _, _, _ => rfl
  | x :: l, b, k, h, hk => by
    simp only [rightF, Bool.and_eq_true, decide_eq_true_eq] at h
    rw [setAt_cons, if_neg (by omega)]
    exact setAt_below h.2 (by omega)

theorem right_canonFrom : ∀ {l : List Ch} {a : Nat}, rightF ((a : Int) - 1) l = true → a ≤ 256 → l = canonFrom (setAt l) a (256 - a)
  | [], a, _, _ => (canonFrom_none fun k _ _ => rfl).symm
  | x :: l, a, h, ha => by
    have h0 := h
    simp only [rightF, Bool.and_eq_true, decide_eq_true_eq] at h
    obtain ⟨⟨⟨h1, h2⟩, h3⟩, h4⟩ := h
    obtain ⟨k, hk⟩ : ∃ k : Nat, x.key = k := ⟨x.key.toNat, by omega⟩
    obtain ⟨s, hs, hs0, hf, hD⟩ := isBest_ex h3
    have hx : x = mkCh k s := by
      cases x; simp only at hk hf hD; subst hf; subst hD; subst hk; rfl
    rw [hk] at h4
    have hr : rightF (((k + 1 : Nat) : Int) - 1) l = true := by
      rw [show (((k + 1 : Nat) : Int) - 1) = (k : Int) by omega]; exact h4
    have ih := right_canonFrom hr (by omega)
    have e1 : ∀ j, setAt (x :: l) j = if k = j then s else setAt l j := by
      intro j
      rw [setAt_cons, hk]
      by_cases hj : k = j
      · rw [if_pos (by omega), if_pos hj, hx, mkCh_set hs]
      · rw [if_neg (by omega), if_neg hj]
    have hsp : 256 - a = (k - a) + (1 + (256 - (k + 1))) := by omega
    rw [hsp, canonFrom_split, canonFrom_split]
    have hak : a + (k - a) = k := by omega
    rw [hak]
    have p1 : canonFrom (setAt (x :: l)) a (k - a) = [] := canonFrom_none fun j hj1 hj2 => by
      rw [e1, if_neg (by omega)]
      exact setAt_below h4 (by omega)
    have p2 : canonFrom (setAt (x :: l)) k 1 = [x] := by
      rw [canonFrom_succ, canonFrom_zero, e1, if_pos rfl, if_neg hs0, ← hx]; rfl
    have p3 : canonFrom (setAt (x :: l)) (k + 1) (256 - (k + 1)) = l := by
      rw [canonFrom_congr (N := setAt l)]
      · exact ih.symm
      · intro j hj1 hj2
        rw [e1, if_neg (by omega)]
    rw [p1, p2, p3]; rfl
theorem right_canon {l : List Ch} (h : rightL l = true) : l = canon (setAt l) := right_canonFrom (a := 0) h (by omega)
theorem canonFrom_right {M : Nat → Nat} : ∀ {n a : Nat}, (∀ k, k < 256 → M k < big) → a + n ≤ 256 → rightF ((a : Int) - 1) (canonFrom M a n) = true
  | 0, _, _, _ => rfl
  | n + 1, a, hM, ha => by
    have ih := canonFrom_right (n := n) (a := a + 1) hM (by omega)
    rw [show (((a + 1 : Nat) : Int) - 1) = (a : Int) by omega] at ih
    rw [canonFrom_succ]
    split
    · exact rightF_mono (by omega) ih
    · rename_i h0
      have hb := hM a (by omega)
      show rightF _ (mkCh a (M a) :: canonFrom M (a + 1) n) = true
      simp only [rightF, Bool.and_eq_true, decide_eq_true_eq]
      exact ⟨⟨⟨by show (a : Int) - 1 < (a : Int); omega, by show (a : Int) < 256; omega⟩, isBest_mk hb h0⟩, ih⟩
theorem canon_right {M : Nat → Nat} (hM : ∀ k, k < 256 → M k < big) : rightL (canon M) = true := canonFrom_right (n := 256) (a := 0) hM (by omega)
theorem setAt_canonFrom {M : Nat → Nat} : ∀ {n a : Nat} (k : Nat), (∀ k, k < 256 → M k < big) → a + n ≤ 256 → setAt (canonFrom M a n) k = if a ≤ k ∧ k < a + n then M k else 0
  | 0, a, k, _, _ => by rw [if_neg (by omega)]; rfl
  | n + 1, a, k, hM, ha => by
    have ih := setAt_canonFrom (n := n) (a := a + 1) k hM (by omega)
    rw [canonFrom_succ]
    by_cases h0 : M a = 0
    · rw [if_pos h0, List.nil_append, ih]
      by_cases hk : k = a
      · subst hk; rw [if_neg (by omega), if_pos (by omega), h0]
      · by_cases h1 : a ≤ k ∧ k < a + (n + 1)
        · rw [if_pos (by omega), if_pos h1]
        · rw [if_neg (by omega), if_neg h1]
    · rw [if_neg h0]
      show setAt (mkCh a (M a) :: canonFrom M (a + 1) n) k = _
      rw [setAt_cons, ih]
      by_cases hk : k = a
      · subst hk
        rw [if_pos (show (mkCh k (M k)).key = (k : Int) from rfl), if_pos (by omega), mkCh_set (hM k (by omega))]
      · rw [if_neg (by show ¬ (a : Int) = (k : Int); omega)]
        by_cases h1 : a ≤ k ∧ k < a + (n + 1)
        · rw [if_pos (by omega), if_pos h1]
        · rw [if_neg (by omega), if_neg h1]
theorem setAt_canon {M : Nat → Nat} (hM : ∀ k, k < 256 → M k < big) {k : Nat} (hk : k < 256) : setAt (canon M) k = M k := by
  unfold canon; rw [setAt_canonFrom k hM (by omega), if_pos (by omega)]

/-! ## the reference's set -/
def readCh (x : Ch) : Nat := readAll x.form (dn x.data)
def setStep (k : Nat) (s : Nat) (x : Ch) : Nat := if x.key = (k : Int) then s ||| readCh x else s
def setR (l : List Ch) (k : Nat) : Nat := l.foldl (setStep k) 0
theorem readCh_lt (x : Ch) : readCh x < big := readTo_lt (dn_get_lt _) _
theorem readCh_mk {k s : Nat} (hs : s < big) : readCh (mkCh k s) = s := by
  unfold readCh mkCh
  rw [dn_bs (asOf_lt (best_as s)), read_as hs (best_as s)]
theorem setR_snoc (l : List Ch) (x : Ch) (k : Nat) : setR (l ++ [x]) k = setStep k (setR l k) x := by simp [setR]
theorem setStep_lt {k s : Nat} {x : Ch} (hs : s < big) : setStep k s x < big := by
  unfold setStep
  split
  · exact Nat.or_lt_two_pow hs (readCh_lt x)
  · exact hs
theorem setFold_lt (k : Nat) : ∀ (l : List Ch) {s : Nat}, s < big → l.foldl (setStep k) s < big
  | [], _, hs => hs
  | _ :: l, _, hs => setFold_lt k l (setStep_lt hs)
theorem setR_lt (l : List Ch) (k : Nat) : setR l k < big := setFold_lt k l (by decide +kernel)
theorem setFold_canonFrom {M : Nat → Nat} (k : Nat) (hM : ∀ k, k < 256 → M k < big) : ∀ {n a : Nat} (s : Nat), a + n ≤ 256 → (canonFrom M a n).foldl (setStep k) s = if a ≤ k ∧ k < a + n then s ||| M k else s
  | 0, a, s, _ => by rw [if_neg (by omega)]; rfl
  | n + 1, a, s, ha => by
    rw [canonFrom_succ, List.foldl_append, setFold_canonFrom k hM _ (by omega)]
    by_cases h0 : M a = 0
    · rw [if_pos h0, List.foldl_nil]
      by_cases hk : k = a
      · subst hk; rw [if_neg (by omega), if_pos (by omega), h0, Nat.or_zero]
      · by_cases h1 : a ≤ k ∧ k < a + (n + 1)
        · rw [if_pos (by omega), if_pos h1]
        · rw [if_neg (by omega), if_neg h1]
    · rw [if_neg h0, List.foldl_cons, List.foldl_nil]
      unfold setStep
      by_cases hk : k = a
      · subst hk
        rw [if_pos (show (mkCh k (M k)).key = (k : Int) from rfl), readCh_mk (hM k (by omega)), if_neg (by omega), if_pos (by omega)]
      · rw [if_neg (show ¬ (mkCh a (M a)).key = (k : Int) by show ¬ (a : Int) = (k : Int); omega)]
        by_cases h1 : a ≤ k ∧ k < a + (n + 1)
        · rw [if_pos (by omega), if_pos h1]
        · rw [if_neg (by omega), if_neg h1]
theorem setR_canon {M : Nat → Nat} (hM : ∀ k, k < 256 → M k < big) {k : Nat} (hk : k < 256) : setR (canon M) k = M k := by
  unfold setR canon
  rw [setFold_canonFrom k hM 0 (by omega), if_pos (by omega), Nat.zero_or]
theorem setR_right {l : List Ch} (h : rightL l = true) {k : Nat} (hk : k < 256) : setR l k = setAt l k := by
  have e := right_canon h
  have h1 := setR_canon (M := setAt l) (fun k _ => setAt_lt l k) hk
  rwa [← e] at h1
/-- **The two ways to say which lists of chunks are right.** -/
theorem rightL_iff (l : List Ch) : rightL l = true ↔ l.length ≤ 256 ∧ l = canon (setR l) := by
  constructor
  · intro h
    have e := right_canon h
    refine ⟨by rw [e]; exact canonFrom_len _ _ _, ?_⟩
    rw [canon_congr (N := setAt l) fun k hk => setR_right h hk]
    exact e
  · rintro ⟨_, h⟩
    rw [h]
    exact canon_right fun k _ => setR_lt l k
theorem right_ext {l m : List Ch} (hl : rightL l = true) (hm : rightL m = true) (h : ∀ k, k < 256 → setAt l k = setAt m k) : l = m := by
  rw [right_canon hl, right_canon hm]
  exact canon_congr h
end Go.Proofs.YtnigpmbpipmgfaaDoor
