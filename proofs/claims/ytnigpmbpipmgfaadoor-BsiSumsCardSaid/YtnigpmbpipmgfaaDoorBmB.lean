/-
  Bm, IsBest, ChMem: several texts in one (merge.py).
-/
import Derived.Test.YtnigpmbpipmgfaaDoorPlainR
import Derived.Test.YtnigpmbpipmgfaaDoorDoOp

/-
  Bitmaps of numbers from 0 to 65535, in plain lists: a chunk for each key whose set is not empty, in its best form; which lists of chunks are such. No program.
-/
namespace Go.Proofs.YtnigpmbpipmgfaaDoor
open Go.RowKit Tess

/-- A chunk: its key; its container. -/
structure Ch where
  key : Int
  form : Int
  data : ByteArray
deriving DecidableEq
/-- A chunk's set. -/
def Ch.set (x : Ch) : Nat := (ofRes x.form x.data).1
/-- The chunk of a key and a set. -/
def mkCh (k s : Nat) : Ch := ⟨k, (best s).form, bs (best s).data⟩
theorem ofRes_big' (f : Int) (D : ByteArray) : (ofRes f D).1 < big := by
  unfold ofRes ofC
  split
  · rename_i s h
    split at h
    · cases h; exact readTo_lt (dn_get_lt D) _
    · cases h
  · decide +kernel
theorem Ch.set_lt (x : Ch) : x.set < big := ofRes_big' _ _
theorem mkCh_set {k s : Nat} (hs : s < big) : (mkCh k s).set = s := by unfold Ch.set mkCh; rw [ofRes_best hs]
theorem mkCh_ok {k s : Nat} (hs : s < big) : ofRes (mkCh k s).form (mkCh k s).data = (s, true) := ofRes_best hs
theorem count_pos {s : Nat} (hs : s < big) : 0 < count s ↔ s ≠ 0 := by
  constructor
  · rintro h rfl; rw [count_zero] at h; omega
  · intro h
    refine Nat.pos_of_ne_zero fun hc => h (set_ext hs (by decide +kernel) fun n hn => ?_)
    have hn' : nums s = [] := List.length_eq_zero_iff.1 hc
    rw [Nat.zero_testBit]
    cases hb : s.testBit n
    · rfl
    · have : n ∈ nums s := mem_nums.2 ⟨hn, hb⟩
      rw [hn'] at this; cases this

/-- Is a container in its best form, and not empty? -/
def isBestB (f : Int) (D : ByteArray) : Bool := (ofRes f D).2 && sameC (best (ofRes f D).1).form (bs (best (ofRes f D).1).data) f D && decide (0 < count (ofRes f D).1)
theorem isBest_mk {k s : Nat} (hs : s < big) (h0 : s ≠ 0) : isBestB (mkCh k s).form (mkCh k s).data = true := by
  unfold isBestB
  rw [mkCh_ok hs]
  simp only [Bool.true_and, Bool.and_eq_true, decide_eq_true_eq]
  exact ⟨sameC_refl _ _, (count_pos hs).2 h0⟩
theorem isBest_ex {f : Int} {D : ByteArray} (h : isBestB f D = true) : ∃ s, s < big ∧ s ≠ 0 ∧ f = (best s).form ∧ D = bs (best s).data := by
  unfold isBestB at h
  simp only [Bool.and_eq_true, decide_eq_true_eq] at h
  obtain ⟨⟨_, h2⟩, h3⟩ := h
  obtain ⟨e1, e2⟩ := sameC_iff.1 h2
  exact ⟨_, ofRes_big' f D, (count_pos (ofRes_big' f D)).1 h3, e1.symm, e2.symm⟩

/-- Right(r), from a last key on. -/
def rightF : Int → List Ch → Bool
  | _, [] => true
  | last, x :: l => decide (last < x.key) && decide (x.key < 256) && isBestB x.form x.data && rightF x.key l
def rightL (l : List Ch) : Bool := rightF (-1) l
theorem rightF_mono : ∀ {l : List Ch} {a b : Int}, a ≤ b → rightF b l = true → rightF a l = true
  | [], _, _, _, _ => rfl
  | x :: l, a, b, hab, h => by
    simp only [rightF, Bool.and_eq_true, decide_eq_true_eq] at h ⊢
    exact ⟨⟨⟨by omega, h.1.1.2⟩, h.1.2⟩, h.2⟩

/-- The chunks of the sets of n keys from a on. -/
def canonFrom (M : Nat → Nat) (a n : Nat) : List Ch := (List.range' a n).filterMap fun k => if M k = 0 then none else some (mkCh k (M k))
def canon (M : Nat → Nat) : List Ch := canonFrom M 0 256
theorem canonFrom_zero (M : Nat → Nat) (a : Nat) : canonFrom M a 0 = [] := rfl
theorem canonFrom_succ (M : Nat → Nat) (a n : Nat) : canonFrom M a (n + 1) = (if M a = 0 then [] else [mkCh a (M a)]) ++ canonFrom M (a + 1) n := by
  unfold canonFrom
  rw [List.range'_succ, List.filterMap_cons]
  split
  · rename_i h; split at h
    · rename_i h0; rw [if_pos h0]; rfl
    · cases h
  · rename_i b h; split at h
    · cases h
    · rename_i h0; rw [if_neg h0]; cases h; rfl
theorem canonFrom_snoc (M : Nat → Nat) (a n : Nat) : canonFrom M a (n + 1) = canonFrom M a n ++ (if M (a + n) = 0 then [] else [mkCh (a + n) (M (a + n))]) := by
  unfold canonFrom
  rw [List.range'_concat, List.filterMap_append, Nat.one_mul]
  congr 1
  rw [List.filterMap_cons]
  split
  · rename_i h; split at h
    · rename_i h0; rw [if_pos h0]; rfl
    · cases h
  · rename_i b h; split at h
    · cases h
    · rename_i h0; rw [if_neg h0]; cases h; rfl
theorem canonFrom_congr {M N : Nat → Nat} {a n : Nat} (h : ∀ k, a ≤ k → k < a + n → M k = N k) : canonFrom M a n = canonFrom N a n := by
  induction n generalizing a with
  | zero => rfl
  | succ n ih => rw [canonFrom_succ, canonFrom_succ, h a (Nat.le_refl _) (by omega), ih fun k h1 h2 => h k (by omega) (by omega)]
theorem canon_congr {M N : Nat → Nat} (h : ∀ k, k < 256 → M k = N k) : canon M = canon N := canonFrom_congr fun k _ hk => h k (by omega)
theorem canonFrom_len (M : Nat → Nat) (a n : Nat) : (canonFrom M a n).length ≤ n := by
  have := List.length_filterMap_le (fun k => if M k = 0 then none else some (mkCh k (M k))) (List.range' a n)
  simpa [canonFrom] using this
theorem canonFrom_none {M : Nat → Nat} {a n : Nat} (h : ∀ k, a ≤ k → k < a + n → M k = 0) : canonFrom M a n = [] := by
  induction n generalizing a with
  | zero => rfl
  | succ n ih => rw [canonFrom_succ, if_pos (h a (Nat.le_refl _) (by omega)), ih fun k h1 h2 => h k (by omega) (by omega)]; rfl
theorem canonFrom_split (M : Nat → Nat) (a m n : Nat) : canonFrom M a (m + n) = canonFrom M a m ++ canonFrom M (a + m) n := by
  unfold canonFrom
  rw [← List.range'_append_1, List.filterMap_append]

/-- The sets of chunks. -/
def setAt (l : List Ch) (k : Nat) : Nat := match l.find? (fun x => x.key == (k : Int)) with | some x => x.set | none => 0
theorem setAt_nil (k : Nat) : setAt [] k = 0 := rfl
theorem setAt_cons (x : Ch) (l : List Ch) (k : Nat) : setAt (x :: l) k = if x.key = (k : Int) then x.set else setAt l k := by
  unfold setAt
  rw [List.find?_cons]
  by_cases h : x.key = (k : Int)
  · have : (x.key == (k : Int)) = true := by simpa using h
    rw [this, if_pos h]
  · have : (x.key == (k : Int)) = false := by simpa using h
    rw [this, if_neg h]
theorem setAt_lt (l : List Ch) (k : Nat) : setAt l k < big := by
  unfold setAt
  split
  · exact Ch.set_lt _
  · decide +kernel
theorem setAt_below : ∀ {l : List Ch} {b : Int} {k : Nat}, rightF b l = true → (k : Int) ≤ b → setAt l k = 0
  | [], _, _, _, _ => rfl
  | x :: l, b, k, h, hk => by
    simp only [rightF, Bool.and_eq_true, decide_eq_true_eq] at h
    rw [setAt_cons, if_neg (by omega)]
    exact setAt_below h.2 (by omega)

theorem right_canonFrom : ∀ {l : List Ch} {a : Nat}, rightF ((a : Int) - 1) l = true → a ≤ 256 → l = canonFrom (setAt l) a (256 - a)
  | [], a, _, _ => (canonFrom_none fun k _ _ => rfl).symm
  | x :: l, a, h, ha => by
    have h0 := h
    simp only [rightF, Bool.and_eq_true, decide_eq_true_eq] at h
    obtain ⟨⟨⟨h1, h2⟩, h3⟩, h4⟩ := h
    obtain ⟨k, hk⟩ : ∃ k : Nat, x.key = k := ⟨x.key.toNat, by omega⟩
    obtain ⟨s, hs, hs0, hf, hD⟩ := isBest_ex h3
    have hx : x = mkCh k s := by
      cases x; simp only at hk hf hD; subst hf; subst hD; subst hk; rfl
    rw [hk] at h4
    have hr : rightF (((k + 1 : Nat) : Int) - 1) l = true := by
      rw [show (((k + 1 : Nat) : Int) - 1) = (k : Int) by omega]; exact h4
    have ih := right_canonFrom hr (by omega)
    have e1 : ∀ j, setAt (x :: l) j = if k = j then s else setAt l j := by
      intro j
      rw [setAt_cons, hk]
      by_cases hj : k = j
      · rw [if_pos (by omega), if_pos hj, hx, mkCh_set hs]
      · rw [if_neg (by omega), if_neg hj]
    have hsp : 256 - a = (k - a) + (1 + (256 - (k + 1))) := by omega
    rw [hsp, canonFrom_split, canonFrom_split]
    have hak : a + (k - a) = k := by omega
    rw [hak]
    have p1 : canonFrom (setAt (x :: l)) a (k - a) = [] := canonFrom_none fun j hj1 hj2 => by
      rw [e1, if_neg (by omega)]
      exact setAt_below h4 (by omega)
    have p2 : canonFrom (setAt (x :: l)) k 1 = [x] := by
      rw [canonFrom_succ, canonFrom_zero, e1, if_pos rfl, if_neg hs0, ← hx]; rfl
    have p3 : canonFrom (setAt (x :: l)) (k + 1) (256 - (k + 1)) = l := by
      rw [canonFrom_congr (N := setAt l)]
      · exact ih.symm
      · intro j hj1 hj2
        rw [e1, if_neg (by omega)]
    rw [p1, p2, p3]; rfl
theorem right_canon {l : List Ch} (h : rightL l = true) : l = canon (setAt l) := right_canonFrom (a := 0) h (by omega)
theorem canonFrom_right {M : Nat → Nat} : ∀ {n a : Nat}, (∀ k, k < 256 → M k < big) → a + n ≤ 256 → rightF ((a : Int) - 1) (canonFrom M a n) = true
  | 0, _, _, _ => rfl
  | n + 1, a, hM, ha => by
    have ih := canonFrom_right (n := n) (a := a + 1) hM (by omega)
    rw [show (((a + 1 : Nat) : Int) - 1) = (a : Int) by omega] at ih
    rw [canonFrom_succ]
    split
    · exact rightF_mono (by omega) ih
    · rename_i h0
      have hb := hM a (by omega)
      show rightF _ (mkCh a (M a) :: canonFrom M (a + 1) n) = true
      simp only [rightF, Bool.and_eq_true, decide_eq_true_eq]
      exact ⟨⟨⟨by show (a : Int) - 1 < (a : Int); omega, by show (a : Int) < 256; omega⟩, isBest_mk hb h0⟩, ih⟩
theorem canon_right {M : Nat → Nat} (hM : ∀ k, k < 256 → M k < big) : rightL (canon M) = true := canonFrom_right (n := 256) (a := 0) hM (by omega)
theorem setAt_canonFrom {M : Nat → Nat} : ∀ {n a : Nat} (k : Nat), (∀ k, k < 256 → M k < big) → a + n ≤ 256 → setAt (canonFrom M a n) k = if a ≤ k ∧ k < a + n then M k else 0
  | 0, a, k, _, _ => by rw [if_neg (by omega)]; rfl
  | n + 1, a, k, hM, ha => by
    have ih := setAt_canonFrom (n := n) (a := a + 1) k hM (by omega)
    rw [canonFrom_succ]
    by_cases h0 : M a = 0
    · rw [if_pos h0, List.nil_append, ih]
      by_cases hk : k = a
      · subst hk; rw [if_neg (by omega), if_pos (by omega), h0]
      · by_cases h1 : a ≤ k ∧ k < a + (n + 1)
        · rw [if_pos (by omega), if_pos h1]
        · rw [if_neg (by omega), if_neg h1]
    · rw [if_neg h0]
      show setAt (mkCh a (M a) :: canonFrom M (a + 1) n) k = _
      rw [setAt_cons, ih]
      by_cases hk : k = a
      · subst hk
        rw [if_pos (show (mkCh k (M k)).key = (k : Int) from rfl), if_pos (by omega), mkCh_set (hM k (by omega))]
      · rw [if_neg (by show ¬ (a : Int) = (k : Int); omega)]
        by_cases h1 : a ≤ k ∧ k < a + (n + 1)
        · rw [if_pos (by omega), if_pos h1]
        · rw [if_neg (by omega), if_neg h1]
theorem setAt_canon {M : Nat → Nat} (hM : ∀ k, k < 256 → M k < big) {k : Nat} (hk : k < 256) : setAt (canon M) k = M k := by
  unfold canon; rw [setAt_canonFrom k hM (by omega), if_pos (by omega)]

/-! ## the reference's set -/
def readCh (x : Ch) : Nat := readAll x.form (dn x.data)
def setStep (k : Nat) (s : Nat) (x : Ch) : Nat := if x.key = (k : Int) then s ||| readCh x else s
def setR (l : List Ch) (k : Nat) : Nat := l.foldl (setStep k) 0
theorem readCh_lt (x : Ch) : readCh x < big := readTo_lt (dn_get_lt _) _
theorem readCh_mk {k s : Nat} (hs : s < big) : readCh (mkCh k s) = s := by
  unfold readCh mkCh
  rw [dn_bs (asOf_lt (best_as s)), read_as hs (best_as s)]
theorem setR_snoc (l : List Ch) (x : Ch) (k : Nat) : setR (l ++ [x]) k = setStep k (setR l k) x := by simp [setR]
theorem setStep_lt {k s : Nat} {x : Ch} (hs : s < big) : setStep k s x < big := by
  unfold setStep
  split
  · exact Nat.or_lt_two_pow hs (readCh_lt x)
  · exact hs
theorem setFold_lt (k : Nat) : ∀ (l : List Ch) {s : Nat}, s < big → l.foldl (setStep k) s < big
  | [], _, hs => hs
  | _ :: l, _, hs => setFold_lt k l (setStep_lt hs)
theorem setR_lt (l : List Ch) (k : Nat) : setR l k < big := setFold_lt k l (by decide +kernel)
theorem setFold_canonFrom {M : Nat → Nat} (k : Nat) (hM : ∀ k, k < 256 → M k < big) : ∀ {n a : Nat} (s : Nat), a + n ≤ 256 → (canonFrom M a n).foldl (setStep k) s = if a ≤ k ∧ k < a + n then s ||| M k else s
  | 0, a, s, _ => by rw [if_neg (by omega)]; rfl
  | n + 1, a, s, ha => by
    rw [canonFrom_succ, List.foldl_append, setFold_canonFrom k hM _ (by omega)]
    by_cases h0 : M a = 0
    · rw [if_pos h0, List.foldl_nil]
      by_cases hk : k = a
      · subst hk; rw [if_neg (by omega), if_pos (by omega), h0, Nat.or_zero]
      · by_cases h1 : a ≤ k ∧ k < a + (n + 1)
        · rw [if_pos (by omega), if_pos h1]
        · rw [if_neg (by omega), if_neg h1]
    · rw [if_neg h0, List.foldl_cons, List.foldl_nil]
      unfold setStep
      by_cases hk : k = a
      · subst hk
        rw [if_pos (show (mkCh k (M k)).key = (k : Int) from rfl), readCh_mk (hM k (by omega)), if_neg (by omega), if_pos (by omega)]
      · rw [if_neg (show ¬ (mkCh a (M a)).key = (k : Int) by show ¬ (a : Int) = (k : Int); omega)]
        by_cases h1 : a ≤ k ∧ k < a + (n + 1)
        · rw [if_pos (by omega), if_pos h1]
        · rw [if_neg (by omega), if_neg h1]
theorem setR_canon {M : Nat → Nat} (hM : ∀ k, k < 256 → M k < big) {k : Nat} (hk : k < 256) : setR (canon M) k = M k := by
  unfold setR canon
  rw [setFold_canonFrom k hM 0 (by omega), if_pos (by omega), Nat.zero_or]
theorem setR_right {l : List Ch} (h : rightL l = true) {k : Nat} (hk : k < 256) : setR l k = setAt l k := by
  have e := right_canon h
  have h1 := setR_canon (M := setAt l) (fun k _ => setAt_lt l k) hk
  rwa [← e] at h1
/-- **The two ways to say which lists of chunks are right.** -/
theorem rightL_iff (l : List Ch) : rightL l = true ↔ l.length ≤ 256 ∧ l = canon (setR l) := by
  constructor
  · intro h
    have e := right_canon h
    refine ⟨by rw [e]; exact canonFrom_len _ _ _, ?_⟩
    rw [canon_congr (N := setAt l) fun k hk => setR_right h hk]
    exact e
  · rintro ⟨_, h⟩
    rw [h]
    exact canon_right fun k _ => setR_lt l k
theorem right_ext {l m : List Ch} (hl : rightL l = true) (hm : rightL m = true) (h : ∀ k, k < 256 → setAt l k = setAt m k) : l = m := by
  rw [right_canon hl, right_canon hm]
  exact canon_congr h
end Go.Proofs.YtnigpmbpipmgfaaDoor

/-
  roar's isBest.
-/
namespace Go.Proofs.YtnigpmbpipmgfaaDoor
open Go.RowKit Tess

theorem opOf_self (s : Nat) : opOf 2 s s = s := by
  show s ||| s = s
  exact Nat.or_self s
theorem isBestB_no {f : Int} {D : ByteArray} (h : (ofRes f D).2 = false) : isBestB f D = false := by unfold isBestB; rw [h]; rfl
theorem isBestB_yes {f : Int} {D : ByteArray} (h : (ofRes f D).2 = true) : isBestB f D = (sameC (best (ofRes f D).1).form (bs (best (ofRes f D).1).data) f D && decide (0 < ci f D)) := by
  unfold isBestB ci; rw [h]; simp

set_option maxRecDepth 100000 in
set_option maxHeartbeats 4000000 in
theorem isBest_any (f : Int) (D : ByteArray) (w : World) (hD : D.size ≤ 1000000) (hT : Tab w) :
    Calls Tryd.prog 82 #[.agg #[.int .i64 f, .string D]] w fun e W' => e = .returned (.bool (isBestB f D)) ∧ Below w.heap.size w W' := by
  have hR : Below w.heap.size w (w.alloc (.cells #[.int .i64 f, .string D] 75)) := (Below.refl _ w).alloc (Nat.le_refl _) _
  have hx0 := CBox.new w f D
  have ho := Op_any 2 f D f D _ hD hD (hT.below hR hT.lt)
  obtain ⟨d0, d1, -, -⟩ := blk2_cells hx0
  cases hok : (ofRes f D).2 with
  | false =>
    rw [opRes_no (.inl hok)] at ho
    have hfin := Lib.hid (isBestB_no hok)
    have ho' := Lib.hid ho
    clear ho hok
    go_enter Tryd.func82, Tryd.ntmps82
    go_wp2_with fail
    refine (ho'.out).mono ?_
    rintro e W1 ⟨rfl, hb1⟩
    have hB1 := hR.trans (hb1.mono hR.size)
    clear d0 d1 hb1
    simp only [cv]
    go_wp2
    exact bodyPost_ret (v := .bool false) (by simp [results, Tryd.results82, go_sem]) rfl ⟨by rw [hfin.out], hB1.alloc hB1.size _⟩
  | true =>
    rw [opRes_yes hok hok (by decide), opOf_self] at ho
    have hfin := isBestB_yes hok
    have ho' := Lib.hid ho
    clear ho hok
    obtain ⟨c, hc⟩ : ∃ c, best (ofRes f D).1 = c := ⟨_, rfl⟩
    rw [hc] at ho' hfin
    clear hc
    cases hsm : sameC c.form (bs c.data) f D with
    | false =>
      have heq := cont_eq c.form f (bs c.data) D
      rw [hsm] at heq hfin
      have hfin' := Lib.hid hfin
      have hgd := cont_guard
      clear hfin hsm
      go_enter Tryd.func82, Tryd.ntmps82
      go_wp2_with fail
      refine (ho'.out).mono ?_
      rintro e W1 ⟨rfl, hb1⟩
      have hB1 := hR.trans (hb1.mono hR.size)
      have hx1 := (hx0.later hb1).alloc (.cells #[.int .i64 c.form, .string (bs c.data)] 75)
      clear d0 d1 hb1
      obtain ⟨d0, d1, -, -⟩ := blk2_cells hx1
      simp only [cv]
      go_wp2
      exact bodyPost_ret (v := .bool false) (by simp [results, Tryd.results82, go_sem]) rfl ⟨by rw [hfin'.out]; rfl, hB1.alloc hB1.size _⟩
    | true =>
      have heq := cont_eq c.form f (bs c.data) D
      rw [hsm] at heq hfin
      have hfin' := Lib.hid hfin
      have hgd := cont_guard
      clear hfin hsm
      have hcr := ci_range f D
      go_enter Tryd.func82, Tryd.ntmps82
      go_wp2_with fail
      refine (ho'.out).mono ?_
      rintro e W1 ⟨rfl, hb1⟩
      have hB1 := hR.trans (hb1.mono hR.size)
      have hB2 := Lib.hid (hB1.alloc hB1.size (.cells #[.int .i64 c.form, .string (bs c.data)] 75))
      have hx1 := (hx0.later hb1).alloc (.cells #[.int .i64 c.form, .string (bs c.data)] 75)
      clear d0 d1 hb1
      obtain ⟨d0, d1, -, -⟩ := blk2_cells hx1
      have hct := Lib.hid (Count_ci f D (W1.alloc (.cells #[.int .i64 c.form, .string (bs c.data)] 75)) hD (hT.below hB2.out hT.lt))
      generalize ci f D = n at hcr hct hfin'
      simp only [cv]
      go_wp2_with fail
      refine (hct.out).mono ?_
      rintro e W2 ⟨rfl, hb2⟩
      go_wp2
      exact bodyPost_ret (v := .bool (decide (0 < n))) (by simp [results, Tryd.results82, go_sem]) rfl ⟨by rw [hfin'.out]; simp, hB2.out.trans (hb2.mono hB2.out.size)⟩
end Go.Proofs.YtnigpmbpipmgfaaDoor

/-
  A slice of chunks in memory.
-/
namespace Go.Proofs.YtnigpmbpipmgfaaDoor
open Go.RowKit Tess

/-- A chunk's three cells. -/
def chv (x : Ch) : List Value := [.int .i64 x.key, .int .i64 x.form, .string x.data]
def chvs (l : List Ch) : List Value := l.flatMap chv
theorem chvs_len (l : List Ch) : (chvs l).length = l.length * 3 := by
  induction l with
  | nil => rfl
  | cons x l ih => show (chv x ++ chvs l).length = _; rw [List.length_append, ih]; simp [chv]; omega
theorem chvs_append (l m : List Ch) : chvs (l ++ m) = chvs l ++ chvs m := by unfold chvs; exact List.flatMap_append
theorem chvs_get : ∀ {l : List Ch} {j : Nat} (hj : j < l.length), (chvs l)[j * 3]? = some (.int .i64 l[j].key) ∧ (chvs l)[j * 3 + 1]? = some (.int .i64 l[j].form) ∧ (chvs l)[j * 3 + 2]? = some (.string l[j].data)
  | x :: l, 0, _ => by
    show (chv x ++ chvs l)[0 * 3]? = _ ∧ (chv x ++ chvs l)[0 * 3 + 1]? = _ ∧ (chv x ++ chvs l)[0 * 3 + 2]? = _
    simp [chv]
  | x :: l, j + 1, hj => by
    have hj' : j < l.length := by simpa using hj
    have ih := chvs_get hj'
    show (chv x ++ chvs l)[(j + 1) * 3]? = _ ∧ (chv x ++ chvs l)[(j + 1) * 3 + 1]? = _ ∧ (chv x ++ chvs l)[(j + 1) * 3 + 2]? = _
    rw [List.getElem?_append_right (by simp [chv]; omega), List.getElem?_append_right (by simp [chv]; omega), List.getElem?_append_right (by simp [chv]; omega)]
    have e : (chv x).length = 3 := rfl
    rw [e, show (j + 1) * 3 - 3 = j * 3 by omega, show (j + 1) * 3 + 1 - 3 = j * 3 + 1 by omega, show (j + 1) * 3 + 2 - 3 = j * 3 + 2 by omega]
    exact ih

/-- THE SLICE VALUE v HOLDS THE CHUNKS l, in a block below n₀; or it is empty. -/
def Chs (n₀ : Nat) (W : World) (v : Value) (l : List Ch) : Prop :=
  ∃ p cap, v = .slice p l.length cap ∧ l.length ≤ cap ∧ ∀ j (hj : j < l.length), ∃ b off, p = some ⟨b, off, none⟩ ∧ b < n₀ ∧ W.cell? ⟨b, off + j * 3, none⟩ = some (.int .i64 l[j].key) ∧ W.cell? ⟨b, off + j * 3 + 1, none⟩ = some (.int .i64 l[j].form) ∧ W.cell? ⟨b, off + j * 3 + 2, none⟩ = some (.string l[j].data)
theorem Chs.below {n₀ n₁ : Nat} {A B : World} {v : Value} {l : List Ch} (h : Chs n₀ A v l) (hb : Below n₁ A B) (hn : n₀ ≤ n₁) : Chs n₀ B v l := by
  obtain ⟨p, cap, hv, hc, h⟩ := h
  refine ⟨p, cap, hv, hc, fun j hj => ?_⟩
  obtain ⟨b, off, hp, hb1, h1, h2, h3⟩ := h j hj
  have hb2 := Nat.lt_of_lt_of_le hb1 hn
  exact ⟨b, off, hp, hb1, (hb.cell (p := ⟨b, _, none⟩) hb2).trans h1, (hb.cell (p := ⟨b, _, none⟩) hb2).trans h2, (hb.cell (p := ⟨b, _, none⟩) hb2).trans h3⟩
theorem Chs.more {n₀ n₁ : Nat} {A : World} {v : Value} {l : List Ch} (h : Chs n₀ A v l) (hn : n₀ ≤ n₁) : Chs n₁ A v l := by
  obtain ⟨p, cap, hv, hc, h⟩ := h
  refine ⟨p, cap, hv, hc, fun j hj => ?_⟩
  obtain ⟨b, off, hp, hb1, h1, h2, h3⟩ := h j hj
  exact ⟨b, off, hp, Nat.lt_of_lt_of_le hb1 hn, h1, h2, h3⟩
/-- The slice v holds the chunks l, in blocks that are there. -/
def HC (W : World) (v : Value) (l : List Ch) : Prop := Hid (Chs W.heap.size W v l)
theorem HC.later {W W' : World} {v : Value} {l : List Ch} (h : HC W v l) (hb : Below W.heap.size W W') : HC W' v l := Lib.hid (((Hid.out h).below hb (Nat.le_refl _)).more hb.size)
theorem HC.alloc {W : World} {v : Value} {l : List Ch} (h : HC W v l) (o : Obj) : HC (W.alloc o) v l := h.later ((Below.refl _ W).alloc (Nat.le_refl _) _)
theorem HC.nil (W : World) (p : Option Addr) (c : Nat) : HC W (.slice p 0 c) [] := Lib.hid ⟨p, c, rfl, Nat.zero_le _, fun j hj => by cases hj⟩
theorem HC.of_row {W : World} {base n : Nat} {v : Value} {l : List Ch} (h : W.ownsRow base 91 3 v n (chvs l)) : HC W v l := by
  have hl := h.1
  rw [chvs_len] at hl
  obtain ⟨_, ⟨rfl, h0⟩ | ⟨g, cap, cur, rfl, _, hg, hn, hc, hs, ht⟩⟩ := h
  · have : l = [] := by cases l with
      | nil => rfl
      | cons x l => simp at hl; omega
    subst this
    exact HC.nil W _ _
  · have hln : l.length = n := by omega
    subst hln
    refine Lib.hid ⟨_, cap, rfl, hn, fun j hj => ⟨g, 0, rfl, lt_of_heap hg, ?_⟩⟩
    obtain ⟨h1, h2, h3⟩ := chvs_get hj
    have key : ∀ i u, i < l.length * 3 → (chvs l)[i]? = some u → W.cell? ⟨g, 0 + i, none⟩ = some u := by
      intro i u hi hu
      have e : (cur.toList.take (l.length * 3))[i]? = some u := by rw [ht]; exact hu
      rw [List.getElem?_take_of_lt hi] at e
      simp [World.cell?, hg]
      simpa using e
    exact ⟨key _ _ (by omega) h1, by rw [Nat.add_assoc]; exact key _ _ (by omega) h2, by rw [Nat.add_assoc]; exact key _ _ (by omega) h3⟩

theorem box_far {W : World} {b n : Nat} {f : Int} {D : ByteArray} (h : CBox W b f D) (hne : b ≠ n) (u v : Value) : CBox ((W.setCell ⟨n, 0, none⟩ u).setCell ⟨n, 1, none⟩ v) b f D :=
  (Below.heap_setCell _ ⟨n, 1, none⟩ _ _ hne).trans ((Below.heap_setCell W ⟨n, 0, none⟩ _ _ hne).trans h)
theorem below_set2 {w W : World} {n : Nat} (h : Below w.heap.size w W) (hn : w.heap.size ≤ n) (u v : Value) : Below w.heap.size w ((W.setCell ⟨n, 0, none⟩ u).setCell ⟨n, 1, none⟩ v) :=
  (h.setCell (p := ⟨n, 0, none⟩) hn _).setCell (p := ⟨n, 1, none⟩) hn _

/-- A bitmap in a box of its own. -/
def RBox (W : World) (b : Nat) (v : Value) : Prop := W.heap[b]? = some (.cells #[v] 28 (0, 0))
theorem RBox.new (W : World) (v : Value) : RBox (W.alloc (.cells #[v] 28)) W.heap.size v := heap_alloc_new W _
theorem RBox.lt {W : World} {b : Nat} {v : Value} (h : RBox W b v) : b < W.heap.size := lt_of_heap h
theorem RBox.below {W W' : World} {b B : Nat} {v : Value} (h : RBox W b v) (hb : Below B W W') (hB : b < B) : RBox W' b v := (hb.block b hB).trans h
theorem RBox.later {W W' : World} {b : Nat} {v : Value} (h : RBox W b v) (hb : Below W.heap.size W W') : RBox W' b v := h.below hb h.lt
theorem RBox.alloc {W : World} {b : Nat} {v : Value} (h : RBox W b v) (o : Obj) : RBox (W.alloc o) b v := h.later ((Below.refl _ W).alloc (Nat.le_refl _) _)
theorem RBox.grown {W W' : World} {b : Nat} {row : Option Nat} {v : Value} (h : RBox W b v) (hg : W.grownBy W' row) (hne : some b ≠ row) : RBox W' b v := (hg.block b h.lt hne).trans h
theorem RBox.far {W : World} {b : Nat} {v : Value} (h : RBox W b v) {p : Addr} (hp : b ≠ p.block) (u : Value) : RBox (W.setCell p u) b v := (Below.heap_setCell W p u b hp).trans h
theorem RBox.cell {W : World} {b : Nat} {v : Value} (h : RBox W b v) : W.cell? ⟨b, 0, none⟩ = some v := by rw [cell_of_row W b 0 _ _ (0, 0) h]; rfl
theorem RBox.frozen {W : World} {b : Nat} {v : Value} (h : RBox W b v) : W.frozen? ⟨b, 0, none⟩ = false := by
  unfold RBox at h
  simp [World.frozen?, h]
theorem RBox.set {W : World} {b : Nat} {v : Value} (h : RBox W b v) (u : Value) : RBox (W.setCell ⟨b, 0, none⟩ u) b u := by
  unfold RBox at h ⊢
  simp [World.setCell, Array.getElem?_modify, h]
/-- A store into a bitmap's box leaves chunks alone. -/
theorem HC.setR {W : World} {v u : Value} {l : List Ch} {b : Nat} (h : HC W v l) (hx : RBox W b u) (u' : Value) : HC (W.setCell ⟨b, 0, none⟩ u') v l := by
  obtain ⟨p, cap, hv, hc, hh⟩ := Hid.out h
  refine Lib.hid ⟨p, cap, hv, hc, fun j hj => ?_⟩
  obtain ⟨g, off, hp, hb1, h1, h2, h3⟩ := hh j hj
  have hne : g ≠ b := by
    rintro rfl
    rw [cell_of_row W g _ _ _ (0, 0) hx] at h2
    simp at h2
  have hk : ∀ i, (W.setCell ⟨b, 0, none⟩ u').cell? ⟨g, i, none⟩ = W.cell? ⟨g, i, none⟩ := fun i => World.cell?_setCell_other W ⟨b, 0, none⟩ ⟨g, i, none⟩ u' (fun e => by
    have := congrArg Addr.block e
    first | exact hne this | exact hne this.symm)
  exact ⟨g, off, hp, by simpa using hb1, (hk _).trans h1, (hk _).trans h2, (hk _).trans h3⟩
/-- A chunk in a box of its own. -/
def KBox (W : World) (b : Nat) (x : Ch) : Prop := W.heap[b]? = some (.cells #[.int .i64 x.key, .int .i64 x.form, .string x.data] 91 (0, 0))
theorem KBox.new (W : World) (x : Ch) : KBox (W.alloc (.cells #[.int .i64 x.key, .int .i64 x.form, .string x.data] 91)) W.heap.size x := heap_alloc_new W _
theorem KBox.lt {W : World} {b : Nat} {x : Ch} (h : KBox W b x) : b < W.heap.size := lt_of_heap h
theorem KBox.later {W W' : World} {b : Nat} {x : Ch} (h : KBox W b x) (hb : Below W.heap.size W W') : KBox W' b x := (hb.block b h.lt).trans h
theorem KBox.alloc {W : World} {b : Nat} {x : Ch} (h : KBox W b x) (o : Obj) : KBox (W.alloc o) b x := h.later ((Below.refl _ W).alloc (Nat.le_refl _) _)
theorem KBox.grown {W W' : World} {b : Nat} {row : Option Nat} {x : Ch} (h : KBox W b x) (hg : W.grownBy W' row) (hne : some b ≠ row) : KBox W' b x := (hg.block b h.lt hne).trans h
theorem KBox.cells {W : World} {b : Nat} {x : Ch} (h : KBox W b x) : W.cell? ⟨b, 0, none⟩ = some (.int .i64 x.key) ∧ W.cell? ⟨b, 1, none⟩ = some (.int .i64 x.form) ∧ W.cell? ⟨b, 2, none⟩ = some (.string x.data) := by
  refine ⟨?_, ?_, ?_⟩
  · rw [cell_of_row W b 0 _ _ (0, 0) h]; rfl
  · rw [cell_of_row W b 1 _ _ (0, 0) h]; rfl
  · rw [cell_of_row W b 2 _ _ (0, 0) h]; rfl
theorem KBox.frozen {W : World} {b : Nat} {x : Ch} (h : KBox W b x) (i : Nat) : W.frozen? ⟨b, i, none⟩ = false := by
  unfold KBox at h
  simp [World.frozen?, h]
theorem info_chunk : (Tryd.prog.info? 91).map (fun i => (i.zero, i.size, i.bytes)) = some (some (.agg #[.int .i64 0, .int .i64 0, .string ⟨#[]⟩]), 3, 32) := by kernel_rfl
end Go.Proofs.YtnigpmbpipmgfaaDoor
