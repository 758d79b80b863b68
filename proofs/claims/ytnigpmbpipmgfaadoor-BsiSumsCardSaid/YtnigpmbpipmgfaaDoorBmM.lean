/-
  Bm2, Bm3: several texts in one (merge.py).
-/
import Derived.Test.YtnigpmbpipmgfaaDoorAskB
import Derived.Test.YtnigpmbpipmgfaaDoorFlip7

/-
  Bitmaps of numbers: what a bitmap's numbers are; count, rank, select, has. No program.
-/
namespace Go.Proofs.YtnigpmbpipmgfaaDoor
open Go.RowKit Tess

theorem chN_mem {x : Ch} (h0 : 0 ≤ x.key) {m : Nat} : m ∈ chN x ↔ ((m : Int) / 256 = x.key ∧ x.set.testBit (m % 256) = true) := by
  unfold chN
  rw [List.mem_map]
  constructor
  · rintro ⟨a, ha, rfl⟩
    obtain ⟨h1, h2⟩ := mem_nums.1 ha
    have e1 : (x.key.toNat * 256 + a) % 256 = a := by omega
    rw [e1]
    exact ⟨by omega, h2⟩
  · rintro ⟨h1, h2⟩
    exact ⟨m % 256, mem_nums.2 ⟨by omega, h2⟩, by omega⟩
theorem chN_rising (x : Ch) : (chN x).Pairwise (· < ·) := by
  unfold chN
  rw [List.pairwise_map]
  exact (nums_rising x.set).imp fun h => by omega
theorem chN_len' (x : Ch) : (chN x).length = count x.set := by unfold chN; rw [List.length_map]; rfl
theorem cntF_all (l : List Ch) : cntF l = ((allN l).length : Int) := by
  induction l with
  | nil => rfl
  | cons x l ih =>
    show ci x.form x.data + cntF l = ((chN x ++ allN l).length : Int)
    rw [ih, List.length_append, chN_len']
    unfold ci Ch.set; omega
theorem allN_in : ∀ {l : List Ch} {b : Int}, -1 ≤ b → rightF b l = true → ∀ m ∈ allN l, (b + 1) * 256 ≤ (m : Int) ∧ (m : Int) < 65536
  | [], _, _, _, _, hm => by cases hm
  | x :: l, b, hb, h, m, hm => by
    simp only [rightF, Bool.and_eq_true, decide_eq_true_eq] at h
    have hm' : m ∈ chN x ++ allN l := hm
    rcases List.mem_append.1 hm' with hm | hm
    · have := (chN_mem (by omega)).1 hm
      omega
    · have := allN_in (by omega) h.2 m hm
      omega
theorem allN_rising : ∀ {l : List Ch} {b : Int}, -1 ≤ b → rightF b l = true → (allN l).Pairwise (· < ·)
  | [], _, _, _ => .nil
  | x :: l, b, hb, h => by
    simp only [rightF, Bool.and_eq_true, decide_eq_true_eq] at h
    show (chN x ++ allN l).Pairwise _
    refine List.pairwise_append.2 ⟨chN_rising x, allN_rising (by omega) h.2, fun a ha c hc => ?_⟩
    have h1 := (chN_mem (by omega)).1 ha
    have h2 := allN_in (by omega) h.2 c hc
    omega

/-- How many numbers are not above n. -/
def leN (l : List Nat) (n : Int) : Nat := (l.filter fun m : Nat => decide ((m : Int) ≤ n)).length
theorem leN_append (l m : List Nat) (n : Int) : leN (l ++ m) n = leN l n + leN m n := by unfold leN; rw [List.filter_append, List.length_append]
theorem leN_none {l : List Nat} {n : Int} (h : ∀ m ∈ l, n < (m : Int)) : leN l n = 0 := by
  unfold leN
  rw [List.filter_eq_nil_iff.2 (fun m hm => by have := h m hm; simp; omega)]; rfl
theorem leN_all {l : List Nat} {n : Int} (h : ∀ m ∈ l, (m : Int) ≤ n) : leN l n = l.length := by
  unfold leN
  rw [List.filter_eq_self.2 (fun m hm => by simpa using h m hm)]
theorem leN_chunk (x : Ch) (h0 : 0 ≤ x.key) (n : Int) (he : x.key = n / 256) : leN (chN x) n = rank x.set (n % 256) := by
  unfold leN chN rank
  rw [List.filter_map, List.length_map]
  congr 1
  refine List.filter_congr fun m hm => ?_
  simp only [Function.comp]
  have := (mem_nums.1 hm).1
  congr 1
  apply propext
  omega
theorem rnkF_all : ∀ {l : List Ch} {b n : Int}, -1 ≤ b → rightF b l = true → rnkF n l = (leN (allN l) n : Int)
  | [], _, _, _, _ => rfl
  | x :: l, b, n, hb, h => by
    simp only [rightF, Bool.and_eq_true, decide_eq_true_eq] at h
    have hx0 : 0 ≤ x.key := by omega
    show rnkF n (x :: l) = (leN (chN x ++ allN l) n : Int)
    rw [leN_append]
    have ih := rnkF_all (n := n) (by omega) h.2
    unfold rnkF
    split
    · rename_i hlt
      rw [leN_all (fun m hm => by have := ((chN_mem hx0).1 hm).1; omega), chN_len', ih]
      unfold ci Ch.set; omega
    · split
      · rename_i _ heq
        rw [ih, leN_chunk x hx0 n heq]
        unfold rk Ch.set; omega
      · rename_i h1 h2
        rw [leN_none (fun m hm => by have := ((chN_mem hx0).1 hm).1; omega), leN_none (fun m hm => by have := allN_in (by omega) h.2 m hm; omega)]
        rfl
theorem selF_out : ∀ {l : List Ch} {p : Int}, ((allN l).length : Int) ≤ p → selF l p = (0, false)
  | [], _, _ => rfl
  | x :: l, p, h => by
    have h' : ((chN x ++ allN l).length : Int) ≤ p := h
    rw [List.length_append, chN_len'] at h'
    unfold selF
    rw [sel_out (by omega)]
    have hc : ci x.form x.data = (count x.set : Int) := rfl
    simp only [Bool.false_eq_true, if_false]
    rw [hc]
    exact selF_out (by omega)
theorem selF_in : ∀ {l : List Ch} {b : Int} {k : Nat}, -1 ≤ b → rightF b l = true → k < (allN l).length → selF l k = (((((allN l)[k]?.getD 0 : Nat)) : Int), true)
  | [], _, _, _, _, h => by cases h
  | x :: l, b, k, hb, hr, h => by
    simp only [rightF, Bool.and_eq_true, decide_eq_true_eq] at hr
    have h' : k < (chN x ++ allN l).length := h
    show selF (x :: l) k = (((((chN x ++ allN l)[k]?.getD 0 : Nat)) : Int), true)
    rw [List.length_append, chN_len'] at h'
    have hc : ci x.form x.data = (count x.set : Int) := rfl
    unfold selF
    by_cases hlt : k < count x.set
    · have e : selRes x.set (k : Int) = (((((nums x.set)[k]?.getD 0 : Nat)) : Int), true) := by
        unfold selRes; rw [if_pos ⟨by omega, by omega⟩]; rfl
      rw [e]
      have hlt' : k < (nums x.set).length := hlt
      simp only [if_true]
      rw [List.getElem?_append_left (by rw [chN_len']; exact hlt)]
      unfold chN
      rw [List.getElem?_map, List.getElem?_eq_getElem hlt']
      simp only [Option.map_some, Option.getD_some]
      congr 1
      omega
    · rw [sel_out (by omega)]
      simp only [Bool.false_eq_true, if_false]
      rw [hc, show (k : Int) - (count x.set : Int) = ((k - count x.set : Nat) : Int) by omega, selF_in (by omega) hr.2 (by omega), List.getElem?_append_right (by rw [chN_len']; omega), chN_len']
theorem has_all : ∀ {l : List Ch} {b n : Int}, -1 ≤ b → rightF b l = true → 0 ≤ n → (l.any (hasC n) = true ↔ n.toNat ∈ allN l)
  | [], _, _, _, _, _ => by simp [allN]
  | x :: l, b, n, hb, h, hn => by
    simp only [rightF, Bool.and_eq_true, decide_eq_true_eq] at h
    rw [List.any_cons, Bool.or_eq_true, has_all (by omega) h.2 hn]
    show _ ↔ n.toNat ∈ chN x ++ allN l
    rw [List.mem_append, chN_mem (by omega)]
    refine or_congr ?_ Iff.rfl
    unfold hasC
    rw [Bool.and_eq_true, beq_iff_eq]
    have e : ((n.toNat : Nat) : Int) = n := by omega
    rw [e]
    refine ⟨fun ⟨h1, h2⟩ => ⟨h1.symm, ?_⟩, fun ⟨h1, h2⟩ => ⟨h1.symm, ?_⟩⟩
    · unfold hi at h2
      rw [show n % 256 = ((n.toNat % 256 : Nat) : Int) by omega, hasI_nat (by omega)] at h2
      exact h2
    · unfold hi
      rw [show n % 256 = ((n.toNat % 256 : Nat) : Int) by omega, hasI_nat (by omega)]
      exact h2

/-- A rising list's rank at its own numbers. -/
theorem leN_rising {l : List Nat} (h : l.Pairwise (· < ·)) {k : Nat} (hk : k < l.length) : leN l (l[k] : Int) = k + 1 ∧ leN l ((l[k] : Int) - 1) = k := by
  have h1 : l = l.take k ++ l[k] :: l.drop (k + 1) := by
    rw [← List.drop_eq_getElem_cons hk, List.take_append_drop]
  generalize l[k] = x at h1 ⊢
  have hkt : (l.take k).length = k := by rw [List.length_take]; omega
  generalize l.take k = a at h1 hkt
  generalize l.drop (k + 1) = c at h1
  subst h1
  obtain ⟨_, h3, h4⟩ := List.pairwise_append.1 h
  have h5 := List.pairwise_cons.1 h3
  have hh (n : Int) : leN (a ++ x :: c) n = leN a n + leN [x] n + leN c n := by rw [leN_append, show x :: c = [x] ++ c from rfl, leN_append]; omega
  have ha : ∀ m ∈ a, m < x := fun m hm => h4 m hm x (List.mem_cons_self)
  rw [hh, hh, leN_all (l := a) (fun m hm => by have := ha m hm; omega), leN_all (l := a) (fun m hm => by have := ha m hm; omega), leN_none (l := c) (fun m hm => by have := h5.1 m hm; omega), leN_none (l := c) (fun m hm => by have := h5.1 m hm; omega),
    leN_all (l := [x]) (by simp), leN_none (l := [x]) (by simp; omega), hkt]
  exact ⟨rfl, rfl⟩

theorem rightF_of {l : List Ch} (h : rightL l = true) : rightF (-1) l = true := h
theorem cntL_all {l : List Ch} (h : rightL l = true) : cntL l = ((allN l).length : Int) := by unfold cntL; rw [if_pos h]; exact cntF_all l
theorem rnkL_all {l : List Ch} (h : rightL l = true) (n : Int) : rnkL l n = (leN (allN l) n : Int) := by unfold rnkL; rw [if_pos h]; exact rnkF_all (by omega) (rightF_of h)
theorem allN_lt {l : List Ch} (h : rightL l = true) {m : Nat} (hm : m ∈ allN l) : m < 65536 := by have := allN_in (by omega) (rightF_of h) m hm; omega
theorem allN_sorted {l : List Ch} (h : rightL l = true) : (allN l).Pairwise (· < ·) := allN_rising (by omega) (rightF_of h)
theorem hasL_all {l : List Ch} (h : rightL l = true) (n : Int) : hasL l n = decide (0 ≤ n ∧ n.toNat ∈ allN l) := by
  unfold hasL
  rw [h, Bool.true_and]
  by_cases hn : 0 ≤ n
  · rw [decide_eq_true hn, Bool.true_and]
    have := has_all (n := n) (by omega) (rightF_of h) hn
    cases hb : l.any (hasC n)
    · rw [hb] at this
      exact (decide_eq_false (fun hh => by have := this.2 hh.2; cases this)).symm
    · exact (decide_eq_true ⟨hn, this.1 hb⟩).symm
  · rw [decide_eq_false hn, Bool.false_and]
    exact (decide_eq_false (fun hh => hn hh.1)).symm
theorem selL_bad {l : List Ch} (h : rightL l = true) {p : Int} (hp : p < 0 ∨ cntL l ≤ p) : selL l p = (0, false) := by
  unfold selL
  split
  · rename_i hh
    rw [cntL_all h] at hp
    exact selF_out (by omega)
  · rfl
theorem selL_good {l : List Ch} (h : rightL l = true) {p : Int} (h0 : 0 ≤ p) (h1 : p < cntL l) :
    ∃ m : Nat, m < 65536 ∧ selL l p = ((m : Int), true) ∧ (allN l)[p.toNat]? = some m ∧ hasL l m = true ∧ rnkL l m = p + 1 ∧ rnkL l ((m : Int) - 1) = p := by
  obtain ⟨k, rfl⟩ : ∃ k : Nat, p = k := ⟨p.toNat, by omega⟩
  rw [cntL_all h] at h1
  have hk : k < (allN l).length := by omega
  have hl := leN_rising (allN_sorted h) hk
  refine ⟨(allN l)[k], allN_lt h (List.getElem_mem hk), ?_, ?_, ?_, ?_, ?_⟩
  · unfold selL
    rw [if_pos ⟨h, h0⟩, selF_in (by omega) (rightF_of h) hk, List.getElem?_eq_getElem hk]; rfl
  · rw [Int.toNat_natCast, List.getElem?_eq_getElem hk]
  · rw [hasL_all h]
    exact decide_eq_true ⟨by omega, by rw [Int.toNat_natCast]; exact List.getElem_mem hk⟩
  · rw [rnkL_all h, hl.1]; omega
  · rw [rnkL_all h, hl.2]
theorem mkL_right (zs : List Int) : rightL (mkL zs).1 = true := by
  unfold mkL
  split
  · rfl
  · exact canon_right fun k _ => mkM_lt zs k
theorem mkL_two (zs : List Int) : mkL zs = ([], 70) ∨ (∃ l, mkL zs = (l, 0) ∧ rightL l = true) := by
  have := mkL_right zs
  revert this
  unfold mkL
  split
  · intro _; exact .inl rfl
  · intro h; exact .inr ⟨_, rfl, h⟩
end Go.Proofs.YtnigpmbpipmgfaaDoor

/-
  Bitmaps of numbers, number by number. No program.
-/
namespace Go.Proofs.YtnigpmbpipmgfaaDoor
open Go.RowKit Tess

/-- Is the number n in the sets? -/
def bitM (M : Nat → Nat) (n : Nat) : Bool := (M (n / 256)).testBit (n % 256)
/-- Is the number n in the bitmap? -/
def bitL (l : List Ch) (n : Nat) : Bool := bitM (setAt l) n
theorem allN_canonFrom {M : Nat → Nat} (hM : ∀ k, k < 256 → M k < big) : ∀ (n a : Nat), a + n ≤ 256 → allN (canonFrom M a n) = (List.range' (256 * a) (256 * n)).filter (bitM M)
  | 0, a, _ => rfl
  | n + 1, a, h => by
    have ih := allN_canonFrom hM n (a + 1) (by omega)
    have e1 : allN (canonFrom M a (n + 1)) = (if M a = 0 then [] else chN (mkCh a (M a))) ++ allN (canonFrom M (a + 1) n) := by
      rw [canonFrom_succ]
      unfold allN
      rw [List.flatMap_append]
      congr 1
      split <;> simp
    have e2 : List.range' (256 * a) (256 * (n + 1)) = List.range' (256 * a) 256 ++ List.range' (256 * (a + 1)) (256 * n) := by
      rw [show 256 * (a + 1) = 256 * a + 1 * 256 by omega, List.range'_append]
      congr 1
      omega
    rw [e1, ih, e2, List.filter_append]
    congr 1
    rw [List.range'_eq_map_range, List.filter_map]
    have e3 : (List.range 256).filter (bitM M ∘ fun i => 256 * a + i) = nums (M a) := by
      unfold nums
      refine List.filter_congr fun i hi => ?_
      have hi' := List.mem_range.1 hi
      simp only [Function.comp, bitM]
      rw [show (256 * a + i) / 256 = a by omega, show (256 * a + i) % 256 = i by omega]
    rw [e3]
    split
    · rename_i h0
      rw [h0, nums_zero]; rfl
    · unfold chN
      rw [mkCh_set (hM a (by omega))]
      refine List.map_congr_left fun i _ => ?_
      show (a : Int).toNat * 256 + i = _
      omega
theorem allN_bits {l : List Ch} (h : rightL l = true) : allN l = (List.range 65536).filter (bitL l) := by
  conv => lhs; rw [right_canon h]
  unfold canon
  rw [allN_canonFrom (fun k _ => setAt_lt l k) 256 0 (by omega), List.range_eq_range']
  rfl
theorem set_bits {s t : Nat} (hs : s < big) (ht : t < big) (h : ∀ i, i < 256 → s.testBit i = t.testBit i) : s = t := set_ext hs ht h
theorem ext_bits {l m : List Ch} (hl : rightL l = true) (hm : rightL m = true) (h : ∀ n, n < 65536 → bitL l n = bitL m n) : l = m := by
  refine right_ext hl hm fun k hk => set_bits (setAt_lt l k) (setAt_lt m k) fun i hi => ?_
  have := h (256 * k + i) (by omega)
  unfold bitL bitM at this
  rwa [show (256 * k + i) / 256 = k by omega, show (256 * k + i) % 256 = i by omega] at this
theorem bitL_canon {M : Nat → Nat} (hM : ∀ k, k < 256 → M k < big) {n : Nat} (hn : n < 65536) : bitL (canon M) n = bitM M n := by
  unfold bitL bitM
  rw [setAt_canon hM (by omega)]
theorem opOf_lt {op : Int} {s t : Nat} (hs : s < big) (ht : t < big) : opOf op s t < big := by
  refine Nat.lt_pow_two_of_testBit (n := 256) _ fun i hi => ?_
  rw [testBit_opOf, Nat.testBit_lt_two_pow (Nat.lt_of_lt_of_le hs (Nat.pow_le_pow_right (by omega) hi)), Nat.testBit_lt_two_pow (Nat.lt_of_lt_of_le ht (Nat.pow_le_pow_right (by omega) hi))]
  unfold opBit
  split <;> (try split) <;> (try split) <;> rfl
theorem op_some {op : Int} {l m : List Ch} (hl : rightL l = true) (hm : rightL m = true) (h1 : 1 ≤ op) (h2 : op ≤ 4) :
    ∃ r, opL op l m = (r, 0) ∧ rightL r = true ∧ ∀ n, n < 65536 → bitL r n = opBit op (bitL l n) (bitL m n) := by
  have hM : ∀ k, k < 256 → opOf op (setAt l k) (setAt m k) < big := fun k _ => opOf_lt (setAt_lt l k) (setAt_lt m k)
  refine ⟨_, opL_yes (by rw [hl, hm]; rfl) ⟨h1, h2⟩, canon_right hM, fun n hn => ?_⟩
  rw [bitL_canon hM hn]
  unfold bitL bitM
  rw [testBit_opOf]
theorem flip_some {l : List Ch} {a b : Int} (hl : rightL l = true) (h : 0 ≤ a ∧ a ≤ 65536 ∧ 0 ≤ b ∧ b ≤ 65536) :
    ∃ r, flipL l a b = (r, 0) ∧ rightL r = true ∧ ∀ n, n < 65536 → bitL r n = (bitL l n ^^ decide (a ≤ (n : Int) ∧ (n : Int) < b)) := by
  have hM : ∀ k, k < 256 → flipK (setAt l k) k a b < big := fun k _ => flipK_lt (setAt_lt l k) k a b
  refine ⟨_, flipL_yes hl h, canon_right hM, fun n hn => ?_⟩
  rw [bitL_canon hM hn]
  unfold bitL bitM flipK
  rw [testBit_turnTo]
  congr 1
  unfold fall
  congr 1
  apply propext
  omega
theorem cntL_bits {l : List Ch} (h : rightL l = true) : cntL l = (((List.range 65536).filter (bitL l)).length : Int) := by rw [cntL_all h, allN_bits h]
theorem hasL_bits {l : List Ch} (h : rightL l = true) (n : Int) : hasL l n = (decide (0 ≤ n ∧ n < 65536) && bitL l n.toNat) := by
  rw [hasL_all h, allN_bits h]
  by_cases hn : 0 ≤ n ∧ n < 65536
  · rw [decide_eq_true hn, Bool.true_and]
    have hm : n.toNat < 65536 := by omega
    cases hb : bitL l n.toNat
    · exact decide_eq_false (fun ⟨_, h2⟩ => by have := (List.mem_filter.1 h2).2; rw [hb] at this; cases this)
    · exact decide_eq_true ⟨hn.1, List.mem_filter.2 ⟨List.mem_range.2 hm, hb⟩⟩
  · rw [decide_eq_false hn, Bool.false_and]
    exact decide_eq_false (fun ⟨h1, h2⟩ => hn ⟨h1, by have := List.mem_range.1 (List.mem_filter.1 h2).1; omega⟩)

theorem mkL_ex (zs : List Int) : ∃ l e, mkL zs = (l, e) ∧ rightL l = true ∧ (e = 0 ∨ e = 70) := by
  rcases mkL_two zs with h | ⟨l, h, hl⟩
  · exact ⟨[], 70, h, rfl, .inr rfl⟩
  · exact ⟨l, 0, h, hl, .inl rfl⟩
theorem filter_not (l : List Nat) (p : Nat → Bool) : (l.filter fun n => !p n).length + (l.filter p).length = l.length := by
  induction l with
  | nil => rfl
  | cons x l ih =>
    rw [List.filter_cons, List.filter_cons]
    cases hp : p x <;> simp <;> omega
theorem bitL_nil (n : Nat) : bitL [] n = false := by unfold bitL bitM; rw [setAt_nil, Nat.zero_testBit]

/-- **RoarRules, in plain.** -/
theorem rules_plain {a b c : List Ch} (ha : rightL a = true) (hb : rightL b = true) (hc : rightL c = true) :
    ∃ r x p q s u : List Ch, (rightL r = true ∧ rightL x = true ∧ rightL p = true ∧ rightL q = true ∧ rightL s = true ∧ rightL u = true) ∧ opL 2 b c = (r, 0) ∧ opL 1 a r = (x, 0) ∧ opL 1 a b = (p, 0) ∧ opL 1 a c = (q, 0) ∧ opL 2 p q = (x, 0) ∧ opL 2 c b = (r, 0) ∧ spanL 0 65536 = (s, 0) ∧ flipL r 0 65536 = (u, 0) ∧
      opL 4 s r = (u, 0) ∧ opL 3 s r = (u, 0) ∧ cntL u + cntL r = 65536 := by
  obtain ⟨r, er, hr, br⟩ := op_some (op := 2) hb hc (by omega) (by omega)
  obtain ⟨x, ex, hx, bx⟩ := op_some (op := 1) ha hr (by omega) (by omega)
  obtain ⟨p, ep, hp, bp⟩ := op_some (op := 1) ha hb (by omega) (by omega)
  obtain ⟨q, eq, hq, bq⟩ := op_some (op := 1) ha hc (by omega) (by omega)
  obtain ⟨y, ey, hy, bY⟩ := op_some (op := 2) hp hq (by omega) (by omega)
  obtain ⟨z, ez, hz, bz⟩ := op_some (op := 2) hc hb (by omega) (by omega)
  obtain ⟨s, es, hs, bS⟩ := flip_some (l := []) (a := 0) (b := 65536) rfl (by omega)
  obtain ⟨u, eu, hu, bu⟩ := flip_some (l := r) (a := 0) (b := 65536) hr (by omega)
  obtain ⟨v, ev, hv, bv⟩ := op_some (op := 4) hs hr (by omega) (by omega)
  obtain ⟨t, et, ht, bt⟩ := op_some (op := 3) hs hr (by omega) (by omega)
  have full : ∀ n : Nat, n < 65536 → decide ((0 : Int) ≤ (n : Int) ∧ (n : Int) < 65536) = true := fun n hn => decide_eq_true (by omega)
  have exy : y = x := ext_bits hy hx fun n hn => by
    rw [bY n hn, bx n hn, bp n hn, bq n hn, br n hn]
    cases bitL a n <;> cases bitL b n <;> cases bitL c n <;> rfl
  have ezr : z = r := ext_bits hz hr fun n hn => by
    rw [bz n hn, br n hn]
    cases bitL b n <;> cases bitL c n <;> rfl
  have evu : v = u := ext_bits hv hu fun n hn => by
    rw [bv n hn, bu n hn, bS n hn, full n hn, bitL_nil]
    cases bitL r n <;> rfl
  have etu : t = u := ext_bits ht hu fun n hn => by
    rw [bt n hn, bu n hn, bS n hn, full n hn, bitL_nil]
    cases bitL r n <;> rfl
  subst exy; subst ezr; subst evu; subst etu
  refine ⟨_, _, p, q, s, _, ⟨hr, hx, hp, hq, hs, hu⟩, er, ex, ep, eq, ey, ez, es, eu, ev, et, ?_⟩
  rw [cntL_bits hu, cntL_bits hr]
  have e : (List.range 65536).filter (bitL t) = (List.range 65536).filter fun n => !bitL z n := List.filter_congr fun n hn => by
    have hn' := List.mem_range.1 hn
    rw [bu n hn', full n hn', Bool.xor_true]
  rw [e]
  have := filter_not (List.range 65536) (bitL z)
  rw [List.length_range] at this
  omega

theorem span_count (A B : Nat) : ∀ N : Nat, ((List.range N).filter fun n => decide (A ≤ n ∧ n < B)).length = min B N - A
  | 0 => by simp
  | N + 1 => by
    rw [List.range_succ, List.filter_append, List.length_append, span_count A B N, List.filter_cons]
    by_cases h : A ≤ N ∧ N < B
    · rw [if_pos (by simpa using h)]; simp; omega
    · rw [if_neg (by simpa using h)]; simp; omega
/-- **RoarSpans, in plain.** -/
theorem spans_plain {r : List Ch} (hr : rightL r = true) {a b : Int} (h : 0 ≤ a ∧ a ≤ 65536 ∧ 0 ≤ b ∧ b ≤ 65536) :
    ∃ s f : List Ch, (rightL s = true ∧ rightL f = true) ∧ spanL a b = (s, 0) ∧ flipL r a b = (f, 0) ∧ flipL f a b = (r, 0) ∧ (∀ n, hasL s n = decide (a ≤ n ∧ n < b)) ∧ cntL s = max 0 (b - a) := by
  obtain ⟨s, es, hs, bS⟩ := flip_some (l := []) rfl h
  obtain ⟨f, ef, hf, bf⟩ := flip_some hr h
  obtain ⟨g, eg, hg, bg⟩ := flip_some hf h
  have egr : g = r := ext_bits hg hr fun n hn => by rw [bg n hn, bf n hn, Bool.xor_assoc, Bool.xor_self, Bool.xor_false]
  subst egr
  refine ⟨s, f, ⟨hs, hf⟩, es, ef, eg, fun n => ?_, ?_⟩
  · rw [hasL_bits hs]
    by_cases hn : 0 ≤ n ∧ n < 65536
    · rw [decide_eq_true hn, Bool.true_and, bS n.toNat (by omega), bitL_nil, Bool.false_xor]
      congr 1
      apply propext
      omega
    · rw [decide_eq_false hn, Bool.false_and]
      exact (decide_eq_false (by omega)).symm
  · rw [cntL_bits hs]
    have e : (List.range 65536).filter (bitL s) = (List.range 65536).filter fun n => decide (a.toNat ≤ n ∧ n < b.toNat) := List.filter_congr fun n hn => by
      rw [bS n (List.mem_range.1 hn), bitL_nil, Bool.false_xor]
      congr 1
      apply propext
      omega
    rw [e, span_count]
    omega
theorem spans_out {a b : Int} (h : ¬ (0 ≤ a ∧ a ≤ 65536 ∧ 0 ≤ b ∧ b ≤ 65536)) : spanL a b = ([], 70) := flipL_no (by omega)
end Go.Proofs.YtnigpmbpipmgfaaDoor
