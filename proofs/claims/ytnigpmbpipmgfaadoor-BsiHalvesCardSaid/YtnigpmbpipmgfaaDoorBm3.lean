/-
  Bitmaps of numbers, number by number. No program.
-/
import Derived.Test.YtnigpmbpipmgfaaDoorBm2
import Derived.Test.YtnigpmbpipmgfaaDoorFlip7
namespace Go.Proofs.YtnigpmbpipmgfaaDoor
open Go.RowKit Tess

/-- Is the number n in the sets? -/
def bitM (M : Nat → Nat) (n : Nat) : Bool := (M (n / 256)).testBit (n % 256)
/-- Is the number n in the bitmap? -/
def bitL (l : List Ch) (n : Nat) : Bool := bitM (setAt l) n
theorem allN_canonFrom {M : Nat → Nat} (hM : ∀ k, k < 256 → M k < big) : ∀ (n a : Nat), a + n ≤ 256 → allN (canonFrom M a n) = (List.range' (256 * a) (256 * n)).filter (bitM M)
  | 0, a, _ => rfl
  | n + 1, a, h => by
    have ih := allN_canonFrom hM n (a + 1) (by omega)
    have e1 : allN (canonFrom M a (n + 1)) = (if M a = 0 then [] else chN (mkCh a (M a))) ++ allN (canonFrom M (a + 1) n) := by
      rw [canonFrom_succ]
      unfold allN
      rw [List.flatMap_append]
      congr 1
      split <;> simp
    have e2 : List.range' (256 * a) (256 * (n + 1)) = List.range' (256 * a) 256 ++ List.range' (256 * (a + 1)) (256 * n) := by
      rw [show 256 * (a + 1) = 256 * a + 1 * 256 by omega, List.range'_append]
      congr 1
      omega
    rw [e1, ih, e2, List.filter_append]
    congr 1
    rw [List.range'_eq_map_range, List.filter_map]
    have e3 : (List.range 256).filter (bitM M ∘ fun i => 256 * a + i) = nums (M a) := by
      unfold nums
      refine List.filter_congr fun i hi => ?_
      have hi' := List.mem_range.1 hi
      simp only [Function.comp, bitM]
      rw [show (256 * a + i) / 256 = a by omega, show (256 * a + i) % 256 = i by omega]
    rw [e3]
    split
    · rename_i h0
      rw [h0, nums_zero]; rfl
    · unfold chN
      rw [mkCh_set (hM a (by omega))]
      refine List.map_congr_left fun i _ => ?_
      show (a : Int).toNat * 256 + i = _
      omega
theorem allN_bits {l : List Ch} (h : rightL l = true) : allN l = (List.range 65536).filter (bitL l) := by
  conv => lhs; rw [right_canon h]
  unfold canon
  rw [allN_canonFrom (fun k _ => setAt_lt l k) 256 0 (by omega), List.range_eq_range']
  rfl
theorem set_bits {s t : Nat} (hs : s < big) (ht : t < big) (h : ∀ i, i < 256 → s.testBit i = t.testBit i) : s = t := set_ext hs ht h
theorem ext_bits {l m : List Ch} (hl : rightL l = true) (hm : rightL m = true) (h : ∀ n, n < 65536 → bitL l n = bitL m n) : l = m := by
  refine right_ext hl hm fun k hk => set_bits (setAt_lt l k) (setAt_lt m k) fun i hi => ?_
  have := h (256 * k + i) (by omega)
  unfold bitL bitM at this
  rwa [show (256 * k + i) / 256 = k by omega, show (256 * k + i) % 256 = i by omega] at this
theorem bitL_canon {M : Nat → Nat} (hM : ∀ k, k < 256 → M k < big) {n : Nat} (hn : n < 65536) : bitL (canon M) n = bitM M n := by
  unfold bitL bitM
  rw [setAt_canon hM (by omega)]
theorem opOf_lt {op : Int} {s t : Nat} (hs : s < big) (ht : t < big) : opOf op s t < big := by
  refine Nat.lt_pow_two_of_testBit (n := 256) _ fun i hi => ?_
  rw [testBit_opOf, Nat.testBit_lt_two_pow (Nat.lt_of_lt_of_le hs (Nat.pow_le_pow_right (by omega) hi)), Nat.testBit_lt_two_pow (Nat.lt_of_lt_of_le ht (Nat.pow_le_pow_right (by omega) hi))]
  unfold opBit
  split <;> (try split) <;> (try split) <;> rfl
theorem op_some {op : Int} {l m : List Ch} (hl : rightL l = true) (hm : rightL m = true) (h1 : 1 ≤ op) (h2 : op ≤ 4) :
    ∃ r, opL op l m = (r, 0) ∧ rightL r = true ∧ ∀ n, n < 65536 → bitL r n = opBit op (bitL l n) (bitL m n) := by
  have hM : ∀ k, k < 256 → opOf op (setAt l k) (setAt m k) < big := fun k _ => opOf_lt (setAt_lt l k) (setAt_lt m k)
  refine ⟨_, opL_yes (by rw [hl, hm]; rfl) ⟨h1, h2⟩, canon_right hM, fun n hn => ?_⟩
  rw [bitL_canon hM hn]
  unfold bitL bitM
  rw [testBit_opOf]
theorem flip_some {l : List Ch} {a b : Int} (hl : rightL l = true) (h : 0 ≤ a ∧ a ≤ 65536 ∧ 0 ≤ b ∧ b ≤ 65536) :
    ∃ r, flipL l a b = (r, 0) ∧ rightL r = true ∧ ∀ n, n < 65536 → bitL r n = (bitL l n ^^ decide (a ≤ (n : Int) ∧ (n : Int) < b)) := by
  have hM : ∀ k, k < 256 → flipK (setAt l k) k a b < big := fun k _ => flipK_lt (setAt_lt l k) k a b
  refine ⟨_, flipL_yes hl h, canon_right hM, fun n hn => ?_⟩
  rw [bitL_canon hM hn]
  unfold bitL bitM flipK
  rw [testBit_turnTo]
  congr 1
  unfold fall
  congr 1
  apply propext
  omega
theorem cntL_bits {l : List Ch} (h : rightL l = true) : cntL l = (((List.range 65536).filter (bitL l)).length : Int) := by rw [cntL_all h, allN_bits h]
theorem hasL_bits {l : List Ch} (h : rightL l = true) (n : Int) : hasL l n = (decide (0 ≤ n ∧ n < 65536) && bitL l n.toNat) := by
  rw [hasL_all h, allN_bits h]
  by_cases hn : 0 ≤ n ∧ n < 65536
  · rw [decide_eq_true hn, Bool.true_and]
    have hm : n.toNat < 65536 := by omega
    cases hb : bitL l n.toNat
    · exact decide_eq_false (fun ⟨_, h2⟩ => by have := (List.mem_filter.1 h2).2; rw [hb] at this; cases this)
    · exact decide_eq_true ⟨hn.1, List.mem_filter.2 ⟨List.mem_range.2 hm, hb⟩⟩
  · rw [decide_eq_false hn, Bool.false_and]
    exact decide_eq_false (fun ⟨h1, h2⟩ => hn ⟨h1, by have := List.mem_range.1 (List.mem_filter.1 h2).1; omega⟩)

theorem mkL_ex (zs : List Int) : ∃ l e, mkL zs = (l, e) ∧ rightL l = true ∧ (e = 0 ∨ e = 70) := by
  rcases mkL_two zs with h | ⟨l, h, hl⟩
  · exact ⟨[], 70, h, rfl, .inr rfl⟩
  · exact ⟨l, 0, h, hl, .inl rfl⟩
theorem filter_not (l : List Nat) (p : Nat → Bool) : (l.filter fun n => !p n).length + (l.filter p).length = l.length := by
  induction l with
  | nil => rfl
  | cons x l ih =>
    rw [List.filter_cons, List.filter_cons]
    cases hp : p x <;> simp <;> omega
theorem bitL_nil (n : Nat) : bitL [] n = false := by unfold bitL bitM; rw [setAt_nil, Nat.zero_testBit]

/-- **RoarRules, in plain.** -/
theorem rules_plain {a b c : List Ch} (ha : rightL a = true) (hb : rightL b = true) (hc : rightL c = true) :
    ∃ r x p q s u : List Ch, (rightL r = true ∧ rightL x = true ∧ rightL p = true ∧ rightL q = true ∧ rightL s = true ∧ rightL u = true) ∧ opL 2 b c = (r, 0) ∧ opL 1 a r = (x, 0) ∧ opL 1 a b = (p, 0) ∧ opL 1 a c = (q, 0) ∧ opL 2 p q = (x, 0) ∧ opL 2 c b = (r, 0) ∧ spanL 0 65536 = (s, 0) ∧ flipL r 0 65536 = (u, 0) ∧
      opL 4 s r = (u, 0) ∧ opL 3 s r = (u, 0) ∧ cntL u + cntL r = 65536 := by
  obtain ⟨r, er, hr, br⟩ := op_some (op := 2) hb hc (by omega) (by omega)
  obtain ⟨x, ex, hx, bx⟩ := op_some (op := 1) ha hr (by omega) (by omega)
  obtain ⟨p, ep, hp, bp⟩ := op_some (op := 1) ha hb (by omega) (by omega)
  obtain ⟨q, eq, hq, bq⟩ := op_some (op := 1) ha hc (by omega) (by omega)
  obtain ⟨y, ey, hy, bY⟩ := op_some (op := 2) hp hq (by omega) (by omega)
  obtain ⟨z, ez, hz, bz⟩ := op_some (op := 2) hc hb (by omega) (by omega)
  obtain ⟨s, es, hs, bS⟩ := flip_some (l := []) (a := 0) (b := 65536) rfl (by omega)
  obtain ⟨u, eu, hu, bu⟩ := flip_some (l := r) (a := 0) (b := 65536) hr (by omega)
  obtain ⟨v, ev, hv, bv⟩ := op_some (op := 4) hs hr (by omega) (by omega)
  obtain ⟨t, et, ht, bt⟩ := op_some (op := 3) hs hr (by omega) (by omega)
  have full : ∀ n : Nat, n < 65536 → decide ((0 : Int) ≤ (n : Int) ∧ (n : Int) < 65536) = true := fun n hn => decide_eq_true (by omega)
  have exy : y = x := ext_bits hy hx fun n hn => by
    rw [bY n hn, bx n hn, bp n hn, bq n hn, br n hn]
    cases bitL a n <;> cases bitL b n <;> cases bitL c n <;> rfl
  have ezr : z = r := ext_bits hz hr fun n hn => by
    rw [bz n hn, br n hn]
    cases bitL b n <;> cases bitL c n <;> rfl
  have evu : v = u := ext_bits hv hu fun n hn => by
    rw [bv n hn, bu n hn, bS n hn, full n hn, bitL_nil]
    cases bitL r n <;> rfl
  have etu : t = u := ext_bits ht hu fun n hn => by
    rw [bt n hn, bu n hn, bS n hn, full n hn, bitL_nil]
    cases bitL r n <;> rfl
  subst exy; subst ezr; subst evu; subst etu
  refine ⟨_, _, p, q, s, _, ⟨hr, hx, hp, hq, hs, hu⟩, er, ex, ep, eq, ey, ez, es, eu, ev, et, ?_⟩
  rw [cntL_bits hu, cntL_bits hr]
  have e : (List.range 65536).filter (bitL t) = (List.range 65536).filter fun n => !bitL z n := List.filter_congr fun n hn => by
    have hn' := List.mem_range.1 hn
    rw [bu n hn', full n hn', Bool.xor_true]
  rw [e]
  have := filter_not (List.range 65536) (bitL z)
  rw [List.length_range] at this
  omega

theorem span_count (A B : Nat) : ∀ N : Nat, ((List.range N).filter fun n => decide (A ≤ n ∧ n < B)).length = min B N - A
  | 0 => by simp
  | N + 1 => by
    rw [List.range_succ, List.filter_append, List.length_append, span_count A B N, List.filter_cons]
    by_cases h : A ≤ N ∧ N < B
    · rw [if_pos (by simpa using h)]; simp; omega
    · rw [if_neg (by simpa using h)]; simp; omega
/-- **RoarSpans, in plain.** -/
theorem spans_plain {r : List Ch} (hr : rightL r = true) {a b : Int} (h : 0 ≤ a ∧ a ≤ 65536 ∧ 0 ≤ b ∧ b ≤ 65536) :
    ∃ s f : List Ch, (rightL s = true ∧ rightL f = true) ∧ spanL a b = (s, 0) ∧ flipL r a b = (f, 0) ∧ flipL f a b = (r, 0) ∧ (∀ n, hasL s n = decide (a ≤ n ∧ n < b)) ∧ cntL s = max 0 (b - a) := by
  obtain ⟨s, es, hs, bS⟩ := flip_some (l := []) rfl h
  obtain ⟨f, ef, hf, bf⟩ := flip_some hr h
  obtain ⟨g, eg, hg, bg⟩ := flip_some hf h
  have egr : g = r := ext_bits hg hr fun n hn => by rw [bg n hn, bf n hn, Bool.xor_assoc, Bool.xor_self, Bool.xor_false]
  subst egr
  refine ⟨s, f, ⟨hs, hf⟩, es, ef, eg, fun n => ?_, ?_⟩
  · rw [hasL_bits hs]
    by_cases hn : 0 ≤ n ∧ n < 65536
    · rw [decide_eq_true hn, Bool.true_and, bS n.toNat (by omega), bitL_nil, Bool.false_xor]
      congr 1
      apply propext
      omega
    · rw [decide_eq_false hn, Bool.false_and]
      exact (decide_eq_false (by omega)).symm
  · rw [cntL_bits hs]
    have e : (List.range 65536).filter (bitL s) = (List.range 65536).filter fun n => decide (a.toNat ≤ n ∧ n < b.toNat) := List.filter_congr fun n hn => by
      rw [bS n (List.mem_range.1 hn), bitL_nil, Bool.false_xor]
      congr 1
      apply propext
      omega
    rw [e, span_count]
    omega
theorem spans_out {a b : Int} (h : ¬ (0 ≤ a ∧ a ≤ 65536 ∧ 0 ≤ b ∧ b ≤ 65536)) : spanL a b = ([], 70) := flipL_no (by omega)
end Go.Proofs.YtnigpmbpipmgfaaDoor
