/-
  Bitmaps of numbers: what a bitmap's numbers are; count, rank, select, has. No program.
-/
import Derived.Test.YtnigpmbpipmgfaaDoorAsk8
import Derived.Test.YtnigpmbpipmgfaaDoorIter7
namespace Go.Proofs.YtnigpmbpipmgfaaDoor
open Go.RowKit Tess

theorem chN_mem {x : Ch} (h0 : 0 ≤ x.key) {m : Nat} : m ∈ chN x ↔ ((m : Int) / 256 = x.key ∧ x.set.testBit (m % 256) = true) := by
  unfold chN
  rw [List.mem_map]
  constructor
  · rintro ⟨a, ha, rfl⟩
    obtain ⟨h1, h2⟩ := mem_nums.1 ha
    have e1 : (x.key.toNat * 256 + a) % 256 = a := by omega
    rw [e1]
    exact ⟨by omega, h2⟩
  · rintro ⟨h1, h2⟩
    exact ⟨m % 256, mem_nums.2 ⟨by omega, h2⟩, by omega⟩
theorem chN_rising (x : Ch) : (chN x).Pairwise (· < ·) := by
  unfold chN
  rw [List.pairwise_map]
  exact (nums_rising x.set).imp fun h => by omega
theorem chN_len' (x : Ch) : (chN x).length = count x.set := by unfold chN; rw [List.length_map]; rfl
theorem cntF_all (l : List Ch) : cntF l = ((allN l).length : Int) := by
  induction l with
  | nil => rfl
  | cons x l ih =>
    show ci x.form x.data + cntF l = ((chN x ++ allN l).length : Int)
    rw [ih, List.length_append, chN_len']
    unfold ci Ch.set; omega
theorem allN_in : ∀ {l : List Ch} {b : Int}, -1 ≤ b → rightF b l = true → ∀ m ∈ allN l, (b + 1) * 256 ≤ (m : Int) ∧ (m : Int) < 65536
  | [], _, _, _, _, hm => by cases hm
  | x :: l, b, hb, h, m, hm => by
    simp only [rightF, Bool.and_eq_true, decide_eq_true_eq] at h
    have hm' : m ∈ chN x ++ allN l := hm
    rcases List.mem_append.1 hm' with hm | hm
    · have := (chN_mem (by omega)).1 hm
      omega
    · have := allN_in (by omega) h.2 m hm
      omega
theorem allN_rising : ∀ {l : List Ch} {b : Int}, -1 ≤ b → rightF b l = true → (allN l).Pairwise (· < ·)
  | [], _, _, _ => .nil
  | x :: l, b, hb, h => by
    simp only [rightF, Bool.and_eq_true, decide_eq_true_eq] at h
    show (chN x ++ allN l).Pairwise _
    refine List.pairwise_append.2 ⟨chN_rising x, allN_rising (by omega) h.2, fun a ha c hc => ?_⟩
    have h1 := (chN_mem (by omega)).1 ha
    have h2 := allN_in (by omega) h.2 c hc
    omega

/-- How many numbers are not above n. -/
def leN (l : List Nat) (n : Int) : Nat := (l.filter fun m : Nat => decide ((m : Int) ≤ n)).length
theorem leN_append (l m : List Nat) (n : Int) : leN (l ++ m) n = leN l n + leN m n := by unfold leN; rw [List.filter_append, List.length_append]
theorem leN_none {l : List Nat} {n : Int} (h : ∀ m ∈ l, n < (m : Int)) : leN l n = 0 := by
  unfold leN
  rw [List.filter_eq_nil_iff.2 (fun m hm => by have := h m hm; simp; omega)]; rfl
theorem leN_all {l : List Nat} {n : Int} (h : ∀ m ∈ l, (m : Int) ≤ n) : leN l n = l.length := by
  unfold leN
  rw [List.filter_eq_self.2 (fun m hm => by simpa using h m hm)]
theorem leN_chunk (x : Ch) (h0 : 0 ≤ x.key) (n : Int) (he : x.key = n / 256) : leN (chN x) n = rank x.set (n % 256) := by
  unfold leN chN rank
  rw [List.filter_map, List.length_map]
  congr 1
  refine List.filter_congr fun m hm => ?_
  simp only [Function.comp]
  have := (mem_nums.1 hm).1
  congr 1
  apply propext
  omega
theorem rnkF_all : ∀ {l : List Ch} {b n : Int}, -1 ≤ b → rightF b l = true → rnkF n l = (leN (allN l) n : Int)
  | [], _, _, _, _ => rfl
  | x :: l, b, n, hb, h => by
    simp only [rightF, Bool.and_eq_true, decide_eq_true_eq] at h
    have hx0 : 0 ≤ x.key := by omega
    show rnkF n (x :: l) = (leN (chN x ++ allN l) n : Int)
    rw [leN_append]
    have ih := rnkF_all (n := n) (by omega) h.2
    unfold rnkF
    split
    · rename_i hlt
      rw [leN_all (fun m hm => by have := ((chN_mem hx0).1 hm).1; omega), chN_len', ih]
      unfold ci Ch.set; omega
    · split
      · rename_i _ heq
        rw [ih, leN_chunk x hx0 n heq]
        unfold rk Ch.set; omega
      · rename_i h1 h2
        rw [leN_none (fun m hm => by have := ((chN_mem hx0).1 hm).1; omega), leN_none (fun m hm => by have := allN_in (by omega) h.2 m hm; omega)]
        rfl
theorem selF_out : ∀ {l : List Ch} {p : Int}, ((allN l).length : Int) ≤ p → selF l p = (0, false)
  | [], _, _ => rfl
  | x :: l, p, h => by
    have h' : ((chN x ++ allN l).length : Int) ≤ p := h
    rw [List.length_append, chN_len'] at h'
    unfold selF
    rw [sel_out (by omega)]
    have hc : ci x.form x.data = (count x.set : Int) := rfl
    simp only [Bool.false_eq_true, if_false]
    rw [hc]
    exact selF_out (by omega)
theorem selF_in : ∀ {l : List Ch} {b : Int} {k : Nat}, -1 ≤ b → rightF b l = true → k < (allN l).length → selF l k = (((((allN l)[k]?.getD 0 : Nat)) : Int), true)
  | [], _, _, _, _, h => by cases h
  | x :: l, b, k, hb, hr, h => by
    simp only [rightF, Bool.and_eq_true, decide_eq_true_eq] at hr
    have h' : k < (chN x ++ allN l).length := h
    show selF (x :: l) k = (((((chN x ++ allN l)[k]?.getD 0 : Nat)) : Int), true)
    rw [List.length_append, chN_len'] at h'
    have hc : ci x.form x.data = (count x.set : Int) := rfl
    unfold selF
    by_cases hlt : k < count x.set
    · have e : selRes x.set (k : Int) = (((((nums x.set)[k]?.getD 0 : Nat)) : Int), true) := by
        unfold selRes; rw [if_pos ⟨by omega, by omega⟩]; rfl
      rw [e]
      have hlt' : k < (nums x.set).length := hlt
      simp only [if_true]
      rw [List.getElem?_append_left (by rw [chN_len']; exact hlt)]
      unfold chN
      rw [List.getElem?_map, List.getElem?_eq_getElem hlt']
      simp only [Option.map_some, Option.getD_some]
      congr 1
      omega
    · rw [sel_out (by omega)]
      simp only [Bool.false_eq_true, if_false]
      rw [hc, show (k : Int) - (count x.set : Int) = ((k - count x.set : Nat) : Int) by omega, selF_in (by omega) hr.2 (by omega), List.getElem?_append_right (by rw [chN_len']; omega), chN_len']
theorem has_all : ∀ {l : List Ch} {b n : Int}, -1 ≤ b → rightF b l = true → 0 ≤ n → (l.any (hasC n) = true ↔ n.toNat ∈ allN l)
  | [], _, _, _, _, _ => by simp [allN]
  | x :: l, b, n, hb, h, hn => by
    simp only [rightF, Bool.and_eq_true, decide_eq_true_eq] at h
    rw [List.any_cons, Bool.or_eq_true, has_all (by omega) h.2 hn]
    show _ ↔ n.toNat ∈ chN x ++ allN l
    rw [List.mem_append, chN_mem (by omega)]
    refine or_congr ?_ Iff.rfl
    unfold hasC
    rw [Bool.and_eq_true, beq_iff_eq]
    have e : ((n.toNat : Nat) : Int) = n := by omega
    rw [e]
    refine ⟨fun ⟨h1, h2⟩ => ⟨h1.symm, ?_⟩, fun ⟨h1, h2⟩ => ⟨h1.symm, ?_⟩⟩
    · unfold hi at h2
      rw [show n % 256 = ((n.toNat % 256 : Nat) : Int) by omega, hasI_nat (by omega)] at h2
      exact h2
    · unfold hi
      rw [show n % 256 = ((n.toNat % 256 : Nat) : Int) by omega, hasI_nat (by omega)]
      exact h2

/-- A rising list's rank at its own numbers. -/
theorem leN_rising {l : List Nat} (h : l.Pairwise (· < ·)) {k : Nat} (hk : k < l.length) : leN l (l[k] : Int) = k + 1 ∧ leN l ((l[k] : Int) - 1) = k := by
  have h1 : l = l.take k ++ l[k] :: l.drop (k + 1) := by
    rw [← List.drop_eq_getElem_cons hk, List.take_append_drop]
  generalize l[k] = x at h1 ⊢
  have hkt : (l.take k).length = k := by rw [List.length_take]; omega
  generalize l.take k = a at h1 hkt
  generalize l.drop (k + 1) = c at h1
  subst h1
  obtain ⟨_, h3, h4⟩ := List.pairwise_append.1 h
  have h5 := List.pairwise_cons.1 h3
  have hh (n : Int) : leN (a ++ x :: c) n = leN a n + leN [x] n + leN c n := by rw [leN_append, show x :: c = [x] ++ c from rfl, leN_append]; omega
  have ha : ∀ m ∈ a, m < x := fun m hm => h4 m hm x (List.mem_cons_self)
  rw [hh, hh, leN_all (l := a) (fun m hm => by have := ha m hm; omega), leN_all (l := a) (fun m hm => by have := ha m hm; omega), leN_none (l := c) (fun m hm => by have := h5.1 m hm; omega), leN_none (l := c) (fun m hm => by have := h5.1 m hm; omega),
    leN_all (l := [x]) (by simp), leN_none (l := [x]) (by simp; omega), hkt]
  exact ⟨rfl, rfl⟩

theorem rightF_of {l : List Ch} (h : rightL l = true) : rightF (-1) l = true := h
theorem cntL_all {l : List Ch} (h : rightL l = true) : cntL l = ((allN l).length : Int) := by unfold cntL; rw [if_pos h]; exact cntF_all l
theorem rnkL_all {l : List Ch} (h : rightL l = true) (n : Int) : rnkL l n = (leN (allN l) n : Int) := by unfold rnkL; rw [if_pos h]; exact rnkF_all (by omega) (rightF_of h)
theorem allN_lt {l : List Ch} (h : rightL l = true) {m : Nat} (hm : m ∈ allN l) : m < 65536 := by have := allN_in (by omega) (rightF_of h) m hm; omega
theorem allN_sorted {l : List Ch} (h : rightL l = true) : (allN l).Pairwise (· < ·) := allN_rising (by omega) (rightF_of h)
theorem hasL_all {l : List Ch} (h : rightL l = true) (n : Int) : hasL l n = decide (0 ≤ n ∧ n.toNat ∈ allN l) := by
  unfold hasL
  rw [h, Bool.true_and]
  by_cases hn : 0 ≤ n
  · rw [decide_eq_true hn, Bool.true_and]
    have := has_all (n := n) (by omega) (rightF_of h) hn
    cases hb : l.any (hasC n)
    · rw [hb] at this
      exact (decide_eq_false (fun hh => by have := this.2 hh.2; cases this)).symm
    · exact (decide_eq_true ⟨hn, this.1 hb⟩).symm
  · rw [decide_eq_false hn, Bool.false_and]
    exact (decide_eq_false (fun hh => hn hh.1)).symm
theorem selL_bad {l : List Ch} (h : rightL l = true) {p : Int} (hp : p < 0 ∨ cntL l ≤ p) : selL l p = (0, false) := by
  unfold selL
  split
  · rename_i hh
    rw [cntL_all h] at hp
    exact selF_out (by omega)
  · rfl
theorem selL_good {l : List Ch} (h : rightL l = true) {p : Int} (h0 : 0 ≤ p) (h1 : p < cntL l) :
    ∃ m : Nat, m < 65536 ∧ selL l p = ((m : Int), true) ∧ (allN l)[p.toNat]? = some m ∧ hasL l m = true ∧ rnkL l m = p + 1 ∧ rnkL l ((m : Int) - 1) = p := by
  obtain ⟨k, rfl⟩ : ∃ k : Nat, p = k := ⟨p.toNat, by omega⟩
  rw [cntL_all h] at h1
  have hk : k < (allN l).length := by omega
  have hl := leN_rising (allN_sorted h) hk
  refine ⟨(allN l)[k], allN_lt h (List.getElem_mem hk), ?_, ?_, ?_, ?_, ?_⟩
  · unfold selL
    rw [if_pos ⟨h, h0⟩, selF_in (by omega) (rightF_of h) hk, List.getElem?_eq_getElem hk]; rfl
  · rw [Int.toNat_natCast, List.getElem?_eq_getElem hk]
  · rw [hasL_all h]
    exact decide_eq_true ⟨by omega, by rw [Int.toNat_natCast]; exact List.getElem_mem hk⟩
  · rw [rnkL_all h, hl.1]; omega
  · rw [rnkL_all h, hl.2]
theorem mkL_right (zs : List Int) : rightL (mkL zs).1 = true := by
  unfold mkL
  split
  · rfl
  · exact canon_right fun k _ => mkM_lt zs k
theorem mkL_two (zs : List Int) : mkL zs = ([], 70) ∨ (∃ l, mkL zs = (l, 0) ∧ rightL l = true) := by
  have := mkL_right zs
  revert this
  unfold mkL
  split
  · intro _; exact .inl rfl
  · intro h; exact .inr ⟨_, rfl, h⟩
end Go.Proofs.YtnigpmbpipmgfaaDoor
