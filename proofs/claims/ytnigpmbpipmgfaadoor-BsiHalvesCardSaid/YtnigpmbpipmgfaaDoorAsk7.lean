/-
  roar's Count, Select, Rank.
-/
import Derived.Test.YtnigpmbpipmgfaaDoorMake7
namespace Go.Proofs.YtnigpmbpipmgfaaDoor
open Go.RowKit Tess

theorem rightF_mem : ∀ {l : List Ch} {b : Int}, rightF b l = true → ∀ x ∈ l, b < x.key ∧ x.key < 256 ∧ isBestB x.form x.data = true
  | [], _, _, _, hx => by cases hx
  | y :: l, b, h, x, hx => by
    simp only [rightF, Bool.and_eq_true, decide_eq_true_eq] at h
    rcases List.mem_cons.1 hx with rfl | hx
    · exact ⟨h.1.1.1, h.1.1.2, h.1.2⟩
    · have := rightF_mem h.2 x hx
      exact ⟨by omega, this.2.1, this.2.2⟩
theorem right_mem {l : List Ch} (h : rightL l = true) {x : Ch} (hx : x ∈ l) : 0 ≤ x.key ∧ x.key < 256 ∧ x.data.size ≤ 1000000 := by
  have := rightF_mem h x hx
  exact ⟨by omega, this.2.1, (small_right h).2 x hx⟩
theorem right_len {l : List Ch} (h : rightL l = true) : l.length ≤ 256 := ((rightL_iff l).1 h).1
theorem i64_or_key (k n : Nat) (hk : k < 256) (hn : n < 256) : bits .or .i64 ((k : Int) * 256) (n : Int) = (k : Int) * 256 + n := by
  have e : ((k : Int) * 256) = ((2 ^ 8 * k : Nat) : Int) := by omega
  have h1 := Nat.two_pow_add_eq_or_of_lt (i := 8) (b := n) hn k
  show IntKind.i64.wrap ((BitVec.ofInt 64 ((k : Int) * 256) ||| BitVec.ofInt 64 (n : Int)).toNat : Int) = _
  rw [BitVec.toNat_or, e, ofInt_u64 _ (by omega), ofInt_u64 _ (by omega), ← h1, IntKind.wrap_i64]
  omega

/-- How many numbers chunks have. -/
def cntF : List Ch → Int
  | [] => 0
  | x :: l => ci x.form x.data + cntF l
def cntL (l : List Ch) : Int := if rightL l = true then cntF l else 0
theorem cntF_drop {l : List Ch} {k : Nat} (h : k < l.length) : cntF (l.drop k) = ci l[k].form l[k].data + cntF (l.drop (k + 1)) := by
  rw [List.drop_eq_getElem_cons h]; rfl

set_option maxRecDepth 100000 in
set_option maxHeartbeats 4000000 in
theorem count7_any {l : List Ch} {v : Value} {w : World} (h : HC w v l) (hs : Small l) (hT : Tab w) :
    Calls Tryd.prog 18 #[.agg #[v]] w fun e W' => e = .returned (.int .i64 (cntL l)) ∧ Below w.heap.size w W' := by
  have hR : Below w.heap.size w (w.alloc (.cells #[v] 28)) := (Below.refl _ w).alloc (Nat.le_refl _) _
  have hr := Lib.hid (right_any (h.alloc (.cells #[v] 28)) hs.1 hs.2 (hT.below hR hT.lt))
  have hx0 := RBox.new w v
  have hx := hx0.cell
  have hv := h.alloc (.cells #[v] 28)
  clear h hs
  obtain ⟨p, cap, rfl, hcap, -⟩ := Hid.out hv
  go_enter Tryd.func18, Tryd.ntmps18
  go_wp2_with fail
  refine (hr.out).mono ?_
  rintro e W1 ⟨rfl, hb1⟩
  have hB1 := Lib.hid (hR.trans (hb1.mono hR.size))
  have hv1 := hv.later hb1
  have hx1 := (hx0.later hb1).cell
  clear hx hx0 hv hb1 hr hR
  cases hrr : rightL l with
  | false =>
    have hfin : Hid (cntL l = 0) := by show _ = _; unfold cntL; rw [hrr]; rfl
    clear hrr
    go_wp2
    exact bodyPost_ret (v := .int .i64 0) (by simp [results, Tryd.results18, go_sem]) rfl ⟨by rw [hfin.out], hB1.out⟩
  | true =>
    have hfin : Hid (cntL l = cntF l) := by show _ = _; unfold cntL; rw [hrr]; rfl
    have hrr' := Lib.hid hrr
    have hl := right_len hrr
    obtain ⟨p', cap', hpe, -, hc⟩ := Hid.out hv1
    simp only [Value.slice.injEq] at hpe
    obtain ⟨rfl, -, rfl⟩ := hpe
    have hc' := Lib.hid hc
    clear hrr hc hv1
    go_wp2
    go_loopw [3, 12] (fun n i wr => ∃ (k : Nat) (a : Int), k ≤ l.length ∧ i = .int .i64 k ∧ n = .int .i64 a ∧ Hid (a + cntF (l.drop k) = cntF l) ∧ 0 ≤ a ∧ a ≤ 256 * k ∧ Hid (Below W1.heap.size W1 wr))
      (fun _ i _ => l.length - (intOf i).toNat)
    case atStart => exact ⟨0, 0, Nat.zero_le _, rfl, rfl, by show _ = _; simp, by omega, by omega, Lib.hid (Below.refl _ _)⟩
    case round =>
      obtain ⟨k, a, hk, rfl, rfl, hst, ha0, ha1, hB⟩ := hrel
      by_cases hlt : k < l.length
      · obtain ⟨b, off, rfl, hb, h1, h2, h3⟩ := hc'.out k hlt
        have y1 := (hB.out.cell (p := ⟨b, off + k * 3, none⟩) hb).trans h1
        have y2 := (hB.out.cell (p := ⟨b, off + k * 3 + 1, none⟩) hb).trans h2
        have y3 := (hB.out.cell (p := ⟨b, off + k * 3 + 2, none⟩) hb).trans h3
        have hkd : decide (k < l.length) = true := by simpa using hlt
        have hxs := (right_mem hrr'.out (List.getElem_mem hlt)).2.2
        have hst2 := Lib.hid (cntF_drop hlt)
        clear h1 h2 h3
        generalize l[k] = x at y1 y2 y3 hxs hst2
        obtain ⟨ky, f, D⟩ := x
        simp only at y1 y2 y3 hxs hst2
        have hcr := ci_range f D
        have hB2 := Lib.hid (hB.out.alloc hB.out.size (.cells #[.int .i64 ky, .int .i64 f, .string D] 91))
        have hct := Lib.hid (Count_ci f D (wr.alloc (.cells #[.int .i64 ky, .int .i64 f, .string D] 91)) hxs (hT.below (hB1.out.trans (hB2.out.mono hB1.out.size)) hT.lt))
        generalize ci f D = c at hct hst2 hcr
        go_wp2_with fail
        refine (hct.out).mono ?_
        rintro e W2 ⟨rfl, hb2⟩
        have hB3 := Lib.hid (hB2.out.trans (hb2.mono hB2.out.size))
        have hst3 : Hid (a + c + cntF (l.drop (k + 1)) = cntF l) := by
          show _ = _
          rw [← hst.out, hst2.out]; omega
        clear hb2 hct y1 y2 y3
        go_wp2
        go_roundw
        case rel => exact ⟨k + 1, a + c, by omega, by go_num, rfl, hst3, by omega, by omega, hB3⟩
        case measure => simp [intOf]; omega
      · have hkd : decide (k < l.length) = false := by simpa using hlt
        have hfin2 : Hid (cntF l = a) := by
          show _ = _
          rw [← hst.out, List.drop_eq_nil_of_le (by omega)]; show a + 0 = a; omega
        go_wp2
        exact bodyPost_ret (v := .int .i64 a) (by simp [results, Tryd.results18, go_sem]) rfl ⟨by rw [hfin.out, hfin2.out], hB1.out.trans (hB.out.mono hB1.out.size)⟩

/-- Which number is at a place, from a chunk on. -/
def selF : List Ch → Int → Int × Bool
  | [], _ => (0, false)
  | x :: l, p => if (selRes x.set p).2 = true then (x.key * 256 + (selRes x.set p).1, true) else selF l (p - ci x.form x.data)
def selL (l : List Ch) (p : Int) : Int × Bool := if rightL l = true ∧ 0 ≤ p then selF l p else (0, false)
theorem selF_yes {l : List Ch} {k : Nat} (h : k < l.length) {p m : Int} (he : selRes (ofRes l[k].form l[k].data).1 p = (m, true)) : selF (l.drop k) p = (l[k].key * 256 + m, true) := by
  rw [List.drop_eq_getElem_cons h]
  unfold selF
  change selRes (Ch.set _) p = _ at he
  simp [he]
theorem selF_no {l : List Ch} {k : Nat} (h : k < l.length) {p : Int} (he : selRes (ofRes l[k].form l[k].data).1 p = (0, false)) : selF (l.drop k) p = selF (l.drop (k + 1)) (p - ci l[k].form l[k].data) := by
  rw [List.drop_eq_getElem_cons h]
  conv => lhs; unfold selF
  change selRes (Ch.set _) p = _ at he
  simp [he]
theorem selRes_range (s : Nat) (p : Int) : (∃ m : Nat, m < 256 ∧ selRes s p = ((m : Int), true)) ∨ (selRes s p = (0, false) ∧ (p < 0 ∨ (count s : Int) ≤ p)) := by
  by_cases h : 0 ≤ p ∧ p < (count s : Int)
  · obtain ⟨m, hm, he, _⟩ := sel_in h.1 h.2
    exact .inl ⟨m, hm, he⟩
  · exact .inr ⟨sel_out (by omega), by omega⟩

end Go.Proofs.YtnigpmbpipmgfaaDoor
