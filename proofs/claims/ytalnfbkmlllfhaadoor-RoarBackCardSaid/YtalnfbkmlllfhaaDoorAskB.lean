/-
  Ask7, Ask8, Iter7: several texts in one (merge.py).
-/
import Derived.Test.YtalnfbkmlllfhaaDoorMake7
import Derived.Maps.OwnIn

/-
  roar's Count, Select, Rank.
-/
namespace Go.Proofs.YtalnfbkmlllfhaaDoor
open Go.RowKit Tess

theorem rightF_mem : ∀ {l : List Ch} {b : Int}, rightF b l = true → ∀ x ∈ l, b < x.key ∧ x.key < 256 ∧ isBestB x.form x.data = true
  | [], _, _, _, hx => by cases hx
  | y :: l, b, h, x, hx => by
    simp only [rightF, Bool.and_eq_true, decide_eq_true_eq] at h
    rcases List.mem_cons.1 hx with rfl | hx
    · exact ⟨h.1.1.1, h.1.1.2, h.1.2⟩
    · have := rightF_mem h.2 x hx
      exact ⟨by omega, this.2.1, this.2.2⟩
theorem right_mem {l : List Ch} (h : rightL l = true) {x : Ch} (hx : x ∈ l) : 0 ≤ x.key ∧ x.key < 256 ∧ x.data.size ≤ 1000000 := by
  have := rightF_mem h x hx
  exact ⟨by omega, this.2.1, (small_right h).2 x hx⟩
theorem right_len {l : List Ch} (h : rightL l = true) : l.length ≤ 256 := ((rightL_iff l).1 h).1
theorem i64_or_key (k n : Nat) (hk : k < 256) (hn : n < 256) : bits .or .i64 ((k : Int) * 256) (n : Int) = (k : Int) * 256 + n := by
  have e : ((k : Int) * 256) = ((2 ^ 8 * k : Nat) : Int) := by omega
  have h1 := Nat.two_pow_add_eq_or_of_lt (i := 8) (b := n) hn k
  show IntKind.i64.wrap ((BitVec.ofInt 64 ((k : Int) * 256) ||| BitVec.ofInt 64 (n : Int)).toNat : Int) = _
  rw [BitVec.toNat_or, e, ofInt_u64 _ (by omega), ofInt_u64 _ (by omega), ← h1, IntKind.wrap_i64]
  omega

/-- How many numbers chunks have. -/
def cntF : List Ch → Int
  | [] => 0
  | x :: l => ci x.form x.data + cntF l
def cntL (l : List Ch) : Int := if rightL l = true then cntF l else 0
theorem cntF_drop {l : List Ch} {k : Nat} (h : k < l.length) : cntF (l.drop k) = ci l[k].form l[k].data + cntF (l.drop (k + 1)) := by
  rw [List.drop_eq_getElem_cons h]; rfl

set_option maxRecDepth 100000 in
set_option maxHeartbeats 4000000 in
theorem count7_any {l : List Ch} {v : Value} {w : World} (h : HC w v l) (hs : Small l) (hT : Tab w) :
    Calls Tryd.prog 22 #[.agg #[v]] w fun e W' => e = .returned (.int .i64 (cntL l)) ∧ Below w.heap.size w W' := by
  have hR : Below w.heap.size w (w.alloc (.cells #[v] 24)) := (Below.refl _ w).alloc (Nat.le_refl _) _
  have hr := Lib.hid (right_any (h.alloc (.cells #[v] 24)) hs.1 hs.2 (hT.below hR hT.lt))
  have hx0 := RBox.new w v
  have hx := hx0.cell
  have hv := h.alloc (.cells #[v] 24)
  clear h hs
  obtain ⟨p, cap, rfl, hcap, -⟩ := Hid.out hv
  go_enter Tryd.func22, Tryd.ntmps22
  go_wp2_with fail
  refine (hr.out).mono ?_
  rintro e W1 ⟨rfl, hb1⟩
  have hB1 := Lib.hid (hR.trans (hb1.mono hR.size))
  have hv1 := hv.later hb1
  have hx1 := (hx0.later hb1).cell
  clear hx hx0 hv hb1 hr hR
  cases hrr : rightL l with
  | false =>
    have hfin : Hid (cntL l = 0) := by show _ = _; unfold cntL; rw [hrr]; rfl
    clear hrr
    go_wp2
    exact bodyPost_ret (v := .int .i64 0) (by simp [results, Tryd.results22, go_sem]) rfl ⟨by rw [hfin.out], hB1.out⟩
  | true =>
    have hfin : Hid (cntL l = cntF l) := by show _ = _; unfold cntL; rw [hrr]; rfl
    have hrr' := Lib.hid hrr
    have hl := right_len hrr
    obtain ⟨p', cap', hpe, -, hc⟩ := Hid.out hv1
    simp only [Value.slice.injEq] at hpe
    obtain ⟨rfl, -, rfl⟩ := hpe
    have hc' := Lib.hid hc
    clear hrr hc hv1
    go_wp2
    go_loopw [3, 12] (fun n i wr => ∃ (k : Nat) (a : Int), k ≤ l.length ∧ i = .int .i64 k ∧ n = .int .i64 a ∧ Hid (a + cntF (l.drop k) = cntF l) ∧ 0 ≤ a ∧ a ≤ 256 * k ∧ Hid (Below W1.heap.size W1 wr))
      (fun _ i _ => l.length - (intOf i).toNat)
    case atStart => exact ⟨0, 0, Nat.zero_le _, rfl, rfl, by show _ = _; simp, by omega, by omega, Lib.hid (Below.refl _ _)⟩
    case round =>
      obtain ⟨k, a, hk, rfl, rfl, hst, ha0, ha1, hB⟩ := hrel
      by_cases hlt : k < l.length
      · obtain ⟨b, off, rfl, hb, h1, h2, h3⟩ := hc'.out k hlt
        have y1 := (hB.out.cell (p := ⟨b, off + k * 3, none⟩) hb).trans h1
        have y2 := (hB.out.cell (p := ⟨b, off + k * 3 + 1, none⟩) hb).trans h2
        have y3 := (hB.out.cell (p := ⟨b, off + k * 3 + 2, none⟩) hb).trans h3
        have hkd : decide (k < l.length) = true := by simpa using hlt
        have hxs := (right_mem hrr'.out (List.getElem_mem hlt)).2.2
        have hst2 := Lib.hid (cntF_drop hlt)
        clear h1 h2 h3
        generalize l[k] = x at y1 y2 y3 hxs hst2
        obtain ⟨ky, f, D⟩ := x
        simp only at y1 y2 y3 hxs hst2
        have hcr := ci_range f D
        have hB2 := Lib.hid (hB.out.alloc hB.out.size (.cells #[.int .i64 ky, .int .i64 f, .string D] 59))
        have hct := Lib.hid (Count_ci f D (wr.alloc (.cells #[.int .i64 ky, .int .i64 f, .string D] 59)) hxs (hT.below (hB1.out.trans (hB2.out.mono hB1.out.size)) hT.lt))
        generalize ci f D = c at hct hst2 hcr
        go_wp2_with fail
        refine (hct.out).mono ?_
        rintro e W2 ⟨rfl, hb2⟩
        have hB3 := Lib.hid (hB2.out.trans (hb2.mono hB2.out.size))
        have hst3 : Hid (a + c + cntF (l.drop (k + 1)) = cntF l) := by
          show _ = _
          rw [← hst.out, hst2.out]; omega
        clear hb2 hct y1 y2 y3
        go_wp2
        go_roundw
        case rel => exact ⟨k + 1, a + c, by omega, by go_num, rfl, hst3, by omega, by omega, hB3⟩
        case measure => simp [intOf]; omega
      · have hkd : decide (k < l.length) = false := by simpa using hlt
        have hfin2 : Hid (cntF l = a) := by
          show _ = _
          rw [← hst.out, List.drop_eq_nil_of_le (by omega)]; show a + 0 = a; omega
        go_wp2
        exact bodyPost_ret (v := .int .i64 a) (by simp [results, Tryd.results22, go_sem]) rfl ⟨by rw [hfin.out, hfin2.out], hB1.out.trans (hB.out.mono hB1.out.size)⟩

/-- Which number is at a place, from a chunk on. -/
def selF : List Ch → Int → Int × Bool
  | [], _ => (0, false)
  | x :: l, p => if (selRes x.set p).2 = true then (x.key * 256 + (selRes x.set p).1, true) else selF l (p - ci x.form x.data)
def selL (l : List Ch) (p : Int) : Int × Bool := if rightL l = true ∧ 0 ≤ p then selF l p else (0, false)
theorem selF_yes {l : List Ch} {k : Nat} (h : k < l.length) {p m : Int} (he : selRes (ofRes l[k].form l[k].data).1 p = (m, true)) : selF (l.drop k) p = (l[k].key * 256 + m, true) := by
  rw [List.drop_eq_getElem_cons h]
  unfold selF
  change selRes (Ch.set _) p = _ at he
  simp [he]
theorem selF_no {l : List Ch} {k : Nat} (h : k < l.length) {p : Int} (he : selRes (ofRes l[k].form l[k].data).1 p = (0, false)) : selF (l.drop k) p = selF (l.drop (k + 1)) (p - ci l[k].form l[k].data) := by
  rw [List.drop_eq_getElem_cons h]
  conv => lhs; unfold selF
  change selRes (Ch.set _) p = _ at he
  simp [he]
theorem selRes_range (s : Nat) (p : Int) : (∃ m : Nat, m < 256 ∧ selRes s p = ((m : Int), true)) ∨ (selRes s p = (0, false) ∧ (p < 0 ∨ (count s : Int) ≤ p)) := by
  by_cases h : 0 ≤ p ∧ p < (count s : Int)
  · obtain ⟨m, hm, he, _⟩ := sel_in h.1 h.2
    exact .inl ⟨m, hm, he⟩
  · exact .inr ⟨sel_out (by omega), by omega⟩

set_option maxRecDepth 100000 in
set_option maxHeartbeats 4000000 in
theorem select7_any {l : List Ch} {v : Value} (p : Int) (hp : p ≤ 9223372036854775807) {w : World} (h : HC w v l) (hs : Small l) (hT : Tab w) :
    Calls Tryd.prog 25 #[.agg #[v], .int .i64 p] w fun e W' => e = .returned (.tuple #[.int .i64 (selL l p).1, .bool (selL l p).2]) ∧ Below w.heap.size w W' := by
  have hR : Below w.heap.size w (w.alloc (.cells #[v] 24)) := (Below.refl _ w).alloc (Nat.le_refl _) _
  have hr := Lib.hid (right_any (h.alloc (.cells #[v] 24)) hs.1 hs.2 (hT.below hR hT.lt))
  have hx0 := RBox.new w v
  have hx := hx0.cell
  have hv := h.alloc (.cells #[v] 24)
  clear h hs
  obtain ⟨ad, cap, rfl, hcap, -⟩ := Hid.out hv
  go_enter Tryd.func25, Tryd.ntmps25
  go_wp2_with fail
  refine (hr.out).mono ?_
  rintro e W1 ⟨rfl, hb1⟩
  have hB1 := Lib.hid (hR.trans (hb1.mono hR.size))
  have hv1 := hv.later hb1
  have hx1 := (hx0.later hb1).cell
  clear hx hx0 hv hb1 hr hR
  cases hrr : rightL l with
  | false =>
    have hfin : Hid (selL l p = (0, false)) := by show _ = _; unfold selL; rw [hrr, if_neg (by simp)]
    clear hrr
    go_wp2
    exact bodyPost_ret (v := .tuple #[.int .i64 0, .bool false]) (by simp [results, Tryd.results25, go_sem]) rfl ⟨by rw [hfin.out], hB1.out⟩
  | true =>
    by_cases hp0 : p < 0
    · have hfin : Hid (selL l p = (0, false)) := by show _ = _; unfold selL; rw [if_neg (by omega)]
      have hd : decide (p < 0) = true := decide_eq_true hp0
      clear hrr
      go_wp2
      exact bodyPost_ret (v := .tuple #[.int .i64 0, .bool false]) (by simp [results, Tryd.results25, go_sem]) rfl ⟨by rw [hfin.out], hB1.out⟩
    · have hfin : Hid (selL l p = selF l p) := by show _ = _; unfold selL; rw [if_pos ⟨hrr, by omega⟩]
      have hd : decide (p < 0) = false := decide_eq_false hp0
      have hrr' := Lib.hid hrr
      have hl := right_len hrr
      obtain ⟨p', cap', hpe, -, hc⟩ := Hid.out hv1
      simp only [Value.slice.injEq] at hpe
      obtain ⟨rfl, -, rfl⟩ := hpe
      have hc' := Lib.hid hc
      have hp0' : 0 ≤ p := by omega
      clear hrr hc hv1
      go_wp2
      go_loopw [1, 20] (fun n i wr => ∃ (k : Nat) (a : Int), k ≤ l.length ∧ i = .int .i64 k ∧ n = .int .i64 a ∧ Hid (selF (l.drop k) a = selF l p) ∧ 0 ≤ a ∧ a ≤ p ∧ Hid (Below W1.heap.size W1 wr))
        (fun _ i _ => l.length - (intOf i).toNat)
      case atStart => exact ⟨0, p, Nat.zero_le _, rfl, rfl, rfl, hp0', Int.le_refl _, Lib.hid (Below.refl _ _)⟩
      case round =>
        obtain ⟨k, a, hk, rfl, rfl, hst, ha0, ha1, hB⟩ := hrel
        by_cases hlt : k < l.length
        · obtain ⟨b, off, rfl, hb, h1, h2, h3⟩ := hc'.out k hlt
          have y1 := (hB.out.cell (p := ⟨b, off + k * 3, none⟩) hb).trans h1
          have y2 := (hB.out.cell (p := ⟨b, off + k * 3 + 1, none⟩) hb).trans h2
          have y3 := (hB.out.cell (p := ⟨b, off + k * 3 + 2, none⟩) hb).trans h3
          have hkd : decide (k < l.length) = true := by simpa using hlt
          have hxs := right_mem hrr'.out (List.getElem_mem hlt)
          have hyes : Hid (∀ m : Int, selRes (ofRes l[k].form l[k].data).1 a = (m, true) → selF l p = (l[k].key * 256 + m, true)) := fun m he => by rw [← hst.out]; exact selF_yes hlt he
          have hnot : Hid (selRes (ofRes l[k].form l[k].data).1 a = (0, false) → selF l p = selF (l.drop (k + 1)) (a - ci l[k].form l[k].data)) := fun he => by rw [← hst.out]; exact selF_no hlt he
          clear h1 h2 h3
          generalize l[k] = x at y1 y2 y3 hxs hyes hnot
          obtain ⟨ky, f, D⟩ := x
          simp only at y1 y2 y3 hxs hyes hnot
          obtain ⟨hk0, hk1, hD⟩ := hxs
          obtain ⟨kk, rfl⟩ : ∃ kk : Nat, ky = kk := ⟨ky.toNat, by omega⟩
          have hkk : kk < 256 := by omega
          have hcr := ci_range f D
          have hB2 := Lib.hid (hB.out.alloc hB.out.size (.cells #[.int .i64 (kk : Int), .int .i64 f, .string D] 59))
          have hTb := hT.below (hB1.out.trans (hB2.out.mono hB1.out.size)) hT.lt
          have hsl := Select_any f D a (wr.alloc (.cells #[.int .i64 (kk : Int), .int .i64 f, .string D] 59)) hD hTb
          have hK := KBox.new wr ⟨(kk : Int), f, D⟩
          rcases selRes_range (ofRes f D).1 a with ⟨m, hm, he⟩ | ⟨he, hout⟩
          · rw [he] at hsl
            have hst2 := hyes.out _ he
            have hor := i64_or_key kk m hkk hm
            have hsl' := Lib.hid hsl
            have hst3 := Lib.hid hst2
            clear hsl hst2 hyes hnot he
            go_wp2_with fail
            refine (hsl'.out).mono ?_
            rintro e W2 ⟨rfl, hb2⟩
            obtain ⟨z1, z2, z3⟩ := (hK.later hb2).cells
            simp only at z1 z2 z3
            have hB3 := Lib.hid (hB2.out.trans (hb2.mono hB2.out.size))
            clear hb2 hsl' y1 y2 y3 hK
            go_wp2
            exact bodyPost_ret (v := .tuple #[.int .i64 ((kk : Int) * 256 + m), .bool true]) (by simp [results, Tryd.results25, go_sem]) rfl ⟨by rw [hfin.out, hst3.out], hB1.out.trans (hB3.out.mono hB1.out.size)⟩
          · rw [he] at hsl
            have hst2 := hnot.out he
            have hsl' := Lib.hid hsl
            have hst3 := Lib.hid hst2.symm
            have hca : ci f D ≤ a := by unfold ci; omega
            have hct : Hid (∀ W, Tab W → Calls Tryd.prog 47 #[.agg #[.int .i64 f, .string D]] W fun e W' => e = .returned (.int .i64 (ci f D)) ∧ Below W.heap.size W W') := fun W hW => Count_ci f D W hD hW
            generalize ci f D = c at hct hst3 hcr hca
            clear hsl hst2 hout he hyes hnot
            go_wp2_with fail
            refine (hsl'.out).mono ?_
            rintro e W2 ⟨rfl, hb2⟩
            obtain ⟨z1, z2, z3⟩ := (hK.later hb2).cells
            simp only at z1 z2 z3
            have hB3 := Lib.hid (hB2.out.trans (hb2.mono hB2.out.size))
            have hct' := Lib.hid (hct.out W2 (hT.below (hB1.out.trans (hB3.out.mono hB1.out.size)) hT.lt))
            clear hb2 hsl' y1 y2 y3 hK hct hTb
            go_wp2_with fail
            refine (hct'.out).mono ?_
            rintro e W3 ⟨rfl, hb3⟩
            have hB4 := Lib.hid (hB3.out.trans (hb3.mono hB3.out.size))
            clear hb3 hct' z1 z2 z3
            go_wp2
            go_roundw
            case rel => exact ⟨k + 1, a - c, by omega, by go_num, rfl, hst3, by omega, by omega, hB4⟩
            case measure => simp [intOf]; omega
        · have hkd : decide (k < l.length) = false := by simpa using hlt
          have hfin2 : Hid (selF l p = (0, false)) := by
            show _ = _
            rw [← hst.out, List.drop_eq_nil_of_le (by omega)]; rfl
          go_wp2
          exact bodyPost_ret (v := .tuple #[.int .i64 0, .bool false]) (by simp [results, Tryd.results25, go_sem]) rfl ⟨by rw [hfin.out, hfin2.out], hB1.out.trans (hB.out.mono hB1.out.size)⟩
end Go.Proofs.YtalnfbkmlllfhaaDoor

/-
  roar's Rank, Has.
-/
namespace Go.Proofs.YtalnfbkmlllfhaaDoor
open Go.RowKit Tess

/-- How many numbers are up to n, from a chunk on. -/
def rnkF (n : Int) : List Ch → Int
  | [] => 0
  | x :: l => if x.key < n / 256 then ci x.form x.data + rnkF n l else if x.key = n / 256 then rk x.form x.data (n % 256) + rnkF n l else 0
def rnkL (l : List Ch) (n : Int) : Int := if rightL l = true then rnkF n l else 0
theorem rnkF_lt {l : List Ch} {k : Nat} {n : Int} (h : k < l.length) (h1 : l[k].key < n / 256) : rnkF n (l.drop k) = ci l[k].form l[k].data + rnkF n (l.drop (k + 1)) := by
  rw [List.drop_eq_getElem_cons h]
  conv => lhs; unfold rnkF
  rw [if_pos h1]
theorem rnkF_eq {l : List Ch} {k : Nat} {n : Int} (h : k < l.length) (h1 : l[k].key = n / 256) : rnkF n (l.drop k) = rk l[k].form l[k].data (n % 256) + rnkF n (l.drop (k + 1)) := by
  rw [List.drop_eq_getElem_cons h]
  conv => lhs; unfold rnkF
  rw [if_neg (by omega), if_pos h1]
theorem rnkF_gt {l : List Ch} {k : Nat} {n : Int} (h : k < l.length) (h1 : n / 256 < l[k].key) : rnkF n (l.drop k) = 0 := by
  rw [List.drop_eq_getElem_cons h]
  unfold rnkF
  rw [if_neg (by omega), if_neg (by omega)]

set_option maxRecDepth 100000 in
set_option maxHeartbeats 8000000 in
theorem rank7_any {l : List Ch} {v : Value} (n : Int) {w : World} (h : HC w v l) (hs : Small l) (hT : Tab w) :
    Calls Tryd.prog 30 #[.agg #[v], .int .i64 n] w fun e W' => e = .returned (.int .i64 (rnkL l n)) ∧ Below w.heap.size w W' := by
  have hR : Below w.heap.size w (w.alloc (.cells #[v] 24)) := (Below.refl _ w).alloc (Nat.le_refl _) _
  have hr := Lib.hid (right_any (h.alloc (.cells #[v] 24)) hs.1 hs.2 (hT.below hR hT.lt))
  have hx0 := RBox.new w v
  have hx := hx0.cell
  have hv := h.alloc (.cells #[v] 24)
  clear h hs
  obtain ⟨p, cap, rfl, hcap, -⟩ := Hid.out hv
  go_enter Tryd.func30, Tryd.ntmps30
  go_wp2
  go_step3
  go_wp2_with fail
  refine (hr.out).mono ?_
  rintro e W1 ⟨rfl, hb1⟩
  have hB1 := Lib.hid (hR.trans (hb1.mono hR.size))
  have hv1 := hv.later hb1
  have hx1 := (hx0.later hb1).cell
  clear hx hx0 hv hb1 hr hR
  cases hrr : rightL l with
  | false =>
    have hfin : Hid (rnkL l n = 0) := by show _ = _; unfold rnkL; rw [hrr]; rfl
    clear hrr
    go_wp2
    rw [Exit.noGoto_ret]
    exact bodyPost_ret (v := .int .i64 0) (by simp [results, Tryd.results30, go_sem]) rfl ⟨by rw [hfin.out], hB1.out⟩
  | true =>
    have hfin : Hid (rnkL l n = rnkF n l) := by show _ = _; unfold rnkL; rw [hrr]; rfl
    have hrr' := Lib.hid hrr
    have hl := right_len hrr
    obtain ⟨p', cap', hpe, -, hc⟩ := Hid.out hv1
    simp only [Value.slice.injEq] at hpe
    obtain ⟨rfl, -, rfl⟩ := hpe
    have hc' := Lib.hid hc
    have hand := i64_and255 n
    clear hrr hc hv1
    go_wp2
    go_step3
    go_wp2
    go_loopw [5, 15] (fun t i wr => ∃ (k : Nat) (a : Int), k ≤ l.length ∧ i = .int .i64 k ∧ t = .int .i64 a ∧ Hid (a + rnkF n (l.drop k) = rnkF n l) ∧ 0 ≤ a ∧ a ≤ 256 * k ∧ Hid (Below W1.heap.size W1 wr))
      (fun _ i _ => l.length - (intOf i).toNat)
    case atStart => exact ⟨0, 0, Nat.zero_le _, rfl, rfl, by show _ = _; simp, by omega, by omega, Lib.hid (Below.refl _ _)⟩
    case round =>
      obtain ⟨k, a, hk, rfl, rfl, hst, ha0, ha1, hB⟩ := hrel
      by_cases hlt : k < l.length
      · obtain ⟨b, off, rfl, hb, h1, h2, h3⟩ := hc'.out k hlt
        have y1 := (hB.out.cell (p := ⟨b, off + k * 3, none⟩) hb).trans h1
        have y2 := (hB.out.cell (p := ⟨b, off + k * 3 + 1, none⟩) hb).trans h2
        have y3 := (hB.out.cell (p := ⟨b, off + k * 3 + 2, none⟩) hb).trans h3
        have hkd : decide (k < l.length) = true := by simpa using hlt
        have hxs := (right_mem hrr'.out (List.getElem_mem hlt)).2.2
        have q1 : Hid (l[k].key < n / 256 → a + (ci l[k].form l[k].data + rnkF n (l.drop (k + 1))) = rnkF n l) := fun h => by rw [← hst.out, rnkF_lt hlt h]
        have q2 : Hid (l[k].key = n / 256 → a + (rk l[k].form l[k].data (n % 256) + rnkF n (l.drop (k + 1))) = rnkF n l) := fun h => by rw [← hst.out, rnkF_eq hlt h]
        have q3 : Hid (n / 256 < l[k].key → a = rnkF n l) := fun h => by rw [← hst.out, rnkF_gt hlt h]; omega
        clear h1 h2 h3
        generalize l[k] = x at y1 y2 y3 hxs q1 q2 q3
        obtain ⟨ky, f, D⟩ := x
        simp only at y1 y2 y3 hxs q1 q2 q3
        have hB2 := Lib.hid (hB.out.alloc hB.out.size (.cells #[.int .i64 ky, .int .i64 f, .string D] 59))
        have hTb := hT.below (hB1.out.trans (hB2.out.mono hB1.out.size)) hT.lt
        by_cases c1 : ky < n / 256
        · have c1' : decide (ky < n / 256) = true := decide_eq_true c1
          have hcr := ci_range f D
          have hct := Lib.hid (Count_ci f D (wr.alloc (.cells #[.int .i64 ky, .int .i64 f, .string D] 59)) hxs hTb)
          have hst3 := Lib.hid (q1.out c1)
          clear q1 q2 q3 c1
          generalize ci f D = c at hct hst3 hcr
          go_wp2_with fail
          refine (hct.out).mono ?_
          rintro e W2 ⟨rfl, hb2⟩
          have hB3 := Lib.hid (hB2.out.trans (hb2.mono hB2.out.size))
          have hst4 : Hid (a + c + rnkF n (l.drop (k + 1)) = rnkF n l) := by show _ = _; rw [← hst3.out]; omega
          clear hb2 hct y1 y2 y3 hst3
          go_wp2
          go_roundw
          case rel => exact ⟨k + 1, a + c, by omega, by go_num, rfl, hst4, by omega, by omega, hB3⟩
          case measure => simp [intOf]; omega
        · have c1' : decide (ky < n / 256) = false := decide_eq_false c1
          by_cases c2 : ky = n / 256
          · have c2' : (ky == n / 256) = true := by simpa using c2
            have hcr := rk_range f D (n % 256)
            have hct := Lib.hid (Rank_rk f D (n % 256) (wr.alloc (.cells #[.int .i64 ky, .int .i64 f, .string D] 59)) hxs hTb)
            have hst3 := Lib.hid (q2.out c2)
            clear q1 q2 q3 c1 c2
            generalize rk f D (n % 256) = c at hct hst3 hcr
            go_wp2_with fail
            refine (hct.out).mono ?_
            rintro e W2 ⟨rfl, hb2⟩
            have hB3 := Lib.hid (hB2.out.trans (hb2.mono hB2.out.size))
            have hst4 : Hid (a + c + rnkF n (l.drop (k + 1)) = rnkF n l) := by show _ = _; rw [← hst3.out]; omega
            clear hb2 hct y1 y2 y3 hst3
            go_wp2
            go_roundw
            case rel => exact ⟨k + 1, a + c, by omega, by go_num, rfl, hst4, by omega, by omega, hB3⟩
            case measure => simp [intOf]; omega
          · have c2' : (ky == n / 256) = false := by simpa using c2
            have hst3 := Lib.hid (q3.out (by omega))
            clear q1 q2 q3 c1 c2
            go_wp2
            rw [Exit.noGoto_ret]
            exact bodyPost_ret (v := .int .i64 a) (by simp [results, Tryd.results30, go_sem]) rfl ⟨by rw [hfin.out, ← hst3.out], hB1.out.trans (hB2.out.mono hB1.out.size)⟩
      · have hkd : decide (k < l.length) = false := by simpa using hlt
        have hfin2 : Hid (rnkF n l = a) := by
          show _ = _
          rw [← hst.out, List.drop_eq_nil_of_le (by omega)]; show a + 0 = a; omega
        go_wp2
        rw [Exit.noGoto_ret]
        exact bodyPost_ret (v := .int .i64 a) (by simp [results, Tryd.results30, go_sem]) rfl ⟨by rw [hfin.out, hfin2.out], hB1.out.trans (hB.out.mono hB1.out.size)⟩

/-! ## Has -/
def hasC (n : Int) (x : Ch) : Bool := x.key == n / 256 && hi x.form x.data (n % 256)
def hasL (l : List Ch) (n : Int) : Bool := rightL l && decide (0 ≤ n) && l.any (hasC n)
/-- The captured number lies in its box. -/
def NBox (W : World) (b : Nat) (n : Int) : Prop := W.heap[b]? = some (.cells #[.int .i64 n] 3 (0, 0))
theorem NBox.lt {W : World} {b : Nat} {n : Int} (h : NBox W b n) : b < W.heap.size := lt_of_heap h
theorem NBox.later {W W' : World} {b : Nat} {n : Int} (h : NBox W b n) (hb : Below W.heap.size W W') : NBox W' b n := (hb.block b h.lt).trans h
theorem NBox.cell {W : World} {b : Nat} {n : Int} (h : NBox W b n) : W.cell? ⟨b, 0, none⟩ = some (.int .i64 n) := by rw [cell_of_row W b 0 _ _ (0, 0) h]; rfl

set_option maxRecDepth 100000 in
set_option maxHeartbeats 2000000 in
theorem has1_any (ky f n : Int) (D : ByteArray) (b : Nat) (w : World) (hn : NBox w b n) (hD : D.size ≤ 1000000) (hT : Tab w) :
    Calls Tryd.prog 45 #[.agg #[.int .i64 ky, .int .i64 f, .string D], .pointer (some ⟨b, 0, none⟩)] w fun e W' => e = .returned (.bool (hasC n ⟨ky, f, D⟩)) ∧ Below w.heap.size w W' := by
  have hR : Below w.heap.size w (w.alloc (.cells #[.int .i64 ky, .int .i64 f, .string D] 59)) := (Below.refl _ w).alloc (Nat.le_refl _) _
  have hk := Lib.hid (Has_hi f D (n % 256) (w.alloc (.cells #[.int .i64 ky, .int .i64 f, .string D] 59)) hD (hT.below hR hT.lt))
  have hn' := (hn.later hR).cell
  have hand := i64_and255 n
  unfold hasC
  simp only
  clear hn
  go_enter Tryd.func45, Tryd.ntmps45
  by_cases c2 : ky = n / 256
  · have c2' : (ky == n / 256) = true := by simpa using c2
    rw [c2']
    clear c2
    go_wp2_with fail
    refine (hk.out).mono ?_
    rintro e W2 ⟨rfl, hb2⟩
    go_wp2
    exact bodyPost_ret (v := .bool (hi f D (n % 256))) (by simp [results, Tryd.results45, go_sem]) rfl ⟨by simp, hR.trans (hb2.mono hR.size)⟩
  · have c2' : (ky == n / 256) = false := by simpa using c2
    rw [c2']
    clear c2
    go_wp2
    exact bodyPost_ret (v := .bool false) (by simp [results, Tryd.results45, go_sem]) rfl ⟨by simp, hR⟩

set_option maxRecDepth 100000 in
set_option maxHeartbeats 2000000 in
theorem indexChunk_any {l : List Ch} {v : Value} (n : Int) (b : Nat) {w : World} (h : HC w v l) (hs : Small l) (hn : NBox w b n) (hT : Tab w) :
    Calls Tryd.prog 76 #[v, .func (.func 45) #[] #[.pointer (some ⟨b, 0, none⟩)]] w fun e W' => (∃ r : Int, e = .returned (.int .i64 r) ∧ decide (0 ≤ r) = l.any (hasC n)) ∧ Below w.heap.size w W' := by
  obtain ⟨p, cap, rfl, -, hc⟩ := Hid.out h
  have hc' := Lib.hid hc
  have hs' := Lib.hid hs
  have hn' := Lib.hid hn
  have hl := hs.1
  clear h hc hs hn
  go_enter Tryd.func76, Tryd.ntmps76
  go_wp2
  go_loopw [8] (fun i wr => ∃ k : Nat, k ≤ l.length ∧ i = .int .i64 k ∧ Hid ((l.take k).any (hasC n) = false) ∧ Hid (Below w.heap.size w wr))
    (fun i _ => l.length - (intOf i).toNat)
  case atStart => exact ⟨0, Nat.zero_le _, rfl, by show _ = _; simp, Lib.hid (Below.refl _ _)⟩
  case round =>
    obtain ⟨k, hk, rfl, hA, hB⟩ := hrel
    by_cases hlt : k < l.length
    · obtain ⟨b', off, rfl, hb, h1, h2, h3⟩ := hc'.out k hlt
      have y1 := (hB.out.cell (p := ⟨b', off + k * 3, none⟩) hb).trans h1
      have y2 := (hB.out.cell (p := ⟨b', off + k * 3 + 1, none⟩) hb).trans h2
      have y3 := (hB.out.cell (p := ⟨b', off + k * 3 + 2, none⟩) hb).trans h3
      have hkd : decide (k < l.length) = true := by simpa using hlt
      have hstep : Hid ((l.take (k + 1)).any (hasC n) = hasC n l[k]) := by
        show _ = _
        rw [List.take_succ_eq_append_getElem hlt, List.any_append, hA.out]; simp
      have hin : Hid (hasC n l[k] = true → l.any (hasC n) = true) := by
        show _ → _
        intro h
        exact List.any_eq_true.2 ⟨l[k], List.getElem_mem hlt, h⟩
      have hxs := hs'.out.2 l[k] (List.getElem_mem hlt)
      clear h1 h2 h3
      generalize l[k] = x at y1 y2 y3 hxs hstep hin
      obtain ⟨ky, f, D⟩ := x
      simp only at y1 y2 y3 hxs
      have hcl := Lib.hid (has1_any ky f n D b wr (hn'.out.later hB.out) hxs (hT.below hB.out hT.lt))
      generalize hasC n ⟨ky, f, D⟩ = q at hcl hstep hin
      go_wp2_with fail
      refine (hcl.out).mono ?_
      rintro e W2 ⟨rfl, hb2⟩
      have hg2 := Lib.hid (hB.out.trans (hb2.mono hB.out.size))
      clear hb2 hcl y1 y2 y3
      cases q with
      | true =>
        have hfin := Lib.hid (hin.out rfl)
        clear hin hstep
        go_wp2
        exact bodyPost_ret (v := .int .i64 k) (by simp [results, Tryd.results76, go_sem]) rfl ⟨⟨_, rfl, by rw [hfin.out]; simp⟩, hg2.out⟩
      | false =>
        clear hin
        go_wp2
        go_roundw
        case rel => exact ⟨k + 1, by omega, by go_num, hstep, hg2⟩
        case measure => simp [intOf]; omega
    · have hge : l.length ≤ k := by omega
      have hkd : decide (k < l.length) = false := by simpa using hlt
      have hall : Hid (l.any (hasC n) = false) := by
        have : l.take k = l := List.take_of_length_le hge
        have h := hA.out
        rw [this] at h
        exact h
      go_wp2
      exact bodyPost_ret (v := .int .i64 (-1)) (by simp [results, Tryd.results76, go_sem]) rfl ⟨⟨_, rfl, by rw [hall.out]; decide⟩, hB.out⟩

theorem containsChunk_any {l : List Ch} {v : Value} (n : Int) (b : Nat) {w : World} (h : HC w v l) (hs : Small l) (hn : NBox w b n) (hT : Tab w) :
    Calls Tryd.prog 44 #[v, .func (.func 45) #[] #[.pointer (some ⟨b, 0, none⟩)]] w fun e W' => e = .returned (.bool (l.any (hasC n))) ∧ Below w.heap.size w W' := by
  have hi := Lib.hid (indexChunk_any n b h hs hn hT)
  clear h hs hn
  generalize l.any (hasC n) = q at hi ⊢
  go_enter Tryd.func44, Tryd.ntmps44
  go_wp2_with fail
  refine (hi.out).mono ?_
  rintro e W2 ⟨⟨r, rfl, hr⟩, hb2⟩
  go_wp2
  exact bodyPost_ret (v := .bool q) (by simp [results, Tryd.results44, go_sem]) rfl ⟨rfl, hb2⟩

set_option maxRecDepth 100000 in
set_option maxHeartbeats 4000000 in
theorem has7_any {l : List Ch} {v : Value} (n : Int) {w : World} (h : HC w v l) (hs : Small l) (hT : Tab w) :
    Calls Tryd.prog 21 #[.agg #[v], .int .i64 n] w fun e W' => e = .returned (.bool (hasL l n)) ∧ Below w.heap.size w W' := by
  have hR : Below w.heap.size w ((w.alloc (.cells #[v] 24)).alloc (.cells #[.int .i64 n] 3)) := ((Below.refl _ w).alloc (Nat.le_refl _) _).alloc (by simp) _
  have hv := (h.alloc (.cells #[v] 24)).alloc (.cells #[.int .i64 n] 3)
  have hr := Lib.hid (right_any hv hs.1 hs.2 (hT.below hR hT.lt))
  have hx0 := (RBox.new w v).alloc (.cells #[.int .i64 n] 3)
  have hx := hx0.cell
  have hn0 : NBox ((w.alloc (.cells #[v] 24)).alloc (.cells #[.int .i64 n] 3)) (w.heap.size + 1) n := by
    have := heap_alloc_new (w.alloc (.cells #[v] 24)) (.cells #[.int .i64 n] 3)
    rw [World.size_alloc] at this; exact this
  have hs' := Lib.hid hs
  clear h hs
  obtain ⟨p, cap, rfl, hcap, -⟩ := Hid.out hv
  have hdef : Hid (hasL l n = (rightL l && decide (0 ≤ n) && l.any (hasC n))) := rfl
  go_enter Tryd.func21, Tryd.ntmps21
  go_wp2_with fail
  refine (hr.out).mono ?_
  rintro e W1 ⟨rfl, hb1⟩
  have hB1 := Lib.hid (hR.trans (hb1.mono hR.size))
  have hv1 := hv.later hb1
  have hx1 := (hx0.later hb1).cell
  have hn1 := hn0.later hb1
  have hn1c := hn1.cell
  have hct := Lib.hid (containsChunk_any n (w.heap.size + 1) hv1 hs'.out hn1 (hT.below hB1.out hT.lt))
  clear hx hx0 hv hb1 hr hR hv1 hn1 hn0
  generalize l.any (hasC n) = q at hct hdef
  generalize rightL l = ok at hdef ⊢
  cases ok with
  | false =>
    go_wp2
    exact bodyPost_ret (v := .bool false) (by simp [results, Tryd.results21, go_sem]) rfl ⟨by rw [hdef.out]; rfl, hB1.out⟩
  | true =>
    by_cases hp0 : n < 0
    · have hd : decide (n < 0) = true := decide_eq_true hp0
      have hfin : Hid (hasL l n = false) := by show _ = _; rw [hdef.out, decide_eq_false (by omega)]; rfl
      clear hdef
      go_wp2
      exact bodyPost_ret (v := .bool false) (by simp [results, Tryd.results21, go_sem]) rfl ⟨by rw [hfin.out], hB1.out⟩
    · have hd : decide (n < 0) = false := decide_eq_false hp0
      have hfin : Hid (hasL l n = q) := by show _ = _; rw [hdef.out, decide_eq_true (by omega)]; simp
      clear hdef
      go_wp2_with fail
      refine (hct.out).mono ?_
      rintro e W2 ⟨rfl, hb2⟩
      go_wp2
      exact bodyPost_ret (v := .bool q) (by simp [results, Tryd.results21, go_sem]) rfl ⟨by rw [hfin.out], hB1.out.trans (hb2.mono hB1.out.size)⟩
end Go.Proofs.YtalnfbkmlllfhaaDoor

/-
  roar's iterator over a bitmap's numbers: for whatever loop body that keeps what lay below n₀, and all cells but its own collecting slice.
-/
namespace Go.Proofs.YtalnfbkmlllfhaaDoor
open Go.RowKit Go.Shelf Tess

attribute [local go_sem] Oper.semAt_some

/-! ## a body that collects into a slice in box B0 -/
def rowOf (W : World) (B0 : Nat) : Option Nat := match W.cell? ⟨B0, 0, none⟩ with | some v => v.ownBlock | none => none
theorem rowOf_cell {W : World} {B0 : Nat} {v : Value} (h : W.cell? ⟨B0, 0, none⟩ = some v) : rowOf W B0 = v.ownBlock := by unfold rowOf; rw [h]
theorem rowOf_block {W W' : World} {B0 : Nat} (h : W'.heap[B0]? = W.heap[B0]?) : rowOf W' B0 = rowOf W B0 := by
  have e : W'.cell? ⟨B0, 0, none⟩ = W.cell? ⟨B0, 0, none⟩ := World.cell?_of_block (a := ⟨B0, 0, none⟩) h
  unfold rowOf; rw [e]
/-- WHAT SUCH A ROUND KEEPS. -/
structure KeepC (n₀ B0 : Nat) (W W' : World) : Prop where
  below : Below n₀ W W'
  cells : ∀ (b : Nat) (cs : Array Value) (t : TypeId) (fr : Nat × Nat), W.heap[b]? = some (.cells cs t fr) → b ≠ B0 → rowOf W B0 ≠ some b → W'.heap[b]? = W.heap[b]?
  row : rowOf W' B0 = rowOf W B0 ∨ ∃ g, rowOf W' B0 = some g ∧ W.heap.size ≤ g ∧ g < W'.heap.size
theorem KeepC.trans {n₀ B0 : Nat} {A B C : World} (h : KeepC n₀ B0 A B) (k : KeepC n₀ B0 B C) : KeepC n₀ B0 A C := by
  refine ⟨h.below.trans k.below, fun b cs t fr hb hne hr => ?_, ?_⟩
  · have e := h.cells b cs t fr hb hne hr
    refine (k.cells b cs t fr (e.trans hb) hne ?_).trans e
    rcases h.row with h1 | ⟨g, h1, h2, _⟩
    · rw [h1]; exact hr
    · rw [h1]; intro e1; cases e1; have := lt_of_heap hb; omega
  · rcases k.row with k1 | ⟨g, k1, k2, k3⟩
    · rcases h.row with h1 | ⟨g, h1, h2, h3⟩
      · exact .inl (k1.trans h1)
      · exact .inr ⟨g, k1.trans h1, h2, Nat.lt_of_lt_of_le h3 k.below.size⟩
    · exact .inr ⟨g, k1, Nat.le_trans h.below.size k2, k3⟩
theorem keepC_b {n₀ B0 : Nat} {w : World} (hn : n₀ ≤ w.heap.size) (hB : B0 < w.heap.size) (W : World) (l : Nat) (o o' : Obj) (hl : w.heap.size ≤ l) (h : W.heap[l]? = some o) (hc : o.isCells = false) (hw : o.isWalk = false) : KeepC n₀ B0 W (W.putObj l o') := by
  refine ⟨belowK_b hn W l o o' hl h hc hw, fun b cs t fr hb hne _ => ?_, .inl (rowOf_block ?_)⟩
  · refine World.putObj_heap_other ?_
    intro e
    subst e
    rw [h] at hb
    cases hb; cases hc
  · exact World.putObj_heap_other (by omega)
/-- The collecting slice lies in a block that is there. -/
def OkB (W : World) (B0 : Nat) : Prop := ∀ g, rowOf W B0 = some g → g < W.heap.size
theorem OkB.keep {n₀ B0 : Nat} {W W' : World} (h : OkB W B0) (k : KeepC n₀ B0 W W') : OkB W' B0 := by
  intro g hg
  rcases k.row with h1 | ⟨g', h1, _, h3⟩
  · rw [h1] at hg; exact Nat.lt_of_lt_of_le (h g hg) k.below.size
  · rw [h1] at hg; cases hg; exact h3
theorem OkB.later {B0 : Nat} {W W' : World} (h : OkB W B0) (hB : B0 < W.heap.size) (hb : Below W.heap.size W W') : OkB W' B0 := by
  intro g hg
  rw [rowOf_block (hb.block B0 hB)] at hg
  exact Nat.lt_of_lt_of_le (h g hg) hb.size
/-- A block of cells that no such round touches. -/
def Safe (W : World) (B0 b : Nat) : Prop := b ≠ B0 ∧ rowOf W B0 ≠ some b ∧ b < W.heap.size
theorem Safe.keep {n₀ B0 b : Nat} {W W' : World} (h : Safe W B0 b) (k : KeepC n₀ B0 W W') : Safe W' B0 b := by
  refine ⟨h.1, ?_, Nat.lt_of_lt_of_le h.2.2 k.below.size⟩
  rcases k.row with h1 | ⟨g', h1, h2, _⟩
  · rw [h1]; exact h.2.1
  · rw [h1]; intro e; cases e; have := h.2.2; omega
theorem Safe.later {B0 b : Nat} {W W' : World} (h : Safe W B0 b) (hB : B0 < W.heap.size) (hb : Below W.heap.size W W') : Safe W' B0 b :=
  ⟨h.1, by rw [rowOf_block (hb.block B0 hB)]; exact h.2.1, Nat.lt_of_lt_of_le h.2.2 hb.size⟩
theorem Safe.new {B0 b : Nat} {W W' : World} (hok : OkB W B0) (hB : B0 < W.heap.size) (hb : Below W.heap.size W W') (h1 : W.heap.size ≤ b) (h2 : b < W'.heap.size) : Safe W' B0 b :=
  ⟨by omega, by rw [rowOf_block (hb.block B0 hB)]; intro e; have := hok b e; omega, h2⟩
theorem KBox.keep {n₀ B0 b : Nat} {W W' : World} {x : Ch} (h : KBox W b x) (hs : Safe W B0 b) (k : KeepC n₀ B0 W W') : KBox W' b x := (k.cells b _ _ _ h hs.1 hs.2.1).trans h
theorem own_keep {n₀ B0 base n size : Nat} {e : TypeId} {W W' : World} {v : Value} {xs : List Value} (h : W.ownsRow base e size v n xs) (hs : ∀ g, v.ownBlock = some g → Safe W B0 g) (k : KeepC n₀ B0 W W') : W'.ownsRow base e size v n xs := by
  refine ⟨h.1, ?_⟩
  rcases h.2 with h0 | ⟨g, cap, cur, rfl, hg, hh, rest⟩
  · exact .inl h0
  · have hs' := hs g rfl
    exact .inr ⟨g, cap, cur, rfl, hg, (k.cells g _ _ _ hh hs'.1 hs'.2.1).trans hh, rest⟩

/-! ## the numbers -/
abbrev N16 := Fin 65536
def vals16 (l : List N16) : List Nat := l.map (·.val)
theorem vals16_snoc (l : List N16) (x : N16) : vals16 (l ++ [x]) = vals16 l ++ [x.val] := by simp [vals16]
/-- A chunk's numbers; those of all chunks. -/
def chN (x : Ch) : List Nat := (nums x.set).map fun m => x.key.toNat * 256 + m
def allN (l : List Ch) : List Nat := l.flatMap chN
theorem allN_take {l : List Ch} {k : Nat} (h : k < l.length) : allN (l.take (k + 1)) = allN (l.take k) ++ chN l[k] := by
  unfold allN; rw [List.take_succ_eq_append_getElem h, List.flatMap_append]; simp
theorem allN_prefix (l : List Ch) (k : Nat) : allN (l.take k) <+: allN l := by
  unfold allN
  conv => rhs; rw [← List.take_append_drop k l, List.flatMap_append]
  exact List.prefix_append _ _
theorem chN_len (x : Ch) : (chN x).length ≤ 256 := by unfold chN; rw [List.length_map]; exact count_le _
theorem allN_len (l : List Ch) : (allN l).length ≤ 256 * l.length := by
  induction l with
  | nil => exact Nat.le_refl _
  | cons x l ih => show (chN x ++ allN l).length ≤ _; rw [List.length_append, List.length_cons]; have := chN_len x; omega

theorem rowVal {W : World} {base : Nat} {v : Value} {s : Nat} (h : W.ownsRow base 3 1 v (nums s).length ((nums s).map iv)) {j : Nat} (hj : j < (nums s).length) : ∃ g cap, v = .slice (some ⟨g, 0, none⟩) (nums s).length cap ∧ W.cell? ⟨g, j, none⟩ = some (.int .i64 (((nums s)[j] : Nat) : Int)) := by
  have h0 := h
  rcases h.2 with ⟨_, h1⟩ | ⟨g, cap, cur, rfl, _, _, _⟩
  · omega
  · refine ⟨g, cap, rfl, ?_⟩
    have hcx := h0.cellAt j (by omega)
    rw [List.getElem?_map, List.getElem?_eq_getElem hj] at hcx
    simpa [iv] using hcx
theorem rowSlice {W : World} {base n : Nat} {e : TypeId} {size : Nat} {v : Value} {xs : List Value} (h : W.ownsRow base e size v n xs) : ∃ p cap, v = .slice p n cap := by
  rcases h.2 with ⟨rfl, rfl⟩ | ⟨g, cap, cur, rfl, _⟩
  · exact ⟨_, _, rfl⟩
  · exact ⟨_, _, rfl⟩

set_option maxRecDepth 100000 in
set_option maxHeartbeats 8000000 in
theorem numbers7_in (n : Nat) (hn : 1 ≤ n) (lf Bw n₀ B0 : Nat) {l : List Ch} {v : Value} (hg : 4 < n₀) (J Jx : List N16 → World → Prop) (hJg : ∀ pre W W', J pre W → W.grownBy W' none → J pre W') (hr : rightL l = true)
    (hY : ∀ pre x W, J pre W → pre.length < 65536 → YieldAt Fence.wide (n - 1) Tryd.prog lf #[.int .i64 (x.val : Int)] W fun e W' =>
      (e = .returned (.bool true) ∧ J (pre ++ [x]) W' ∧ KeepC n₀ B0 W W') ∨ (e = .returned (.bool false) ∧ Jx (pre ++ [x]) W'))
    (W : World) (hBw : W.cell? ⟨Bw, 0, none⟩ = some v) (hv : Chs n₀ W v l) (hT : Tab W) (hB0 : B0 < W.heap.size) (hok : OkB W B0) (hn₀ : n₀ ≤ W.heap.size) (h0 : J [] W) :
    CallsIn Fence.wide n Tryd.prog 81 #[.func (.yield lf) #[] #[], .pointer (some ⟨Bw, 0, none⟩)] W fun e W' => (∃ v, e = .returned v) ∧
      ((∃ ys, vals16 ys = allN l ∧ J ys W') ∨ (∃ pre, vals16 pre <+: allN l ∧ Jx pre W')) := by
  have hl := right_len hr
  have hr' := Lib.hid hr
  obtain ⟨p, cap, rfl, -, hc⟩ := hv
  have hc' := Lib.hid hc
  clear hc hr
  refine callsIn_of_wp Tryd.func81 rfl trivial ?_ rfl
  simp only [Tryd.ntmps81, List.size_toArray, List.length_cons, List.length_nil, Nat.reduceAdd, Nat.reduceSub, Array.replicate_succ, Array.replicate_zero, List.push_toArray, List.append_toArray, List.nil_append, List.cons_append]
  refine scopeIn ?_
  gi_wp2
  refine wpIn_label ?_
  gi_wp2
  gi_loopw [10] (fun i wr => ∃ (k : Nat) (pre : List N16), k ≤ l.length ∧ i = .int .i64 k ∧ Hid (vals16 pre = allN (l.take k)) ∧ J pre wr ∧ Hid (Below n₀ W wr) ∧ OkB wr B0 ∧ B0 < wr.heap.size)
    (fun i _ => l.length - (intOf i).toNat)
  case atStart => exact ⟨0, [], Nat.zero_le _, rfl, rfl, h0, Lib.hid (Below.refl _ _), hok, hB0⟩
  case round =>
    obtain ⟨k, pre, hk, rfl, hvp, hJs, hB, hokr, hBr⟩ := hrel
    by_cases hlt : k < l.length
    · obtain ⟨b, off, rfl, hb, h1, h2, h3⟩ := hc'.out k hlt
      have y1 := (hB.out.cell (p := ⟨b, off + k * 3, none⟩) hb).trans h1
      have y2 := (hB.out.cell (p := ⟨b, off + k * 3 + 1, none⟩) hb).trans h2
      have y3 := (hB.out.cell (p := ⟨b, off + k * 3 + 2, none⟩) hb).trans h3
      have hkd : decide (k < l.length) = true := by simpa using hlt
      have hxs := right_mem hr'.out (List.getElem_mem hlt)
      have hat := Lib.hid (allN_take hlt)
      clear h1 h2 h3
      generalize hx : l[k] = x at y1 y2 y3 hxs hat
      clear hx
      obtain ⟨ky, f, D⟩ := x
      simp only at y1 y2 y3 hxs
      obtain ⟨hk0, hk1, hD⟩ := hxs
      obtain ⟨kk, rfl⟩ : ∃ kk : Nat, ky = kk := ⟨ky.toNat, by omega⟩
      have hkk : kk < 256 := by omega
      have hal : Hid ((Below.refl wr.heap.size wr).alloc (Nat.le_refl _) (.cells #[.int .i64 (kk : Int), .int .i64 f, .string D] 59) = (Below.refl wr.heap.size wr).alloc (Nat.le_refl _) (.cells #[.int .i64 (kk : Int), .int .i64 f, .string D] 59)) := rfl
      clear hal
      have hbA : Below wr.heap.size wr (wr.alloc (.cells #[.int .i64 (kk : Int), .int .i64 f, .string D] 59)) := (Below.refl wr.heap.size wr).alloc (Nat.le_refl _) _
      have hJ1 := hJg _ _ _ hJs (grown_of_below hbA)
      have hB1 := Lib.hid (hB.out.alloc (by have := hB.out.size; omega) (.cells #[.int .i64 (kk : Int), .int .i64 f, .string D] 59))
      have hK1 := KBox.new wr ⟨(kk : Int), f, D⟩
      have hok1 := hokr.later hBr hbA
      have hs1 : Safe (wr.alloc (.cells #[.int .i64 (kk : Int), .int .i64 f, .string D] 59)) B0 wr.heap.size := Safe.new hokr hBr hbA (Nat.le_refl _) (by simp)
      have hBr1 : B0 < (wr.alloc (.cells #[.int .i64 (kk : Int), .int .i64 f, .string D] 59)).heap.size := by simp; omega
      have hva := Lib.hid (Values_any f D (wr.alloc (.cells #[.int .i64 (kk : Int), .int .i64 f, .string D] 59)) hD (hT.below hB1.out hg))
      have hK1' := Lib.hid hK1
      have hok1' := Lib.hid hok1
      have hs1' := Lib.hid hs1
      have hbA' := Lib.hid hbA
      clear hokr hK1 hok1 hs1 hbA
      gi_wp2_with (refine ⟨trivial, ?_⟩; gi_at_call 79; refine CallsIn.mono (callsIn_wide.2 hva.out) ?_; rintro e W2 ⟨v2, rfl, hown2, hb2⟩; obtain ⟨p2, cap2, rfl⟩ := rowSlice hown2)
      have hBs1 := hB1.out.size
      have hJ2 := hJg _ _ _ hJ1 (grown_of_below hb2)
      have hB2 := Lib.hid (hB1.out.trans (hb2.mono (by omega)))
      have hok2 := hok1'.out.later hBr1 hb2
      have hBr2 : B0 < W2.heap.size := Nat.lt_of_lt_of_le hBr1 hb2.size
      have hK2 := Lib.hid (hK1'.out.later hb2)
      have hs2 := Lib.hid (hs1'.out.later hBr1 hb2)
      have hsr : Hid (∀ g, Value.ownBlock (.slice p2 (nums (ofRes f D).1).length cap2) = some g → Safe W2 B0 g) := fun g e => Safe.new hok1'.out hBr1 hb2 (hown2.lt g e).1 (hown2.lt g e).2
      have hown2' := Lib.hid hown2
      change Hid (allN (l.take (k + 1)) = allN (l.take k) ++ (nums (ofRes f D).1).map fun m => kk * 256 + m) at hat
      have hnl := count_le (ofRes f D).1
      change (nums (ofRes f D).1).length ≤ 256 at hnl
      have hnm : Hid (∀ m ∈ nums (ofRes f D).1, m < 256) := fun m hm => (mem_nums.1 hm).1
      obtain ⟨base, hbase⟩ : ∃ base, base = (wr.alloc (.cells #[.int .i64 (kk : Int), .int .i64 f, .string D] 59)).heap.size := ⟨_, rfl⟩
      rw [← hbase] at hown2'
      generalize (ofRes f D).1 = s at hown2' hat hsr hnl hnm
      clear hown2 hb2 hva hJ1 hB1 hK1' hok1' hs1' hbA' hBr1 hBs1 hbase y1 y2 y3 hJs hB
      obtain ⟨wo, rfl⟩ : ∃ wo : World, wo = wr := ⟨_, rfl⟩
      gi_wp2
      gi_loopw [18] (fun i wi => ∃ (j : Nat) (pi : List N16), j ≤ (nums s).length ∧ i = .int .i64 j ∧ Hid (vals16 pi = allN (l.take k) ++ ((nums s).take j).map fun m => kk * 256 + m) ∧ J pi wi ∧ Hid (Below n₀ W wi) ∧ OkB wi B0 ∧ B0 < wi.heap.size ∧ Hid (KBox wi wo.heap.size ⟨(kk : Int), f, D⟩) ∧ Hid (Safe wi B0 wo.heap.size) ∧
          Hid (wi.ownsRow base 3 1 (.slice p2 (nums s).length cap2) (nums s).length ((nums s).map iv)) ∧ Hid (∀ g, Value.ownBlock (.slice p2 (nums s).length cap2) = some g → Safe wi B0 g))
        (fun i _ => (nums s).length - (intOf i).toNat)
      case atStart => exact ⟨0, pre, Nat.zero_le _, rfl, by show _ = _; rw [hvp.out]; simp, hJ2, hB2, hok2, hBr2, hK2, hs2, hown2', hsr⟩
      case round =>
        obtain ⟨j, pi, hj, rfl, hvi, hJi, hBi, hoki, hBri, hKi, hsi, howni, hsri⟩ := hrel
        clear hJ2 hB2 hok2 hBr2 hK2 hs2 hown2' hsr
        by_cases hjl : j < (nums s).length
        · obtain ⟨g, cap3, hpe, hcell⟩ := rowVal howni.out hjl
          simp only [Value.slice.injEq] at hpe
          obtain ⟨rfl, -, rfl⟩ := hpe
          obtain ⟨z1, -, -⟩ := hKi.out.cells
          simp only at z1
          have hm256 := hnm.out _ (List.getElem_mem hjl)
          have hvn : Hid (((nums s).take (j + 1)).map (fun m => kk * 256 + m) = ((nums s).take j).map (fun m => kk * 256 + m) ++ [kk * 256 + (nums s)[j]]) := by
            show _ = _
            rw [List.take_succ_eq_append_getElem hjl, List.map_append]; rfl
          have hjd : decide (j < (nums s).length) = true := by simpa using hjl
          have hlen : pi.length < 65536 := by
            have h1 := congrArg List.length hvi.out
            have h2 := allN_len (l.take k)
            rw [List.length_take] at h2
            simp only [vals16, List.length_map, List.length_append, List.length_take] at h1
            omega
          generalize (nums s)[j] = m at hcell hm256 hvn
          have hb16 : kk * 256 + m < 65536 := by omega
          obtain ⟨fn, tmps, assign, body, hyy, hR⟩ := hY pi ⟨kk * 256 + m, hb16⟩ wr hJi hlen
          have ev : (((⟨kk * 256 + m, hb16⟩ : N16).val : Nat) : Int) = (kk : Int) * 256 + m := by simp
          rw [ev] at hyy
          have hor := i64_or_key kk m hkk hm256
          clear ev hlen
          gi_wp2
          refine hR.mono ?_
          rintro e W3 (⟨rfl, hJ3, hk3⟩ | ⟨rfl, hJx3⟩)
          · have q1 : Hid (vals16 (pi ++ [⟨kk * 256 + m, hb16⟩]) = allN (l.take k) ++ ((nums s).take (j + 1)).map fun m => kk * 256 + m) := by
              show _ = _
              rw [vals16_snoc, hvi.out, hvn.out]; simp
            have q2 := Lib.hid (hBi.out.trans hk3.below)
            have q3 := hoki.keep hk3
            have q4 : B0 < W3.heap.size := Nat.lt_of_lt_of_le hBri hk3.below.size
            have q5 := Lib.hid (hKi.out.keep hsi.out hk3)
            have q6 := Lib.hid (hsi.out.keep hk3)
            have q7 := Lib.hid (own_keep howni.out hsri.out hk3)
            have q8 : Hid (∀ g', Value.ownBlock (.slice (some ⟨g, 0, none⟩) (nums s).length cap2) = some g' → Safe W3 B0 g') := fun g' e => (hsri.out g' e).keep hk3
            clear hvi hJi hBi hoki hBri hKi hsi howni hsri hvn
            gi_wp2
            go_roundw
            case rel => exact ⟨j + 1, _, by omega, by go_num, q1, hJ3, q2, q3, q4, q5, q6, q7, q8⟩
            case measure => simp [intOf]; omega
          · gi_wp2
            rw [Exit.noGoto_normal]
            go_end0
            refine ⟨⟨_, rfl⟩, .inr ⟨pi ++ [⟨kk * 256 + m, hb16⟩], ?_, hJx3⟩⟩
            rw [vals16_snoc, hvi.out]
            have h2 : allN (l.take k) ++ ((nums s).take j).map (fun m => kk * 256 + m) ++ [kk * 256 + m] <+: allN (l.take (k + 1)) := by
              rw [hat.out, List.append_assoc, ← hvn.out]
              refine (List.prefix_append_right_inj _).2 ?_
              exact (List.take_prefix _ _).map _
            exact h2.trans (allN_prefix l (k + 1))
        · have hjd : decide (j < (nums s).length) = false := by simpa using hjl
          have q1 : Hid (vals16 pi = allN (l.take (k + 1))) := by
            show _ = _
            rw [hvi.out, hat.out, show (nums s).take j = nums s from List.take_of_length_le (by omega)]
          clear hvi hKi hsi howni hsri
          gi_wp2
          go_roundw
          case rel => exact ⟨k + 1, pi, by omega, by go_num, q1, hJi, hBi, hoki, hBri⟩
          case measure => simp [intOf]; omega
    · have hkd : decide (k < l.length) = false := by simpa using hlt
      have hfin : Hid (vals16 pre = allN l) := by
        show _ = _
        rw [hvp.out, List.take_of_length_le (by omega)]
      gi_wp2
      rw [Exit.noGoto_normal]
      go_end0
      exact ⟨⟨_, rfl⟩, .inl ⟨pre, hfin.out, hJs⟩⟩

/-- All numbers, rising; or the first of them. -/
theorem numbers7_stops (n : Nat) (hn : 1 ≤ n) (Bw n₀ B0 : Nat) {l : List Ch} {v : Value} (hg : 4 < n₀) (hr : rightL l = true) (w : World) (hBl : Bw < w.heap.size) (hBw : w.cell? ⟨Bw, 0, none⟩ = some v) (hv : Chs n₀ w v l) (hT : Tab w) (hB0 : B0 < w.heap.size) (hok : OkB w B0) (hn₀ : n₀ ≤ w.heap.size) :
    SeqStopsK Fence.wide n Tryd.prog 81 #[.pointer (some ⟨Bw, 0, none⟩)] (fun x : N16 => #[Value.int .i64 (x.val : Int)]) (KeepC n₀ B0) (fun ys => vals16 ys = allN l) (fun pre => vals16 pre <+: allN l) 65536 w := fun lf J Jx W hW hJ _ hY h0 =>
  numbers7_in n hn lf Bw n₀ B0 hg J Jx (fun pre W1 W2 h hg => hJ pre W1 W2 none h hg (fun _ e => by cases e)) hr hY W ((hW.cell (p := ⟨Bw, 0, none⟩) hBl).trans hBw)
    (hv.below hW hn₀) (hT.below hW (by omega)) (Nat.lt_of_lt_of_le hB0 hW.size) (hok.later hB0 hW) (Nat.le_trans hn₀ hW.size) h0
end Go.Proofs.YtalnfbkmlllfhaaDoor
