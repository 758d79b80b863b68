/-
  Ask7, Ask8, Iter7: several texts in one (merge.py).
-/
import Derived.Test.YtnigpmbpipmgfaaDoorMkG
import Derived.Maps.OwnIn

/-
  roar's Count, Select, Rank.
-/
namespace Go.Proofs.YtnigpmbpipmgfaaDoor
open Go.RowKit Tess

theorem rightF_mem : ∀ {l : List Ch} {b : Int}, rightF b l = true → ∀ x ∈ l, b < x.key ∧ x.key < 256 ∧ isBestB x.form x.data = true
  | [], _, _, _, hx => by cases hx
  | y :: l, b, h, x, hx => by
    simp only [rightF, Bool.and_eq_true, decide_eq_true_eq] at h
    rcases List.mem_cons.1 hx with rfl | hx
    · exact ⟨h.1.1.1, h.1.1.2, h.1.2⟩
    · have := rightF_mem h.2 x hx
      exact ⟨by omega, this.2.1, this.2.2⟩
theorem right_mem {l : List Ch} (h : rightL l = true) {x : Ch} (hx : x ∈ l) : 0 ≤ x.key ∧ x.key < 256 ∧ x.data.size ≤ 1000000 := by
  have := rightF_mem h x hx
  exact ⟨by omega, this.2.1, (small_right h).2 x hx⟩
theorem right_len {l : List Ch} (h : rightL l = true) : l.length ≤ 256 := ((rightL_iff l).1 h).1
theorem i64_or_key (k n : Nat) (hk : k < 256) (hn : n < 256) : bits .or .i64 ((k : Int) * 256) (n : Int) = (k : Int) * 256 + n := by
  have e : ((k : Int) * 256) = ((2 ^ 8 * k : Nat) : Int) := by omega
  have h1 := Nat.two_pow_add_eq_or_of_lt (i := 8) (b := n) hn k
  show IntKind.i64.wrap ((BitVec.ofInt 64 ((k : Int) * 256) ||| BitVec.ofInt 64 (n : Int)).toNat : Int) = _
  rw [BitVec.toNat_or, e, ofInt_u64 _ (by omega), ofInt_u64 _ (by omega), ← h1, IntKind.wrap_i64]
  omega

/-- How many numbers chunks have. -/
def cntF : List Ch → Int
  | [] => 0
  | x :: l => ci x.form x.data + cntF l
def cntL (l : List Ch) : Int := if rightL l = true then cntF l else 0
theorem cntF_drop {l : List Ch} {k : Nat} (h : k < l.length) : cntF (l.drop k) = ci l[k].form l[k].data + cntF (l.drop (k + 1)) := by
  rw [List.drop_eq_getElem_cons h]; rfl

set_option maxRecDepth 100000 in
set_option maxHeartbeats 4000000 in
theorem count7_any {l : List Ch} {v : Value} {w : World} (h : HC w v l) (hs : Small l) (hT : Tab w) :
    Calls Tryd.prog 18 #[.agg #[v]] w fun e W' => e = .returned (.int .i64 (cntL l)) ∧ Below w.heap.size w W' := by
  have hR : Below w.heap.size w (w.alloc (.cells #[v] 28)) := (Below.refl _ w).alloc (Nat.le_refl _) _
  have hr := Lib.hid (right_any (h.alloc (.cells #[v] 28)) hs.1 hs.2 (hT.below hR hT.lt))
  have hx0 := RBox.new w v
  have hx := hx0.cell
  have hv := h.alloc (.cells #[v] 28)
  clear h hs
  obtain ⟨p, cap, rfl, hcap, -⟩ := Hid.out hv
  go_enter Tryd.func18, Tryd.ntmps18
  go_wp2_with fail
  refine (hr.out).mono ?_
  rintro e W1 ⟨rfl, hb1⟩
  have hB1 := Lib.hid (hR.trans (hb1.mono hR.size))
  have hv1 := hv.later hb1
  have hx1 := (hx0.later hb1).cell
  clear hx hx0 hv hb1 hr hR
  cases hrr : rightL l with
  | false =>
    have hfin : Hid (cntL l = 0) := by show _ = _; unfold cntL; rw [hrr]; rfl
    clear hrr
    go_wp2
    exact bodyPost_ret (v := .int .i64 0) (by simp [results, Tryd.results18, go_sem]) rfl ⟨by rw [hfin.out], hB1.out⟩
  | true =>
    have hfin : Hid (cntL l = cntF l) := by show _ = _; unfold cntL; rw [hrr]; rfl
    have hrr' := Lib.hid hrr
    have hl := right_len hrr
    obtain ⟨p', cap', hpe, -, hc⟩ := Hid.out hv1
    simp only [Value.slice.injEq] at hpe
    obtain ⟨rfl, -, rfl⟩ := hpe
    have hc' := Lib.hid hc
    clear hrr hc hv1
    go_wp2
    go_loopw [3, 12] (fun n i wr => ∃ (k : Nat) (a : Int), k ≤ l.length ∧ i = .int .i64 k ∧ n = .int .i64 a ∧ Hid (a + cntF (l.drop k) = cntF l) ∧ 0 ≤ a ∧ a ≤ 256 * k ∧ Hid (Below W1.heap.size W1 wr))
      (fun _ i _ => l.length - (intOf i).toNat)
    case atStart => exact ⟨0, 0, Nat.zero_le _, rfl, rfl, by show _ = _; simp, by omega, by omega, Lib.hid (Below.refl _ _)⟩
    case round =>
      obtain ⟨k, a, hk, rfl, rfl, hst, ha0, ha1, hB⟩ := hrel
      by_cases hlt : k < l.length
      · obtain ⟨b, off, rfl, hb, h1, h2, h3⟩ := hc'.out k hlt
        have y1 := (hB.out.cell (p := ⟨b, off + k * 3, none⟩) hb).trans h1
        have y2 := (hB.out.cell (p := ⟨b, off + k * 3 + 1, none⟩) hb).trans h2
        have y3 := (hB.out.cell (p := ⟨b, off + k * 3 + 2, none⟩) hb).trans h3
        have hkd : decide (k < l.length) = true := by simpa using hlt
        have hxs := (right_mem hrr'.out (List.getElem_mem hlt)).2.2
        have hst2 := Lib.hid (cntF_drop hlt)
        clear h1 h2 h3
        generalize l[k] = x at y1 y2 y3 hxs hst2
        obtain ⟨ky, f, D⟩ := x
        simp only at y1 y2 y3 hxs hst2
        have hcr := ci_range f D
        have hB2 := Lib.hid (hB.out.alloc hB.out.size (.cells #[.int .i64 ky, .int .i64 f, .string D] 91))
        have hct := Lib.hid (Count_ci f D (wr.alloc (.cells #[.int .i64 ky, .int .i64 f, .string D] 91)) hxs (hT.below (hB1.out.trans (hB2.out.mono hB1.out.size)) hT.lt))
        generalize ci f D = c at hct hst2 hcr
        go_wp2_with fail
        refine (hct.out).mono ?_
        rintro e W2 ⟨rfl, hb2⟩
        have hB3 := Lib.hid (hB2.out.trans (hb2.mono hB2.out.size))
        have hst3 : Hid (a + c + cntF (l.drop (k + 1)) = cntF l) := by
          show _ = _
          rw [← hst.out, hst2.out]; omega
        clear hb2 hct y1 y2 y3
        go_wp2
        go_roundw
        case rel => exact ⟨k + 1, a + c, by omega, by go_num, rfl, hst3, by omega, by omega, hB3⟩
        case measure => simp [intOf]; omega
      · have hkd : decide (k < l.length) = false := by simpa using hlt
        have hfin2 : Hid (cntF l = a) := by
          show _ = _
          rw [← hst.out, List.drop_eq_nil_of_le (by omega)]; show a + 0 = a; omega
        go_wp2
        exact bodyPost_ret (v := .int .i64 a) (by simp [results, Tryd.results18, go_sem]) rfl ⟨by rw [hfin.out, hfin2.out], hB1.out.trans (hB.out.mono hB1.out.size)⟩

/-- Which number is at a place, from a chunk on. -/
def selF : List Ch → Int → Int × Bool
  | [], _ => (0, false)
  | x :: l, p => if (selRes x.set p).2 = true then (x.key * 256 + (selRes x.set p).1, true) else selF l (p - ci x.form x.data)
def selL (l : List Ch) (p : Int) : Int × Bool := if rightL l = true ∧ 0 ≤ p then selF l p else (0, false)
theorem selF_yes {l : List Ch} {k : Nat} (h : k < l.length) {p m : Int} (he : selRes (ofRes l[k].form l[k].data).1 p = (m, true)) : selF (l.drop k) p = (l[k].key * 256 + m, true) := by
  rw [List.drop_eq_getElem_cons h]
  unfold selF
  change selRes (Ch.set _) p = _ at he
  simp [he]
theorem selF_no {l : List Ch} {k : Nat} (h : k < l.length) {p : Int} (he : selRes (ofRes l[k].form l[k].data).1 p = (0, false)) : selF (l.drop k) p = selF (l.drop (k + 1)) (p - ci l[k].form l[k].data) := by
  rw [List.drop_eq_getElem_cons h]
  conv => lhs; unfold selF
  change selRes (Ch.set _) p = _ at he
  simp [he]
theorem selRes_range (s : Nat) (p : Int) : (∃ m : Nat, m < 256 ∧ selRes s p = ((m : Int), true)) ∨ (selRes s p = (0, false) ∧ (p < 0 ∨ (count s : Int) ≤ p)) := by
  by_cases h : 0 ≤ p ∧ p < (count s : Int)
  · obtain ⟨m, hm, he, _⟩ := sel_in h.1 h.2
    exact .inl ⟨m, hm, he⟩
  · exact .inr ⟨sel_out (by omega), by omega⟩

end Go.Proofs.YtnigpmbpipmgfaaDoor

/-
  roar's Rank, Has.
-/
namespace Go.Proofs.YtnigpmbpipmgfaaDoor
open Go.RowKit Tess

/-- How many numbers are up to n, from a chunk on. -/
def rnkF (n : Int) : List Ch → Int
  | [] => 0
  | x :: l => if x.key < n / 256 then ci x.form x.data + rnkF n l else if x.key = n / 256 then rk x.form x.data (n % 256) + rnkF n l else 0
def rnkL (l : List Ch) (n : Int) : Int := if rightL l = true then rnkF n l else 0
theorem rnkF_lt {l : List Ch} {k : Nat} {n : Int} (h : k < l.length) (h1 : l[k].key < n / 256) : rnkF n (l.drop k) = ci l[k].form l[k].data + rnkF n (l.drop (k + 1)) := by
  rw [List.drop_eq_getElem_cons h]
  conv => lhs; unfold rnkF
  rw [if_pos h1]
theorem rnkF_eq {l : List Ch} {k : Nat} {n : Int} (h : k < l.length) (h1 : l[k].key = n / 256) : rnkF n (l.drop k) = rk l[k].form l[k].data (n % 256) + rnkF n (l.drop (k + 1)) := by
  rw [List.drop_eq_getElem_cons h]
  conv => lhs; unfold rnkF
  rw [if_neg (by omega), if_pos h1]
theorem rnkF_gt {l : List Ch} {k : Nat} {n : Int} (h : k < l.length) (h1 : n / 256 < l[k].key) : rnkF n (l.drop k) = 0 := by
  rw [List.drop_eq_getElem_cons h]
  unfold rnkF
  rw [if_neg (by omega), if_neg (by omega)]

/-! ## Has -/
def hasC (n : Int) (x : Ch) : Bool := x.key == n / 256 && hi x.form x.data (n % 256)
def hasL (l : List Ch) (n : Int) : Bool := rightL l && decide (0 ≤ n) && l.any (hasC n)
/-- The captured number lies in its box. -/
def NBox (W : World) (b : Nat) (n : Int) : Prop := W.heap[b]? = some (.cells #[.int .i64 n] 3 (0, 0))
theorem NBox.lt {W : World} {b : Nat} {n : Int} (h : NBox W b n) : b < W.heap.size := lt_of_heap h
theorem NBox.later {W W' : World} {b : Nat} {n : Int} (h : NBox W b n) (hb : Below W.heap.size W W') : NBox W' b n := (hb.block b h.lt).trans h
theorem NBox.cell {W : World} {b : Nat} {n : Int} (h : NBox W b n) : W.cell? ⟨b, 0, none⟩ = some (.int .i64 n) := by rw [cell_of_row W b 0 _ _ (0, 0) h]; rfl

set_option maxRecDepth 100000 in
set_option maxHeartbeats 2000000 in
theorem has1_any (ky f n : Int) (D : ByteArray) (b : Nat) (w : World) (hn : NBox w b n) (hD : D.size ≤ 1000000) (hT : Tab w) :
    Calls Tryd.prog 87 #[.agg #[.int .i64 ky, .int .i64 f, .string D], .pointer (some ⟨b, 0, none⟩)] w fun e W' => e = .returned (.bool (hasC n ⟨ky, f, D⟩)) ∧ Below w.heap.size w W' := by
  have hR : Below w.heap.size w (w.alloc (.cells #[.int .i64 ky, .int .i64 f, .string D] 91)) := (Below.refl _ w).alloc (Nat.le_refl _) _
  have hk := Lib.hid (Has_hi f D (n % 256) (w.alloc (.cells #[.int .i64 ky, .int .i64 f, .string D] 91)) hD (hT.below hR hT.lt))
  have hn' := (hn.later hR).cell
  have hand := i64_and255 n
  unfold hasC
  simp only
  clear hn
  go_enter Tryd.func87, Tryd.ntmps87
  by_cases c2 : ky = n / 256
  · have c2' : (ky == n / 256) = true := by simpa using c2
    rw [c2']
    clear c2
    go_wp2_with fail
    refine (hk.out).mono ?_
    rintro e W2 ⟨rfl, hb2⟩
    go_wp2
    exact bodyPost_ret (v := .bool (hi f D (n % 256))) (by simp [results, Tryd.results87, go_sem]) rfl ⟨by simp, hR.trans (hb2.mono hR.size)⟩
  · have c2' : (ky == n / 256) = false := by simpa using c2
    rw [c2']
    clear c2
    go_wp2
    exact bodyPost_ret (v := .bool false) (by simp [results, Tryd.results87, go_sem]) rfl ⟨by simp, hR⟩

set_option maxRecDepth 100000 in
set_option maxHeartbeats 2000000 in
theorem indexChunk_any {l : List Ch} {v : Value} (n : Int) (b : Nat) {w : World} (h : HC w v l) (hs : Small l) (hn : NBox w b n) (hT : Tab w) :
    Calls Tryd.prog 106 #[v, .func (.func 87) #[] #[.pointer (some ⟨b, 0, none⟩)]] w fun e W' => (∃ r : Int, e = .returned (.int .i64 r) ∧ decide (0 ≤ r) = l.any (hasC n)) ∧ Below w.heap.size w W' := by
  obtain ⟨p, cap, rfl, -, hc⟩ := Hid.out h
  have hc' := Lib.hid hc
  have hs' := Lib.hid hs
  have hn' := Lib.hid hn
  have hl := hs.1
  clear h hc hs hn
  go_enter Tryd.func106, Tryd.ntmps106
  go_wp2
  go_loopw [8] (fun i wr => ∃ k : Nat, k ≤ l.length ∧ i = .int .i64 k ∧ Hid ((l.take k).any (hasC n) = false) ∧ Hid (Below w.heap.size w wr))
    (fun i _ => l.length - (intOf i).toNat)
  case atStart => exact ⟨0, Nat.zero_le _, rfl, by show _ = _; simp, Lib.hid (Below.refl _ _)⟩
  case round =>
    obtain ⟨k, hk, rfl, hA, hB⟩ := hrel
    by_cases hlt : k < l.length
    · obtain ⟨b', off, rfl, hb, h1, h2, h3⟩ := hc'.out k hlt
      have y1 := (hB.out.cell (p := ⟨b', off + k * 3, none⟩) hb).trans h1
      have y2 := (hB.out.cell (p := ⟨b', off + k * 3 + 1, none⟩) hb).trans h2
      have y3 := (hB.out.cell (p := ⟨b', off + k * 3 + 2, none⟩) hb).trans h3
      have hkd : decide (k < l.length) = true := by simpa using hlt
      have hstep : Hid ((l.take (k + 1)).any (hasC n) = hasC n l[k]) := by
        show _ = _
        rw [List.take_succ_eq_append_getElem hlt, List.any_append, hA.out]; simp
      have hin : Hid (hasC n l[k] = true → l.any (hasC n) = true) := by
        show _ → _
        intro h
        exact List.any_eq_true.2 ⟨l[k], List.getElem_mem hlt, h⟩
      have hxs := hs'.out.2 l[k] (List.getElem_mem hlt)
      clear h1 h2 h3
      generalize l[k] = x at y1 y2 y3 hxs hstep hin
      obtain ⟨ky, f, D⟩ := x
      simp only at y1 y2 y3 hxs
      have hcl := Lib.hid (has1_any ky f n D b wr (hn'.out.later hB.out) hxs (hT.below hB.out hT.lt))
      generalize hasC n ⟨ky, f, D⟩ = q at hcl hstep hin
      go_wp2_with fail
      refine (hcl.out).mono ?_
      rintro e W2 ⟨rfl, hb2⟩
      have hg2 := Lib.hid (hB.out.trans (hb2.mono hB.out.size))
      clear hb2 hcl y1 y2 y3
      cases q with
      | true =>
        have hfin := Lib.hid (hin.out rfl)
        clear hin hstep
        go_wp2
        exact bodyPost_ret (v := .int .i64 k) (by simp [results, Tryd.results106, go_sem]) rfl ⟨⟨_, rfl, by rw [hfin.out]; simp⟩, hg2.out⟩
      | false =>
        clear hin
        go_wp2
        go_roundw
        case rel => exact ⟨k + 1, by omega, by go_num, hstep, hg2⟩
        case measure => simp [intOf]; omega
    · have hge : l.length ≤ k := by omega
      have hkd : decide (k < l.length) = false := by simpa using hlt
      have hall : Hid (l.any (hasC n) = false) := by
        have : l.take k = l := List.take_of_length_le hge
        have h := hA.out
        rw [this] at h
        exact h
      go_wp2
      exact bodyPost_ret (v := .int .i64 (-1)) (by simp [results, Tryd.results106, go_sem]) rfl ⟨⟨_, rfl, by rw [hall.out]; decide⟩, hB.out⟩

theorem containsChunk_any {l : List Ch} {v : Value} (n : Int) (b : Nat) {w : World} (h : HC w v l) (hs : Small l) (hn : NBox w b n) (hT : Tab w) :
    Calls Tryd.prog 86 #[v, .func (.func 87) #[] #[.pointer (some ⟨b, 0, none⟩)]] w fun e W' => e = .returned (.bool (l.any (hasC n))) ∧ Below w.heap.size w W' := by
  have hi := Lib.hid (indexChunk_any n b h hs hn hT)
  clear h hs hn
  generalize l.any (hasC n) = q at hi ⊢
  go_enter Tryd.func86, Tryd.ntmps86
  go_wp2_with fail
  refine (hi.out).mono ?_
  rintro e W2 ⟨⟨r, rfl, hr⟩, hb2⟩
  go_wp2
  exact bodyPost_ret (v := .bool q) (by simp [results, Tryd.results86, go_sem]) rfl ⟨rfl, hb2⟩

set_option maxRecDepth 100000 in
set_option maxHeartbeats 4000000 in
theorem has7_any {l : List Ch} {v : Value} (n : Int) {w : World} (h : HC w v l) (hs : Small l) (hT : Tab w) :
    Calls Tryd.prog 55 #[.agg #[v], .int .i64 n] w fun e W' => e = .returned (.bool (hasL l n)) ∧ Below w.heap.size w W' := by
  have hR : Below w.heap.size w ((w.alloc (.cells #[v] 28)).alloc (.cells #[.int .i64 n] 3)) := ((Below.refl _ w).alloc (Nat.le_refl _) _).alloc (by simp) _
  have hv := (h.alloc (.cells #[v] 28)).alloc (.cells #[.int .i64 n] 3)
  have hr := Lib.hid (right_any hv hs.1 hs.2 (hT.below hR hT.lt))
  have hx0 := (RBox.new w v).alloc (.cells #[.int .i64 n] 3)
  have hx := hx0.cell
  have hn0 : NBox ((w.alloc (.cells #[v] 28)).alloc (.cells #[.int .i64 n] 3)) (w.heap.size + 1) n := by
    have := heap_alloc_new (w.alloc (.cells #[v] 28)) (.cells #[.int .i64 n] 3)
    rw [World.size_alloc] at this; exact this
  have hs' := Lib.hid hs
  clear h hs
  obtain ⟨p, cap, rfl, hcap, -⟩ := Hid.out hv
  have hdef : Hid (hasL l n = (rightL l && decide (0 ≤ n) && l.any (hasC n))) := rfl
  go_enter Tryd.func55, Tryd.ntmps55
  go_wp2_with fail
  refine (hr.out).mono ?_
  rintro e W1 ⟨rfl, hb1⟩
  have hB1 := Lib.hid (hR.trans (hb1.mono hR.size))
  have hv1 := hv.later hb1
  have hx1 := (hx0.later hb1).cell
  have hn1 := hn0.later hb1
  have hn1c := hn1.cell
  have hct := Lib.hid (containsChunk_any n (w.heap.size + 1) hv1 hs'.out hn1 (hT.below hB1.out hT.lt))
  clear hx hx0 hv hb1 hr hR hv1 hn1 hn0
  generalize l.any (hasC n) = q at hct hdef
  generalize rightL l = ok at hdef ⊢
  cases ok with
  | false =>
    go_wp2
    exact bodyPost_ret (v := .bool false) (by simp [results, Tryd.results55, go_sem]) rfl ⟨by rw [hdef.out]; rfl, hB1.out⟩
  | true =>
    by_cases hp0 : n < 0
    · have hd : decide (n < 0) = true := decide_eq_true hp0
      have hfin : Hid (hasL l n = false) := by show _ = _; rw [hdef.out, decide_eq_false (by omega)]; rfl
      clear hdef
      go_wp2
      exact bodyPost_ret (v := .bool false) (by simp [results, Tryd.results55, go_sem]) rfl ⟨by rw [hfin.out], hB1.out⟩
    · have hd : decide (n < 0) = false := decide_eq_false hp0
      have hfin : Hid (hasL l n = q) := by show _ = _; rw [hdef.out, decide_eq_true (by omega)]; simp
      clear hdef
      go_wp2_with fail
      refine (hct.out).mono ?_
      rintro e W2 ⟨rfl, hb2⟩
      go_wp2
      exact bodyPost_ret (v := .bool q) (by simp [results, Tryd.results55, go_sem]) rfl ⟨by rw [hfin.out], hB1.out.trans (hb2.mono hB1.out.size)⟩
end Go.Proofs.YtnigpmbpipmgfaaDoor

/-
  roar's iterator over a bitmap's numbers: for whatever loop body that keeps what lay below n₀, and all cells but its own collecting slice.
-/
namespace Go.Proofs.YtnigpmbpipmgfaaDoor
open Go.RowKit Go.Shelf Tess

attribute [local go_sem] Oper.semAt_some

/-! ## a body that collects into a slice in box B0 -/
def rowOf (W : World) (B0 : Nat) : Option Nat := match W.cell? ⟨B0, 0, none⟩ with | some v => v.ownBlock | none => none
theorem rowOf_cell {W : World} {B0 : Nat} {v : Value} (h : W.cell? ⟨B0, 0, none⟩ = some v) : rowOf W B0 = v.ownBlock := by unfold rowOf; rw [h]
theorem rowOf_block {W W' : World} {B0 : Nat} (h : W'.heap[B0]? = W.heap[B0]?) : rowOf W' B0 = rowOf W B0 := by
  have e : W'.cell? ⟨B0, 0, none⟩ = W.cell? ⟨B0, 0, none⟩ := World.cell?_of_block (a := ⟨B0, 0, none⟩) h
  unfold rowOf; rw [e]
/-- WHAT SUCH A ROUND KEEPS. -/
structure KeepC (n₀ B0 : Nat) (W W' : World) : Prop where
  below : Below n₀ W W'
  cells : ∀ (b : Nat) (cs : Array Value) (t : TypeId) (fr : Nat × Nat), W.heap[b]? = some (.cells cs t fr) → b ≠ B0 → rowOf W B0 ≠ some b → W'.heap[b]? = W.heap[b]?
  row : rowOf W' B0 = rowOf W B0 ∨ ∃ g, rowOf W' B0 = some g ∧ W.heap.size ≤ g ∧ g < W'.heap.size
theorem KeepC.trans {n₀ B0 : Nat} {A B C : World} (h : KeepC n₀ B0 A B) (k : KeepC n₀ B0 B C) : KeepC n₀ B0 A C := by
  refine ⟨h.below.trans k.below, fun b cs t fr hb hne hr => ?_, ?_⟩
  · have e := h.cells b cs t fr hb hne hr
    refine (k.cells b cs t fr (e.trans hb) hne ?_).trans e
    rcases h.row with h1 | ⟨g, h1, h2, _⟩
    · rw [h1]; exact hr
    · rw [h1]; intro e1; cases e1; have := lt_of_heap hb; omega
  · rcases k.row with k1 | ⟨g, k1, k2, k3⟩
    · rcases h.row with h1 | ⟨g, h1, h2, h3⟩
      · exact .inl (k1.trans h1)
      · exact .inr ⟨g, k1.trans h1, h2, Nat.lt_of_lt_of_le h3 k.below.size⟩
    · exact .inr ⟨g, k1, Nat.le_trans h.below.size k2, k3⟩
theorem keepC_b {n₀ B0 : Nat} {w : World} (hn : n₀ ≤ w.heap.size) (hB : B0 < w.heap.size) (W : World) (l : Nat) (o o' : Obj) (hl : w.heap.size ≤ l) (h : W.heap[l]? = some o) (hc : o.isCells = false) (hw : o.isWalk = false) : KeepC n₀ B0 W (W.putObj l o') := by
  refine ⟨belowK_b hn W l o o' hl h hc hw, fun b cs t fr hb hne _ => ?_, .inl (rowOf_block ?_)⟩
  · refine World.putObj_heap_other ?_
    intro e
    subst e
    rw [h] at hb
    cases hb; cases hc
  · exact World.putObj_heap_other (by omega)
/-- The collecting slice lies in a block that is there. -/
def OkB (W : World) (B0 : Nat) : Prop := ∀ g, rowOf W B0 = some g → g < W.heap.size
theorem OkB.keep {n₀ B0 : Nat} {W W' : World} (h : OkB W B0) (k : KeepC n₀ B0 W W') : OkB W' B0 := by
  intro g hg
  rcases k.row with h1 | ⟨g', h1, _, h3⟩
  · rw [h1] at hg; exact Nat.lt_of_lt_of_le (h g hg) k.below.size
  · rw [h1] at hg; cases hg; exact h3
theorem OkB.later {B0 : Nat} {W W' : World} (h : OkB W B0) (hB : B0 < W.heap.size) (hb : Below W.heap.size W W') : OkB W' B0 := by
  intro g hg
  rw [rowOf_block (hb.block B0 hB)] at hg
  exact Nat.lt_of_lt_of_le (h g hg) hb.size
/-- A block of cells that no such round touches. -/
def Safe (W : World) (B0 b : Nat) : Prop := b ≠ B0 ∧ rowOf W B0 ≠ some b ∧ b < W.heap.size
theorem Safe.keep {n₀ B0 b : Nat} {W W' : World} (h : Safe W B0 b) (k : KeepC n₀ B0 W W') : Safe W' B0 b := by
  refine ⟨h.1, ?_, Nat.lt_of_lt_of_le h.2.2 k.below.size⟩
  rcases k.row with h1 | ⟨g', h1, h2, _⟩
  · rw [h1]; exact h.2.1
  · rw [h1]; intro e; cases e; have := h.2.2; omega
theorem Safe.later {B0 b : Nat} {W W' : World} (h : Safe W B0 b) (hB : B0 < W.heap.size) (hb : Below W.heap.size W W') : Safe W' B0 b :=
  ⟨h.1, by rw [rowOf_block (hb.block B0 hB)]; exact h.2.1, Nat.lt_of_lt_of_le h.2.2 hb.size⟩
theorem Safe.new {B0 b : Nat} {W W' : World} (hok : OkB W B0) (hB : B0 < W.heap.size) (hb : Below W.heap.size W W') (h1 : W.heap.size ≤ b) (h2 : b < W'.heap.size) : Safe W' B0 b :=
  ⟨by omega, by rw [rowOf_block (hb.block B0 hB)]; intro e; have := hok b e; omega, h2⟩
theorem KBox.keep {n₀ B0 b : Nat} {W W' : World} {x : Ch} (h : KBox W b x) (hs : Safe W B0 b) (k : KeepC n₀ B0 W W') : KBox W' b x := (k.cells b _ _ _ h hs.1 hs.2.1).trans h
theorem own_keep {n₀ B0 base n size : Nat} {e : TypeId} {W W' : World} {v : Value} {xs : List Value} (h : W.ownsRow base e size v n xs) (hs : ∀ g, v.ownBlock = some g → Safe W B0 g) (k : KeepC n₀ B0 W W') : W'.ownsRow base e size v n xs := by
  refine ⟨h.1, ?_⟩
  rcases h.2 with h0 | ⟨g, cap, cur, rfl, hg, hh, rest⟩
  · exact .inl h0
  · have hs' := hs g rfl
    exact .inr ⟨g, cap, cur, rfl, hg, (k.cells g _ _ _ hh hs'.1 hs'.2.1).trans hh, rest⟩

/-! ## the numbers -/
abbrev N16 := Fin 65536
def vals16 (l : List N16) : List Nat := l.map (·.val)
theorem vals16_snoc (l : List N16) (x : N16) : vals16 (l ++ [x]) = vals16 l ++ [x.val] := by simp [vals16]
/-- A chunk's numbers; those of all chunks. -/
def chN (x : Ch) : List Nat := (nums x.set).map fun m => x.key.toNat * 256 + m
def allN (l : List Ch) : List Nat := l.flatMap chN
theorem allN_take {l : List Ch} {k : Nat} (h : k < l.length) : allN (l.take (k + 1)) = allN (l.take k) ++ chN l[k] := by
  unfold allN; rw [List.take_succ_eq_append_getElem h, List.flatMap_append]; simp
theorem allN_prefix (l : List Ch) (k : Nat) : allN (l.take k) <+: allN l := by
  unfold allN
  conv => rhs; rw [← List.take_append_drop k l, List.flatMap_append]
  exact List.prefix_append _ _
theorem chN_len (x : Ch) : (chN x).length ≤ 256 := by unfold chN; rw [List.length_map]; exact count_le _
theorem allN_len (l : List Ch) : (allN l).length ≤ 256 * l.length := by
  induction l with
  | nil => exact Nat.le_refl _
  | cons x l ih => show (chN x ++ allN l).length ≤ _; rw [List.length_append, List.length_cons]; have := chN_len x; omega

theorem rowVal {W : World} {base : Nat} {v : Value} {s : Nat} (h : W.ownsRow base 3 1 v (nums s).length ((nums s).map iv)) {j : Nat} (hj : j < (nums s).length) : ∃ g cap, v = .slice (some ⟨g, 0, none⟩) (nums s).length cap ∧ W.cell? ⟨g, j, none⟩ = some (.int .i64 (((nums s)[j] : Nat) : Int)) := by
  have h0 := h
  rcases h.2 with ⟨_, h1⟩ | ⟨g, cap, cur, rfl, _, _, _⟩
  · omega
  · refine ⟨g, cap, rfl, ?_⟩
    have hcx := h0.cellAt j (by omega)
    rw [List.getElem?_map, List.getElem?_eq_getElem hj] at hcx
    simpa [iv] using hcx
theorem rowSlice {W : World} {base n : Nat} {e : TypeId} {size : Nat} {v : Value} {xs : List Value} (h : W.ownsRow base e size v n xs) : ∃ p cap, v = .slice p n cap := by
  rcases h.2 with ⟨rfl, rfl⟩ | ⟨g, cap, cur, rfl, _⟩
  · exact ⟨_, _, rfl⟩
  · exact ⟨_, _, rfl⟩

end Go.Proofs.YtnigpmbpipmgfaaDoor
