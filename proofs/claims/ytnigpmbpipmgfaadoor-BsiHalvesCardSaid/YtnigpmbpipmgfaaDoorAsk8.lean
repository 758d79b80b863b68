/-
  roar's Rank, Has.
-/
import Derived.Test.YtnigpmbpipmgfaaDoorAsk7
namespace Go.Proofs.YtnigpmbpipmgfaaDoor
open Go.RowKit Tess

/-- How many numbers are up to n, from a chunk on. -/
def rnkF (n : Int) : List Ch → Int
  | [] => 0
  | x :: l => if x.key < n / 256 then ci x.form x.data + rnkF n l else if x.key = n / 256 then rk x.form x.data (n % 256) + rnkF n l else 0
def rnkL (l : List Ch) (n : Int) : Int := if rightL l = true then rnkF n l else 0
theorem rnkF_lt {l : List Ch} {k : Nat} {n : Int} (h : k < l.length) (h1 : l[k].key < n / 256) : rnkF n (l.drop k) = ci l[k].form l[k].data + rnkF n (l.drop (k + 1)) := by
  rw [List.drop_eq_getElem_cons h]
  conv => lhs; unfold rnkF
  rw [if_pos h1]
theorem rnkF_eq {l : List Ch} {k : Nat} {n : Int} (h : k < l.length) (h1 : l[k].key = n / 256) : rnkF n (l.drop k) = rk l[k].form l[k].data (n % 256) + rnkF n (l.drop (k + 1)) := by
  rw [List.drop_eq_getElem_cons h]
  conv => lhs; unfold rnkF
  rw [if_neg (by omega), if_pos h1]
theorem rnkF_gt {l : List Ch} {k : Nat} {n : Int} (h : k < l.length) (h1 : n / 256 < l[k].key) : rnkF n (l.drop k) = 0 := by
  rw [List.drop_eq_getElem_cons h]
  unfold rnkF
  rw [if_neg (by omega), if_neg (by omega)]

/-! ## Has -/
def hasC (n : Int) (x : Ch) : Bool := x.key == n / 256 && hi x.form x.data (n % 256)
def hasL (l : List Ch) (n : Int) : Bool := rightL l && decide (0 ≤ n) && l.any (hasC n)
/-- The captured number lies in its box. -/
def NBox (W : World) (b : Nat) (n : Int) : Prop := W.heap[b]? = some (.cells #[.int .i64 n] 3 (0, 0))
theorem NBox.lt {W : World} {b : Nat} {n : Int} (h : NBox W b n) : b < W.heap.size := lt_of_heap h
theorem NBox.later {W W' : World} {b : Nat} {n : Int} (h : NBox W b n) (hb : Below W.heap.size W W') : NBox W' b n := (hb.block b h.lt).trans h
theorem NBox.cell {W : World} {b : Nat} {n : Int} (h : NBox W b n) : W.cell? ⟨b, 0, none⟩ = some (.int .i64 n) := by rw [cell_of_row W b 0 _ _ (0, 0) h]; rfl

set_option maxRecDepth 100000 in
set_option maxHeartbeats 2000000 in
theorem has1_any (ky f n : Int) (D : ByteArray) (b : Nat) (w : World) (hn : NBox w b n) (hD : D.size ≤ 1000000) (hT : Tab w) :
    Calls Tryd.prog 87 #[.agg #[.int .i64 ky, .int .i64 f, .string D], .pointer (some ⟨b, 0, none⟩)] w fun e W' => e = .returned (.bool (hasC n ⟨ky, f, D⟩)) ∧ Below w.heap.size w W' := by
  have hR : Below w.heap.size w (w.alloc (.cells #[.int .i64 ky, .int .i64 f, .string D] 91)) := (Below.refl _ w).alloc (Nat.le_refl _) _
  have hk := Lib.hid (Has_hi f D (n % 256) (w.alloc (.cells #[.int .i64 ky, .int .i64 f, .string D] 91)) hD (hT.below hR hT.lt))
  have hn' := (hn.later hR).cell
  have hand := i64_and255 n
  unfold hasC
  simp only
  clear hn
  go_enter Tryd.func87, Tryd.ntmps87
  by_cases c2 : ky = n / 256
  · have c2' : (ky == n / 256) = true := by simpa using c2
    rw [c2']
    clear c2
    go_wp2_with fail
    refine (hk.out).mono ?_
    rintro e W2 ⟨rfl, hb2⟩
    go_wp2
    exact bodyPost_ret (v := .bool (hi f D (n % 256))) (by simp [results, Tryd.results87, go_sem]) rfl ⟨by simp, hR.trans (hb2.mono hR.size)⟩
  · have c2' : (ky == n / 256) = false := by simpa using c2
    rw [c2']
    clear c2
    go_wp2
    exact bodyPost_ret (v := .bool false) (by simp [results, Tryd.results87, go_sem]) rfl ⟨by simp, hR⟩

set_option maxRecDepth 100000 in
set_option maxHeartbeats 2000000 in
theorem indexChunk_any {l : List Ch} {v : Value} (n : Int) (b : Nat) {w : World} (h : HC w v l) (hs : Small l) (hn : NBox w b n) (hT : Tab w) :
    Calls Tryd.prog 106 #[v, .func (.func 87) #[] #[.pointer (some ⟨b, 0, none⟩)]] w fun e W' => (∃ r : Int, e = .returned (.int .i64 r) ∧ decide (0 ≤ r) = l.any (hasC n)) ∧ Below w.heap.size w W' := by
  obtain ⟨p, cap, rfl, -, hc⟩ := Hid.out h
  have hc' := Lib.hid hc
  have hs' := Lib.hid hs
  have hn' := Lib.hid hn
  have hl := hs.1
  clear h hc hs hn
  go_enter Tryd.func106, Tryd.ntmps106
  go_wp2
  go_loopw [8] (fun i wr => ∃ k : Nat, k ≤ l.length ∧ i = .int .i64 k ∧ Hid ((l.take k).any (hasC n) = false) ∧ Hid (Below w.heap.size w wr))
    (fun i _ => l.length - (intOf i).toNat)
  case atStart => exact ⟨0, Nat.zero_le _, rfl, by show _ = _; simp, Lib.hid (Below.refl _ _)⟩
  case round =>
    obtain ⟨k, hk, rfl, hA, hB⟩ := hrel
    by_cases hlt : k < l.length
    · obtain ⟨b', off, rfl, hb, h1, h2, h3⟩ := hc'.out k hlt
      have y1 := (hB.out.cell (p := ⟨b', off + k * 3, none⟩) hb).trans h1
      have y2 := (hB.out.cell (p := ⟨b', off + k * 3 + 1, none⟩) hb).trans h2
      have y3 := (hB.out.cell (p := ⟨b', off + k * 3 + 2, none⟩) hb).trans h3
      have hkd : decide (k < l.length) = true := by simpa using hlt
      have hstep : Hid ((l.take (k + 1)).any (hasC n) = hasC n l[k]) := by
        show _ = _
        rw [List.take_succ_eq_append_getElem hlt, List.any_append, hA.out]; simp
      have hin : Hid (hasC n l[k] = true → l.any (hasC n) = true) := by
        show _ → _
        intro h
        exact List.any_eq_true.2 ⟨l[k], List.getElem_mem hlt, h⟩
      have hxs := hs'.out.2 l[k] (List.getElem_mem hlt)
      clear h1 h2 h3
      generalize l[k] = x at y1 y2 y3 hxs hstep hin
      obtain ⟨ky, f, D⟩ := x
      simp only at y1 y2 y3 hxs
      have hcl := Lib.hid (has1_any ky f n D b wr (hn'.out.later hB.out) hxs (hT.below hB.out hT.lt))
      generalize hasC n ⟨ky, f, D⟩ = q at hcl hstep hin
      go_wp2_with fail
      refine (hcl.out).mono ?_
      rintro e W2 ⟨rfl, hb2⟩
      have hg2 := Lib.hid (hB.out.trans (hb2.mono hB.out.size))
      clear hb2 hcl y1 y2 y3
      cases q with
      | true =>
        have hfin := Lib.hid (hin.out rfl)
        clear hin hstep
        go_wp2
        exact bodyPost_ret (v := .int .i64 k) (by simp [results, Tryd.results106, go_sem]) rfl ⟨⟨_, rfl, by rw [hfin.out]; simp⟩, hg2.out⟩
      | false =>
        clear hin
        go_wp2
        go_roundw
        case rel => exact ⟨k + 1, by omega, by go_num, hstep, hg2⟩
        case measure => simp [intOf]; omega
    · have hge : l.length ≤ k := by omega
      have hkd : decide (k < l.length) = false := by simpa using hlt
      have hall : Hid (l.any (hasC n) = false) := by
        have : l.take k = l := List.take_of_length_le hge
        have h := hA.out
        rw [this] at h
        exact h
      go_wp2
      exact bodyPost_ret (v := .int .i64 (-1)) (by simp [results, Tryd.results106, go_sem]) rfl ⟨⟨_, rfl, by rw [hall.out]; decide⟩, hB.out⟩

theorem containsChunk_any {l : List Ch} {v : Value} (n : Int) (b : Nat) {w : World} (h : HC w v l) (hs : Small l) (hn : NBox w b n) (hT : Tab w) :
    Calls Tryd.prog 86 #[v, .func (.func 87) #[] #[.pointer (some ⟨b, 0, none⟩)]] w fun e W' => e = .returned (.bool (l.any (hasC n))) ∧ Below w.heap.size w W' := by
  have hi := Lib.hid (indexChunk_any n b h hs hn hT)
  clear h hs hn
  generalize l.any (hasC n) = q at hi ⊢
  go_enter Tryd.func86, Tryd.ntmps86
  go_wp2_with fail
  refine (hi.out).mono ?_
  rintro e W2 ⟨⟨r, rfl, hr⟩, hb2⟩
  go_wp2
  exact bodyPost_ret (v := .bool q) (by simp [results, Tryd.results86, go_sem]) rfl ⟨rfl, hb2⟩

set_option maxRecDepth 100000 in
set_option maxHeartbeats 4000000 in
theorem has7_any {l : List Ch} {v : Value} (n : Int) {w : World} (h : HC w v l) (hs : Small l) (hT : Tab w) :
    Calls Tryd.prog 55 #[.agg #[v], .int .i64 n] w fun e W' => e = .returned (.bool (hasL l n)) ∧ Below w.heap.size w W' := by
  have hR : Below w.heap.size w ((w.alloc (.cells #[v] 28)).alloc (.cells #[.int .i64 n] 3)) := ((Below.refl _ w).alloc (Nat.le_refl _) _).alloc (by simp) _
  have hv := (h.alloc (.cells #[v] 28)).alloc (.cells #[.int .i64 n] 3)
  have hr := Lib.hid (right_any hv hs.1 hs.2 (hT.below hR hT.lt))
  have hx0 := (RBox.new w v).alloc (.cells #[.int .i64 n] 3)
  have hx := hx0.cell
  have hn0 : NBox ((w.alloc (.cells #[v] 28)).alloc (.cells #[.int .i64 n] 3)) (w.heap.size + 1) n := by
    have := heap_alloc_new (w.alloc (.cells #[v] 28)) (.cells #[.int .i64 n] 3)
    rw [World.size_alloc] at this; exact this
  have hs' := Lib.hid hs
  clear h hs
  obtain ⟨p, cap, rfl, hcap, -⟩ := Hid.out hv
  have hdef : Hid (hasL l n = (rightL l && decide (0 ≤ n) && l.any (hasC n))) := rfl
  go_enter Tryd.func55, Tryd.ntmps55
  go_wp2_with fail
  refine (hr.out).mono ?_
  rintro e W1 ⟨rfl, hb1⟩
  have hB1 := Lib.hid (hR.trans (hb1.mono hR.size))
  have hv1 := hv.later hb1
  have hx1 := (hx0.later hb1).cell
  have hn1 := hn0.later hb1
  have hn1c := hn1.cell
  have hct := Lib.hid (containsChunk_any n (w.heap.size + 1) hv1 hs'.out hn1 (hT.below hB1.out hT.lt))
  clear hx hx0 hv hb1 hr hR hv1 hn1 hn0
  generalize l.any (hasC n) = q at hct hdef
  generalize rightL l = ok at hdef ⊢
  cases ok with
  | false =>
    go_wp2
    exact bodyPost_ret (v := .bool false) (by simp [results, Tryd.results55, go_sem]) rfl ⟨by rw [hdef.out]; rfl, hB1.out⟩
  | true =>
    by_cases hp0 : n < 0
    · have hd : decide (n < 0) = true := decide_eq_true hp0
      have hfin : Hid (hasL l n = false) := by show _ = _; rw [hdef.out, decide_eq_false (by omega)]; rfl
      clear hdef
      go_wp2
      exact bodyPost_ret (v := .bool false) (by simp [results, Tryd.results55, go_sem]) rfl ⟨by rw [hfin.out], hB1.out⟩
    · have hd : decide (n < 0) = false := decide_eq_false hp0
      have hfin : Hid (hasL l n = q) := by show _ = _; rw [hdef.out, decide_eq_true (by omega)]; simp
      clear hdef
      go_wp2_with fail
      refine (hct.out).mono ?_
      rintro e W2 ⟨rfl, hb2⟩
      go_wp2
      exact bodyPost_ret (v := .bool q) (by simp [results, Tryd.results55, go_sem]) rfl ⟨by rw [hfin.out], hB1.out.trans (hb2.mono hB1.out.size)⟩
end Go.Proofs.YtnigpmbpipmgfaaDoor
