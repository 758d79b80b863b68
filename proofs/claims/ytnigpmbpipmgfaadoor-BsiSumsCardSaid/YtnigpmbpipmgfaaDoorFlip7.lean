/-
  roar's Flip, Span.
-/
import Derived.Test.YtnigpmbpipmgfaaDoorOp7
namespace Go.Proofs.YtnigpmbpipmgfaaDoor
open Go.RowKit Go.MapKept Tess

/-- Where in a key's numbers a bound falls. -/
def fall (x : Int) (k : Nat) : Int := min (max (x - 256 * k) 0) 256
theorem fall_range (x : Int) (k : Nat) : 0 ≤ fall x k ∧ fall x k ≤ 256 := by unfold fall; omega
/-- A key's set, turned. -/
def flipK (s : Nat) (k : Nat) (a b : Int) : Nat := turnTo s (fall a k).toNat (fall b k - fall a k).toNat
/-- What Flip answers. -/
def flipL (l : List Ch) (a b : Int) : List Ch × Int :=
  if rightL l = true ∧ 0 ≤ a ∧ a ≤ 65536 ∧ 0 ≤ b ∧ b ≤ 65536 then (canon (fun k => flipK (setAt l k) k a b), 0) else ([], 70)
theorem flipL_no {l : List Ch} {a b : Int} (h : rightL l = false ∨ a < 0 ∨ 65536 < a ∨ b < 0 ∨ 65536 < b) : flipL l a b = ([], 70) := by
  unfold flipL
  rw [if_neg]
  rintro ⟨h1, h2⟩
  rcases h with h | h
  · rw [h1] at h; cases h
  · omega
theorem flipL_yes {l : List Ch} {a b : Int} (h : rightL l = true) (h2 : 0 ≤ a ∧ a ≤ 65536 ∧ 0 ≤ b ∧ b ≤ 65536) : flipL l a b = (canon (fun k => flipK (setAt l k) k a b), 0) := by
  unfold flipL; rw [if_pos ⟨h, h2⟩]
theorem flipK_lt {s : Nat} (hs : s < big) (k : Nat) (a b : Int) : flipK s k a b < big := by
  have h1 := fall_range a k
  have h2 := fall_range b k
  by_cases h : (fall b k - fall a k).toNat = 0
  · unfold flipK; rw [h]; exact turnTo_lt hs (by omega)
  · exact turnTo_lt hs (by omega)
theorem flRes_fall {f : Int} {D : ByteArray} {s : Nat} (h : ofRes f D = (s, true)) (k : Nat) (a b : Int) : flRes f D (fall a k) (fall b k) = (best (flipK s k a b), 0) := by
  have h1 := fall_range a k
  have h2 := fall_range b k
  unfold flRes flipK
  rw [h, if_pos ⟨rfl, by unfold badSpan; simp; omega⟩]

/-- What lies in memory while Flip works: the bitmap, the result. -/
structure Fl7At (w W : World) (v : Value) (l : List Ch) : Prop where
  fst : RBox W w.heap.size v
  res : RBox W (w.heap.size + 1) (.slice none 0 0)
  hc : HC W v l
  below : Below w.heap.size w W
theorem Fl7At.later {w wr W : World} {v : Value} {l : List Ch} (h : Fl7At w wr v l) (hb : Below wr.heap.size wr W) : Fl7At w W v l :=
  ⟨h.fst.later hb, h.res.later hb, h.hc.later hb, h.below.trans (hb.mono h.below.size)⟩
theorem Fl7At.alloc {w wr : World} {v : Value} {l : List Ch} (h : Fl7At w wr v l) (o : Obj) : Fl7At w (wr.alloc o) v l := h.later ((Below.refl _ wr).alloc (Nat.le_refl _) _)
theorem Fl7At.start {w : World} {v : Value} {l : List Ch} (h : HC w v l) : Fl7At w ((w.alloc (.cells #[v] 28)).alloc (.cells #[.slice none 0 0] 28)) v l := by
  have h3 := RBox.new (w.alloc (.cells #[v] 28)) (.slice none 0 0)
  rw [World.size_alloc] at h3
  exact ⟨(RBox.new w _).alloc _, h3, (h.alloc _).alloc _, ((Below.refl _ w).alloc (Nat.le_refl _) _).alloc (by simp) _⟩
theorem Fl7At.putObj {w W : World} {v : Value} {l : List Ch} (h : Fl7At w W v l) {r : Nat} {F : Nat → Option (Int × ByteArray)} (hm : MapC W r F) (hr : w.heap.size + 2 ≤ r) (o : Obj) : Fl7At w (W.putObj r o) v l := by
  obtain ⟨es, c, hr1, -⟩ := hm
  have hg := grown_putObj W r o
  exact ⟨h.fst.grown hg (by simp; omega), h.res.grown hg (by simp; omega), h.hc.putObj hr1 hr o, below_putObj h.below (by omega) o⟩

set_option maxRecDepth 100000 in
set_option maxHeartbeats 8000000 in
theorem flip7_any (a b : Int) {l : List Ch} {v : Value} {w : World} (h : HC w v l) (hs : Small l) (hT : Tab w) :
    Calls Tryd.prog 14 #[.agg #[v], .int .i64 a, .int .i64 b] w fun e W' => ∃ v', e = .returned (.tuple #[.agg #[v'], .int .i64 (flipL l a b).2]) ∧ HC W' v' (flipL l a b).1 ∧ Below w.heap.size w W' := by
  have hmm := @run_makeMap Tryd.prog
  have hA0 := Fl7At.start h
  have hs' := Lib.hid hs
  have hT' := Lib.hid hT
  have hA1 := Lib.hid (hA0.alloc (.cells #[v] 28))
  have hr0 := heap_alloc_new ((w.alloc (.cells #[v] 28)).alloc (.cells #[.slice none 0 0] 28)) (.cells #[v] 28)
  have hia := Lib.hid (isAll1 (b := ((w.alloc (.cells #[v] 28)).alloc (.cells #[.slice none 0 0] 28)).heap.size) (by simp) (by rw [cell_of_row _ _ 0 _ _ (0, 0) hr0]; rfl) hA1.out.hc hs (hT.below hA1.out.below hT.lt))
  have hca := hA0.fst.cell
  clear hA0 h hs hT hr0
  simp only [World.size_alloc] at hia
  obtain ⟨lo, hlo⟩ : ∃ m : Int, (if b < a then b else a) = m := ⟨_, rfl⟩
  obtain ⟨hi, hhi⟩ : ∃ m : Int, (if a < b then b else a) = m := ⟨_, rfl⟩
  have hlo' := Lib.hid hlo
  have hhi' := Lib.hid hhi
  go_enter Tryd.func14, Tryd.ntmps14
  go_wp2_with fail
  refine (hia.out).mono ?_
  rintro e W1 ⟨rfl, hb1⟩
  have hA2 := Lib.hid (hA1.out.later (hb1.mono (by simp)))
  clear hb1 hia hA1 hca
  have bad : rightL l = false ∨ lo < 0 ∨ 65536 < hi ∨ (rightL l = true ∧ 0 ≤ lo ∧ hi ≤ 65536) := by
    cases rightL l
    · left; rfl
    · right; simp; omega
  rcases bad with hb | hb | hb | ⟨hr, hlo0, hhi0⟩
  · have hno := Lib.hid (flipL_no (a := a) (b := b) (.inl hb))
    rw [hb]
    have rc := hA2.out.res.cell
    have rf := hA2.out.res.frozen
    have hrs := (hA2.out.res.set (.slice none 0 0)).cell
    clear hb
    go_wp2
    refine bodyPost_ret (v := .tuple #[.agg #[.slice none 0 0], .int .i64 70]) ?_ rfl ⟨_, by rw [hno.out], by rw [hno.out]; exact HC.nil _ _ _, hA2.out.below.setCell (p := ⟨w.heap.size + 1, 0, none⟩) (Nat.le_add_right _ _) _⟩
    simp [results, Tryd.results14, go_sem, hrs]
  · have hno := Lib.hid (flipL_no (l := l) (a := a) (b := b) (.inr (by have := hlo'.out; have := hhi'.out; split at * <;> omega)))
    have h1 : decide (lo < 0) = true := decide_eq_true hb
    have rc := hA2.out.res.cell
    have rf := hA2.out.res.frozen
    have hrs := (hA2.out.res.set (.slice none 0 0)).cell
    clear hb
    cases hrr : rightL l
    all_goals
      go_wp2
      all_goals
        refine bodyPost_ret (v := .tuple #[.agg #[.slice none 0 0], .int .i64 70]) ?_ rfl ⟨_, by rw [hno.out], by rw [hno.out]; exact HC.nil _ _ _, hA2.out.below.setCell (p := ⟨w.heap.size + 1, 0, none⟩) (Nat.le_add_right _ _) _⟩
        simp [results, Tryd.results14, go_sem, hrs]
  · have hno := Lib.hid (flipL_no (l := l) (a := a) (b := b) (.inr (by have := hlo'.out; have := hhi'.out; split at * <;> omega)))
    have h1 : decide (65536 < hi) = true := decide_eq_true hb
    have rc := hA2.out.res.cell
    have rf := hA2.out.res.frozen
    have hrs := (hA2.out.res.set (.slice none 0 0)).cell
    clear hb
    cases hrr : rightL l
    all_goals
      go_wp2
      all_goals
        refine bodyPost_ret (v := .tuple #[.agg #[.slice none 0 0], .int .i64 70]) ?_ rfl ⟨_, by rw [hno.out], by rw [hno.out]; exact HC.nil _ _ _, hA2.out.below.setCell (p := ⟨w.heap.size + 1, 0, none⟩) (Nat.le_add_right _ _) _⟩
        simp [results, Tryd.results14, go_sem, hrs]
  · rw [hr]
    have h1 : decide (lo < 0) = false := decide_eq_false (by omega)
    have h2 : decide (65536 < hi) = false := decide_eq_false (by omega)
    have hab : 0 ≤ a ∧ a ≤ 65536 ∧ 0 ≤ b ∧ b ≤ 65536 := by
      have := hlo'.out; have := hhi'.out
      split at * <;> omega
    obtain ⟨ha0, ha1, hb0, hb1⟩ := hab
    have hyes := Lib.hid (flipL_yes hr ⟨ha0, ha1, hb0, hb1⟩)
    have hMb : Hid (∀ k, k < 256 → flipK (setAt l k) k a b < big) := fun k _ => flipK_lt (setAt_lt _ _) _ _ _
    have hstep : Hid (∀ k : Nat, flRes (atC l k).1 (atC l k).2 (fall a k) (fall b k) = (best (flipK (setAt l k) k a b), 0)) := fun k => flRes_fall (atC_ok hr k) k a b
    obtain ⟨M, hM⟩ : ∃ M : Nat → Nat, (fun k => flipK (setAt l k) k a b) = M := ⟨_, rfl⟩
    have hMk : Hid (∀ k : Nat, flRes (atC l k).1 (atC l k).2 (fall a k) (fall b k) = (best (M k), 0)) := fun k => by rw [hstep.out, ← hM]
    have hMb' : Hid (∀ k, k < 256 → M k < big) := fun k hk => by rw [← hM]; exact hMb.out k hk
    rw [hM] at hyes
    have hM4 : Hid (MapC (W1.alloc (.map #[] 0)) W1.heap.size (upF M 0)) := by rw [upF_zero]; exact MapC.made W1
    have hA3 := Lib.hid (hA2.out.alloc (.map #[] 0))
    have hsz1 : Hid (w.heap.size + 2 ≤ W1.heap.size) := hA2.out.res.lt
    clear hMb hstep hM hA2 hr
    go_wp2
    clear h1 h2 hlo hhi hlo0 hhi0 hmm
    go_loopw [31] (fun i wr => ∃ (k : Nat), k ≤ 256 ∧ i = .int .i64 k ∧ Hid (Fl7At w wr v l) ∧ Hid (MapC wr W1.heap.size (upF M k)))
      (fun i _ => 256 - (intOf i).toNat)
    case atStart => exact ⟨0, Nat.zero_le _, rfl, hA3, hM4⟩
    case round =>
      obtain ⟨k, hk, rfl, hA, hMp⟩ := hrel
      clear hA3 hM4
      by_cases hlt : k < 256
      · have hkd : decide ((k : Int) < 256) = true := by simp; omega
        have ca := hA.out.fst.cell
        obtain ⟨ma, hma⟩ : ∃ m : Int, (if a - (k : Int) * 256 < 0 then 0 else a - (k : Int) * 256) = m := ⟨_, rfl⟩
        obtain ⟨fa, hfa⟩ : ∃ m : Int, (if 256 < ma then 256 else ma) = m := ⟨_, rfl⟩
        obtain ⟨mb, hmb⟩ : ∃ m : Int, (if b - (k : Int) * 256 < 0 then 0 else b - (k : Int) * 256) = m := ⟨_, rfl⟩
        obtain ⟨fb, hfb⟩ : ∃ m : Int, (if 256 < mb then 256 else mb) = m := ⟨_, rfl⟩
        have efa : fa = fall a k := by unfold fall; rw [← hfa, ← hma]; split <;> split <;> omega
        have efb : fb = fall b k := by unfold fall; rw [← hfb, ← hmb]; split <;> split <;> omega
        obtain ⟨pa, hpa⟩ : ∃ p, atC l k = p := ⟨_, rfl⟩
        obtain ⟨f, D⟩ := pa
        have hD : D.size ≤ 1000000 := by have := atC_size hs'.out.2 k; rw [hpa] at this; exact this
        have hres := hMk.out k
        rw [hpa, ← efa, ← efb] at hres
        have hres' := Lib.hid hres
        have hk1 := Lib.hid (at_k (Lib.hid hpa) hA.out.hc hs'.out.1)
        have hput := Lib.hid (upF_put M k)
        have hat := Lib.hid (upF_at M k)
        clear hpa hres efa efb
        generalize best (M k) = c at hres' hput
        go_wp2_with fail
        refine (hk1.out).mono ?_
        rintro e W2 ⟨rfl, hb2⟩
        have hA2 := Lib.hid (hA.out.later hb2)
        have hM2 := Lib.hid (hMp.out.later hb2)
        have hk2 := flip_any f D fa fb W2 hD (hT'.out.below hA2.out.below hT'.out.lt)
        rw [hres'.out] at hk2
        have hk2' := Lib.hid hk2
        clear hk1 hk2 hb2 hA hMp ca
        go_wp2_with fail
        refine (hk2'.out).mono ?_
        rintro e W3 ⟨rfl, hb3⟩
        have hA3 := hA2.out.later hb3
        have hM3 := hM2.out.later hb3
        obtain ⟨o, hrun, hm2⟩ := hM3.insert Tryd.underlying73 Tryd.underlying3 c.form (bs c.data) hat.out
        have hA4 := Lib.hid (hA3.putObj hM3 hsz1.out o)
        have hm4 := Lib.hid hm2
        clear hk2' hb3 hA2 hM2 hA3 hM3 hm2 hma hmb hfa hfb
        simp only [cv]
        go_wp2
        go_roundw
        case rel => exact ⟨k + 1, by omega, by go_num, hA4, by rw [← hput.out]; exact hm4⟩
        case measure => simp [intOf]; omega
      · have hkd : decide ((k : Int) < 256) = false := by simp; omega
        obtain rfl : k = 256 := by omega
        have hof := Lib.hid (of7_any hMp.out (upF_size M 256) (hT'.out.below hA.out.below hT'.out.lt))
        rw [ofTo_up hMb'.out] at hof
        go_wp2_with fail
        refine (hof.out).mono ?_
        rintro e W2 ⟨v', rfl, hv, hb2⟩
        have hA2 := hA.out.later hb2
        have rc := hA2.res.cell
        have rf := hA2.res.frozen
        have hB2 := Lib.hid hA2.below
        obtain ⟨p, cap, rfl, -, -⟩ := Hid.out hv
        have hv2 := Lib.hid (hv.setR hA2.res (.slice p (canon M).length cap))
        have hrs := (hA2.res.set (.slice p (canon M).length cap)).cell
        clear hv hb2 hA2 hof
        go_wp2
        refine bodyPost_ret (v := .tuple #[.agg #[.slice p (canon M).length cap], .int .i64 0]) ?_ rfl ⟨_, by rw [hyes.out], by rw [hyes.out]; exact hv2.out, hB2.out.setCell (p := ⟨w.heap.size + 1, 0, none⟩) (Nat.le_add_right _ _) _⟩
        simp [results, Tryd.results14, go_sem, hrs]

/-- What Span answers. -/
def spanL (a b : Int) : List Ch × Int := flipL [] a b
theorem span7_any (a b : Int) {w : World} (hT : Tab w) :
    Calls Tryd.prog 15 #[.int .i64 a, .int .i64 b] w fun e W' => ∃ v', e = .returned (.tuple #[.agg #[v'], .int .i64 (spanL a b).2]) ∧ HC W' v' (spanL a b).1 ∧ Below w.heap.size w W' := by
  have hR : Below w.heap.size w (w.alloc (.cells #[.slice none 0 0] 28)) := (Below.refl _ w).alloc (Nat.le_refl _) _
  have hk := flip7_any a b (HC.nil (w.alloc (.cells #[.slice none 0 0] 28)) none 0) small_nil (hT.below hR hT.lt)
  change Calls _ _ _ _ fun e W' => ∃ v', e = .returned (.tuple #[.agg #[v'], .int .i64 (spanL a b).2]) ∧ HC W' v' (spanL a b).1 ∧ _ at hk
  have hk' := Lib.hid hk
  have hx := RBox.new w (.slice none 0 0)
  clear hk
  generalize spanL a b = r at hk' ⊢
  go_enter Tryd.func15, Tryd.ntmps15
  go_wp2_with fail
  refine (hk'.out).mono ?_
  rintro e W2 ⟨v', rfl, hv, hb2⟩
  have hx2 := hx.later hb2
  have rc := hx2.cell
  have rf := hx2.frozen
  have hB2 := hR.trans (hb2.mono hR.size)
  obtain ⟨p, cap, rfl, -, -⟩ := Hid.out hv
  have hv2 := Lib.hid (hv.setR hx2 (.slice p r.1.length cap))
  have hrs := (hx2.set (.slice p r.1.length cap)).cell
  clear hv hb2 hk' hx hx2
  go_wp2
  refine bodyPost_ret (v := .tuple #[.agg #[.slice p r.1.length cap], .int .i64 r.2]) ?_ rfl ⟨_, rfl, hv2.out, hB2.setCell (p := ⟨w.heap.size, 0, none⟩) (Nat.le_refl _) _⟩
  simp [results, Tryd.results15, go_sem, hrs]
end Go.Proofs.YtnigpmbpipmgfaaDoor
