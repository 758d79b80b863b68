/-
  The reference's Flip, Span of a bitmap.
-/
import Derived.Test.YtalnfbkmlllfhaaDoorRVals7
namespace Go.Proofs.YtalnfbkmlllfhaaDoor
open Go.RowKit Tess

/-- A result's box, truths, the world below. -/
structure ResB (w W : World) (b g : Nat) (B : Nat → Bool) : Prop where
  res : RBox W b (.slice none 0 0)
  bo : Bo W g B
  below : Below w.heap.size w W
  far : w.heap.size ≤ b ∧ b < g
theorem ResB.later {w wr W : World} {b g : Nat} {B : Nat → Bool} (h : ResB w wr b g B) (hb : Below wr.heap.size wr W) : ResB w W b g B :=
  ⟨h.res.later hb, h.bo.later hb, h.below.trans (hb.mono h.below.size), h.far⟩
theorem ResB.congr {w wr : World} {b g : Nat} {B B' : Nat → Bool} (h : ResB w wr b g B) (hB : ∀ n, n < 65536 → B n = B' n) : ResB w wr b g B' := ⟨h.res, h.bo.congr hB, h.below, h.far⟩
theorem ResB.put {w wr : World} {b g : Nat} {B : Nat → Bool} (h : ResB w wr b g B) {i : Nat} (hi : i < 65536) (u : Bool) : ResB w (wr.setCell ⟨g, i, none⟩ (.bool u)) b g (fun j => if j = i then u else B j) :=
  ⟨h.res.far (by have := h.far; show b ≠ g; omega) _, h.bo.set hi u, h.below.setCell (p := ⟨g, i, none⟩) (by have := h.far; show w.heap.size ≤ g; omega) _, h.far⟩
theorem ResB.drew {w wr : World} {b g : Nat} {B : Nat → Bool} (h : ResB w wr b g B) : ResB w wr.drew b g B := h.later (Below.drew (Below.refl _ _))

/-- Truths turned from A up to n. -/
def turnB (B : Nat → Bool) (A n : Nat) : Nat → Bool := fun m => B m ^^ decide (A ≤ m ∧ m < n)
theorem turnB_start (B : Nat → Bool) (A m : Nat) : turnB B A A m = B m := by
  unfold turnB
  rw [decide_eq_false (by omega), Bool.xor_false]
theorem turnB_step {B : Nat → Bool} {A n : Nat} (h : A ≤ n) (m : Nat) : turnB B A (n + 1) m = if m = n then !(turnB B A n n) else turnB B A n m := by
  unfold turnB
  by_cases e : m = n
  · subst e
    rw [if_pos rfl, decide_eq_true (show A ≤ m ∧ m < m + 1 by omega), decide_eq_false (show ¬ (A ≤ m ∧ m < m) by omega)]
    cases B m <;> rfl
  · rw [if_neg e]
    congr 1
    congr 1
    apply propext
    omega
theorem flipL_ofB {l : List Ch} {A C : Nat} (hl : rightL l = true) (hA : A ≤ 65536) (hC : C ≤ 65536) : flipL l A C = (ofB (turnB (bitR l) A (max A C)), 0) := by
  obtain ⟨r, er, hr, br⟩ := flip_some (a := A) (b := C) hl (by omega)
  rw [er]
  congr 1
  refine ext_bits hr (ofB_right _) fun n hn => ?_
  rw [br n hn, ofB_bit hn]
  unfold turnB
  rw [bitR_right hl hn]
  congr 1
  congr 1
  apply propext
  omega

set_option maxRecDepth 100000 in
set_option maxHeartbeats 8000000 in
theorem rflip7_any (a b : Int) {l : List Ch} {v : Value} {w : World} (h : HC w v l) (hs : Small l) :
    Calls Tryd.prog 15 #[.agg #[v], .int .i64 a, .int .i64 b] w fun e W' => ∃ v', e = .returned (.tuple #[.agg #[v'], .int .i64 (flipL l a b).2]) ∧ HC W' v' (flipL l a b).1 ∧ Below w.heap.size w W' := by
  have hR := Lib.hid ((RB.new h).alloc (.cells #[.slice none 0 0] 24))
  have hB := Lib.hid (((Below.refl w.heap.size w).alloc (Nat.le_refl _) (.cells #[v] 24)).alloc (by simp) (.cells #[.slice none 0 0] 24))
  have hr0 := RBox.new (w.alloc (.cells #[v] 24)) (.slice none 0 0)
  rw [World.size_alloc] at hr0
  have hr := Lib.hid hr0
  have hx := hR.out.box.cell
  have k1 := Lib.hid (rright7_any hR.out.chs hs)
  have hs' := Lib.hid hs
  clear h hs hr0
  go_enter Tryd.func15, Tryd.ntmps15
  go_wp2_with fail
  refine (k1.out).mono ?_
  rintro e W1 ⟨rfl, hb1⟩
  have hB1 := Lib.hid (hB.out.trans (hb1.mono hB.out.size))
  have hR1 := Lib.hid (hR.out.later hb1)
  have hr1 := Lib.hid (hr.out.later hb1)
  have hx1 := hR1.out.box.cell
  clear k1 hb1 hx hR hB hr
  have rc1 := hr1.out.cell
  have rf1 := hr1.out.frozen
  have hbad : Hid (flipL l a b = ([], 70) → ∃ v', (∃ W', W' = W1.setCell ⟨w.heap.size + 1, 0, none⟩ (.slice none 0 0) ∧ v' = Value.slice none 0 0 ∧ HC W' v' (flipL l a b).1 ∧ Below w.heap.size w W')) := Lib.hid fun e => ⟨_, _, rfl, rfl, by rw [e]; exact HC.nil _ _ _, hB1.out.setCell (p := ⟨w.heap.size + 1, 0, none⟩) (Nat.le_succ _) _⟩
  have hrs := (hr1.out.set (.slice none 0 0)).cell
  cases hrr : rightL l with
  | false =>
    have hfin := Lib.hid (flipL_no (a := a) (b := b) (.inl hrr))
    clear hrr hbad
    go_wp2
    refine bodyPost_ret (v := .tuple #[.agg #[.slice none 0 0], .int .i64 70]) ?_ rfl ⟨_, by rw [hfin.out], by rw [hfin.out]; exact HC.nil _ _ _, hB1.out.setCell (p := ⟨w.heap.size + 1, 0, none⟩) (Nat.le_succ _) _⟩
    simp [results, Tryd.results15, go_sem, hrs]
  | true =>
    have hrr' := Lib.hid hrr
    by_cases hab : 0 ≤ a ∧ a ≤ 65536 ∧ 0 ≤ b ∧ b ≤ 65536
    rotate_left
    · have hfin := Lib.hid (flipL_no (l := l) (a := a) (b := b) (.inr (by omega)))
      clear hrr hbad
      have fin : ∀ {P : Prop}, P → P := fun h => h
      by_cases q1 : a < 0
      · have q1' : decide (a < 0) = true := by simpa using q1
        clear hab
        go_wp2
        refine bodyPost_ret (v := .tuple #[.agg #[.slice none 0 0], .int .i64 70]) ?_ rfl ⟨_, by rw [hfin.out], by rw [hfin.out]; exact HC.nil _ _ _, hB1.out.setCell (p := ⟨w.heap.size + 1, 0, none⟩) (Nat.le_succ _) _⟩
        simp [results, Tryd.results15, go_sem, hrs]
      · have q1' : decide (a < 0) = false := by simpa using q1
        by_cases q2 : 65536 < a
        · have q2' : decide (a > 65536) = true := by simpa using q2
          clear hab
          go_wp2
          refine bodyPost_ret (v := .tuple #[.agg #[.slice none 0 0], .int .i64 70]) ?_ rfl ⟨_, by rw [hfin.out], by rw [hfin.out]; exact HC.nil _ _ _, hB1.out.setCell (p := ⟨w.heap.size + 1, 0, none⟩) (Nat.le_succ _) _⟩
          simp [results, Tryd.results15, go_sem, hrs]
        · have q2' : decide (a > 65536) = false := by simpa using q2
          by_cases q3 : b < 0
          · have q3' : decide (b < 0) = true := by simpa using q3
            clear hab
            go_wp2
            refine bodyPost_ret (v := .tuple #[.agg #[.slice none 0 0], .int .i64 70]) ?_ rfl ⟨_, by rw [hfin.out], by rw [hfin.out]; exact HC.nil _ _ _, hB1.out.setCell (p := ⟨w.heap.size + 1, 0, none⟩) (Nat.le_succ _) _⟩
            simp [results, Tryd.results15, go_sem, hrs]
          · have q3' : decide (b < 0) = false := by simpa using q3
            have q4 : 65536 < b := by omega
            have q4' : decide (b > 65536) = true := by simpa using q4
            clear hab
            go_wp2
            refine bodyPost_ret (v := .tuple #[.agg #[.slice none 0 0], .int .i64 70]) ?_ rfl ⟨_, by rw [hfin.out], by rw [hfin.out]; exact HC.nil _ _ _, hB1.out.setCell (p := ⟨w.heap.size + 1, 0, none⟩) (Nat.le_succ _) _⟩
            simp [results, Tryd.results15, go_sem, hrs]
    · obtain ⟨A, rfl⟩ : ∃ A : Nat, a = A := ⟨a.toNat, by omega⟩
      obtain ⟨C, rfl⟩ : ∃ C : Nat, b = C := ⟨b.toNat, by omega⟩
      have hAle : A ≤ 65536 := by omega
      have hCle : C ≤ 65536 := by omega
      have hfin := Lib.hid (flipL_ofB hrr hAle hCle)
      have q1 : decide ((A : Int) < 0) = false := by simp
      have q2 : decide ((A : Int) > 65536) = false := by simp; omega
      have q3 : decide ((C : Int) < 0) = false := by simp
      have q4 : decide ((C : Int) > 65536) = false := by simp; omega
      clear hab hbad hrr hrs rc1 rf1
      have k2 := Lib.hid (rset_any hR1.out.chs hs'.out)
      go_wp2_with fail
      refine (k2.out).mono ?_
      rintro e W2 ⟨g, rfl, hBo, hg, hb2⟩
      have hM0 : Hid (ResB w W2 (w.heap.size + 1) g (turnB (bitR l) A A)) := Lib.hid ⟨hr1.out.later hb2, hBo.congr fun n _ => (turnB_start _ _ _).symm, hB1.out.trans (hb2.mono hB1.out.size), by omega, by have := hr1.out.lt; omega⟩
      clear k2 hb2 hBo hx1 hR1 hB1 hr1 q1 q2 q3 q4
      go_wp2
      go_loopw [9] (fun i wr => ∃ n : Nat, i = .int .i64 n ∧ A ≤ n ∧ n ≤ max A C ∧ Hid (ResB w wr (w.heap.size + 1) g (turnB (bitR l) A n)))
        (fun i _ => C - (intOf i).toNat)
      case atStart => exact ⟨A, rfl, Nat.le_refl _, by omega, hM0⟩
      case round =>
        obtain ⟨n, rfl, hAn, hn, hM⟩ := hrel
        clear hM0
        by_cases hlt : n < C
        · have hjd : decide ((n : Int) < (C : Int)) = true := by simp; omega
          have hn6 : n < 65536 := by omega
          have hcl := hM.out.bo.cell hn6
          have hfr := hM.out.bo.frozen n
          have hj0 : (0 : Int) ≤ (n : Int) := by omega
          have hj1 : (n : Int) < 65536 := by omega
          have hput : Hid (ResB w (wr.setCell ⟨g, n, none⟩ (.bool (!(turnB (bitR l) A n n)))) (w.heap.size + 1) g (turnB (bitR l) A (n + 1))) := Lib.hid ((hM.out.put hn6 _).congr fun m _ => (turnB_step hAn m).symm)
          generalize turnB (bitR l) A n n = t at hcl hput
          clear hM
          go_wp2
          go_roundw
          case rel => exact ⟨n + 1, by go_num, by omega, by omega, hput⟩
          case measure => simp [intOf]; omega
        · have hjd : decide ((n : Int) < (C : Int)) = false := by simp; omega
          obtain rfl : n = max A C := by omega
          have k3 := Lib.hid (rof_any hM.out.bo)
          generalize turnB (bitR l) A (max A C) = T at hM k3 hfin
          generalize max A C = n at *
          go_wp2_with fail
          refine (k3.out).mono ?_
          rintro e W3 ⟨v3, rfl, hv3, hb3⟩
          obtain ⟨p3, c3, rfl, -, -⟩ := Hid.out hv3
          have hM3 := Lib.hid (hM.out.later hb3)
          have rc3 := hM3.out.res.cell
          have rf3 := hM3.out.res.frozen
          clear k3 hb3
          go_wp2
          have hrs := (hM3.out.res.set (.slice p3 (ofB T).length c3)).cell
          refine bodyPost_ret (v := .tuple #[.agg #[.slice p3 (ofB T).length c3], .int .i64 0]) ?_ rfl ⟨_, by rw [hfin.out], by rw [hfin.out]; exact hv3.setR hM3.out.res _, hM3.out.below.setCell (p := ⟨w.heap.size + 1, 0, none⟩) (Nat.le_succ _) _⟩
          simp [results, Tryd.results15, go_sem, hrs]

set_option maxRecDepth 100000 in
set_option maxHeartbeats 4000000 in
theorem rspan7_any (a b : Int) {w : World} :
    Calls Tryd.prog 17 #[.int .i64 a, .int .i64 b] w fun e W' => ∃ v', e = .returned (.tuple #[.agg #[v'], .int .i64 (spanL a b).2]) ∧ HC W' v' (spanL a b).1 ∧ Below w.heap.size w W' := by
  have hB := Lib.hid ((Below.refl w.heap.size w).alloc (Nat.le_refl _) (.cells #[.slice none 0 0] 24))
  have hr := Lib.hid (RBox.new w (.slice none 0 0))
  have k1 := Lib.hid (rflip7_any a b (HC.nil (w.alloc (.cells #[.slice none 0 0] 24)) none 0) small_nil)
  change Hid (Calls _ _ _ _ fun e W' => ∃ v', e = .returned (.tuple #[.agg #[v'], .int .i64 (spanL a b).2]) ∧ HC W' v' (spanL a b).1 ∧ _) at k1
  obtain ⟨r, n, hrn⟩ : ∃ r n, spanL a b = (r, n) := ⟨_, _, rfl⟩
  rw [hrn] at k1 ⊢
  clear hrn
  go_enter Tryd.func17, Tryd.ntmps17
  go_wp2_with fail
  refine (k1.out).mono ?_
  rintro e W1 ⟨v1, rfl, hv1, hb1⟩
  obtain ⟨p3, c3, rfl, -, -⟩ := Hid.out hv1
  have hB1 := Lib.hid (hB.out.trans (hb1.mono hB.out.size))
  have hr1 := Lib.hid (hr.out.later hb1)
  have rc1 := hr1.out.cell
  have rf1 := hr1.out.frozen
  clear k1 hb1 hB hr
  go_wp2
  have hrs := (hr1.out.set (.slice p3 r.length c3)).cell
  refine bodyPost_ret (v := .tuple #[.agg #[.slice p3 r.length c3], .int .i64 n]) ?_ rfl ⟨_, rfl, hv1.setR hr1.out _, hB1.out.setCell (p := ⟨w.heap.size, 0, none⟩) (Nat.le_refl _) _⟩
  simp [results, Tryd.results17, go_sem, hrs]
end Go.Proofs.YtalnfbkmlllfhaaDoor
