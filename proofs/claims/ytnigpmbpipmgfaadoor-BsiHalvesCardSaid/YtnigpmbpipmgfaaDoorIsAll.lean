/-
  roar's isAll.
-/
import Derived.Test.YtnigpmbpipmgfaaDoorOf7
namespace Go.Proofs.YtnigpmbpipmgfaaDoor
open Go.RowKit Tess

/-- Chunks that no machine finds too many, with bytes that no container's walk finds too long. -/
def Small (l : List Ch) : Prop := l.length ≤ 4611686018427387904 ∧ ∀ x ∈ l, x.data.size ≤ 1000000
theorem small_canon {M : Nat → Nat} {a n : Nat} (hn : n ≤ 256) : Small (canonFrom M a n) := by
  refine ⟨Nat.le_trans (canonFrom_len _ _ _) (by omega), fun x hx => ?_⟩
  unfold canonFrom at hx
  obtain ⟨k, _, hk⟩ := List.mem_filterMap.1 hx
  split at hk
  · cases hk
  · cases hk
    show (bs (best (M k)).data).size ≤ _
    rw [bs_size]
    exact Nat.le_trans (best_length_le _) (by decide)
theorem small_right {l : List Ch} (h : rightL l = true) : Small l := by rw [right_canon h]; exact small_canon (by decide)
theorem small_nil : Small [] := ⟨Nat.zero_le _, fun x hx => by cases hx⟩

theorem notRight_any {l : List Ch} {v : Value} {w : World} (h : HC w v l) (hs : Small l) (hT : Tab w) :
    Calls Tryd.prog 78 #[.agg #[v]] w fun e W' => e = .returned (.bool (!rightL l)) ∧ Below w.heap.size w W' := by
  have hR : Below w.heap.size w (w.alloc (.cells #[v] 28)) := (Below.refl _ w).alloc (Nat.le_refl _) _
  have hr := Lib.hid (right_any (h.alloc (.cells #[v] 28)) hs.1 hs.2 (hT.below hR hT.lt))
  have hx := (RBox.new w v).cell
  obtain ⟨p, cap, rfl, -, -⟩ := Hid.out h
  clear h
  go_enter Tryd.func78, Tryd.ntmps78
  go_wp2_with fail
  refine (hr.out).mono ?_
  rintro e W2 ⟨rfl, hb2⟩
  go_wp2
  exact bodyPost_ret (v := .bool (!rightL l)) (by simp [results, Tryd.results78, go_sem]) rfl ⟨rfl, hR.trans (hb2.mono hR.size)⟩

/-- The slice's cells hold bitmaps. -/
def Roars (W : World) (b off : Nat) (rs : List (Value × List Ch)) : Prop :=
  b < W.heap.size ∧ ∀ j (hj : j < rs.length), W.cell? ⟨b, off + j, none⟩ = some rs[j].1 ∧ HC W rs[j].1 rs[j].2 ∧ Small rs[j].2
theorem Roars.later {W W' : World} {b off : Nat} {rs : List (Value × List Ch)} (h : Roars W b off rs) (hb : Below W.heap.size W W') : Roars W' b off rs :=
  ⟨Nat.lt_of_lt_of_le h.1 hb.size, fun j hj => by
    obtain ⟨h1, h2, h3⟩ := h.2 j hj
    exact ⟨(hb.cell (p := ⟨b, off + j, none⟩) h.1).trans h1, h2.later hb, h3⟩⟩

set_option maxRecDepth 100000 in
set_option maxHeartbeats 2000000 in
theorem indexRoar_any (rs : List (Value × List Ch)) (b off cap : Nat) (w : World) (h : Roars w b off rs) (hl : rs.length ≤ 4611686018427387904) (hT : Tab w) :
    Calls Tryd.prog 102 #[.slice (some ⟨b, off, none⟩) rs.length cap, .func (.func 78) #[] #[]] w fun e W' => (∃ r : Int, e = .returned (.int .i64 r) ∧ decide (0 ≤ r) = !rs.all fun p => rightL p.2) ∧ Below w.heap.size w W' := by
  have h0 := Lib.hid h
  clear h
  go_enter Tryd.func102, Tryd.ntmps102
  go_wp2
  go_loopw [8] (fun i wr => ∃ k : Nat, k ≤ rs.length ∧ i = .int .i64 k ∧ Hid (((rs.take k).all fun p => rightL p.2) = true) ∧ Hid (Below w.heap.size w wr) ∧ Hid (Roars wr b off rs))
    (fun i _ => rs.length - (intOf i).toNat)
  case atStart => exact ⟨0, Nat.zero_le _, rfl, by show _ = _; simp, Lib.hid (Below.refl _ _), h0⟩
  case round =>
    obtain ⟨k, hk, rfl, hA, hB, hRs⟩ := hrel
    clear h0
    by_cases hlt : k < rs.length
    · obtain ⟨hcx, hv, hs⟩ := hRs.out.2 k hlt
      have hkd : decide (k < rs.length) = true := by simpa using hlt
      have hstep : Hid (((rs.take (k + 1)).all fun p => rightL p.2) = rightL rs[k].2) := by
        show _ = _
        rw [List.take_succ_eq_append_getElem hlt, List.all_append, hA.out]; simp
      have hin : Hid (rightL rs[k].2 = false → (rs.all fun p => rightL p.2) = false) := by
        show _ → _
        intro h
        exact List.all_eq_false.2 ⟨rs[k], List.getElem_mem hlt, by simp [h]⟩
      have hcl := Lib.hid (notRight_any hv hs (hT.below hB.out hT.lt))
      generalize rs[k] = x at hcx hstep hin hcl
      obtain ⟨v, l⟩ := x
      simp only at hcx hcl hstep hin
      clear hv hs
      go_wp2_with fail
      refine (hcl.out).mono ?_
      rintro e W2 ⟨rfl, hb2⟩
      have hg2 := Lib.hid (hB.out.trans (hb2.mono hB.out.size))
      have hRs2 := Lib.hid (hRs.out.later hb2)
      clear hb2 hcx hcl
      cases hn : rightL l with
      | false =>
        have hfin := Lib.hid (hin.out hn)
        clear hin hn hstep
        go_wp2
        exact bodyPost_ret (v := .int .i64 k) (by simp [results, Tryd.results102, go_sem]) rfl ⟨⟨_, rfl, by rw [hfin.out]; simp⟩, hg2.out⟩
      | true =>
        rw [hn] at hstep
        clear hin hn
        go_wp2
        go_roundw
        case rel => exact ⟨k + 1, by omega, by go_num, hstep, hg2, hRs2⟩
        case measure => simp [intOf]; omega
    · have hge : rs.length ≤ k := by omega
      have hkd : decide (k < rs.length) = false := by simpa using hlt
      have hall : Hid ((rs.all fun p => rightL p.2) = true) := by
        have : rs.take k = rs := List.take_of_length_le hge
        have h := hA.out
        rw [this] at h
        exact h
      go_wp2
      exact bodyPost_ret (v := .int .i64 (-1)) (by simp [results, Tryd.results102, go_sem]) rfl ⟨⟨_, rfl, by rw [hall.out]; decide⟩, hB.out⟩

theorem isAll_any (rs : List (Value × List Ch)) (b off cap : Nat) (w : World) (h : Roars w b off rs) (hl : rs.length ≤ 4611686018427387904) (hT : Tab w) :
    Calls Tryd.prog 44 #[.slice (some ⟨b, off, none⟩) rs.length cap] w fun e W' => e = .returned (.bool (rs.all fun p => rightL p.2)) ∧ Below w.heap.size w W' := by
  have hc : Hid (Calls Tryd.prog 77 #[.slice (some ⟨b, off, none⟩) rs.length cap, .func (.func 78) #[] #[]] w fun e W' => e = .returned (.bool (!rs.all fun p => rightL p.2)) ∧ Below w.heap.size w W') := by
    have hi := Lib.hid (indexRoar_any rs b off cap w h hl hT)
    show Calls _ _ _ _ _
    clear h
    go_enter Tryd.func77, Tryd.ntmps77
    go_wp2_with fail
    refine (hi.out).mono ?_
    rintro e W2 ⟨⟨r, rfl, hr⟩, hb2⟩
    go_wp2
    exact bodyPost_ret (v := .bool (!rs.all fun p => rightL p.2)) (by simp [results, Tryd.results77, go_sem]) rfl ⟨rfl, hb2⟩
  clear h
  generalize (rs.all fun p => rightL p.2) = q at hc ⊢
  go_enter Tryd.func44, Tryd.ntmps44
  go_wp2_with fail
  refine (hc.out).mono ?_
  rintro e W2 ⟨rfl, hb2⟩
  go_wp2
  exact bodyPost_ret (v := .bool q) (by simp [results, Tryd.results44, go_sem]) rfl ⟨rfl, hb2⟩
/-- … of one, of two. -/
theorem isAll1 {v : Value} {l : List Ch} {b : Nat} {w : World} (hb : b < w.heap.size) (hc : w.cell? ⟨b, 0, none⟩ = some v) (h : HC w v l) (hs : Small l) (hT : Tab w) :
    Calls Tryd.prog 44 #[.slice (some ⟨b, 0, none⟩) 1 1] w fun e W' => e = .returned (.bool (rightL l)) ∧ Below w.heap.size w W' := by
  have := isAll_any [(v, l)] b 0 1 w ⟨hb, fun j hj => by
    have hj' : j < 1 := hj
    obtain rfl : j = 0 := by omega
    exact ⟨hc, h, hs⟩⟩ (by simp) hT
  simpa using this
theorem isAll2 {v1 v2 : Value} {l1 l2 : List Ch} {b : Nat} {w : World} (hb : b < w.heap.size) (hc1 : w.cell? ⟨b, 0, none⟩ = some v1) (hc2 : w.cell? ⟨b, 1, none⟩ = some v2) (h1 : HC w v1 l1) (h2 : HC w v2 l2) (hs1 : Small l1) (hs2 : Small l2) (hT : Tab w) :
    Calls Tryd.prog 44 #[.slice (some ⟨b, 0, none⟩) 2 2] w fun e W' => e = .returned (.bool (rightL l1 && rightL l2)) ∧ Below w.heap.size w W' := by
  have := isAll_any [(v1, l1), (v2, l2)] b 0 2 w ⟨hb, fun j hj => by
    have hj' : j < 2 := hj
    rcases (show j = 0 ∨ j = 1 by omega) with rfl | rfl
    · exact ⟨hc1, h1, hs1⟩
    · exact ⟨hc2, h2, hs2⟩⟩ (by simp) hT
  simpa using this
end Go.Proofs.YtnigpmbpipmgfaaDoor
