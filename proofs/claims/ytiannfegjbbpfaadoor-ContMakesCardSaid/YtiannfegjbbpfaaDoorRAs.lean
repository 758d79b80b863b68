/-
  The reference's As; the laws' cut.
-/
import Derived.Test.YtiannfegjbbpfaaDoorRRight
namespace Go.Proofs.YtiannfegjbbpfaaDoor
open Go.RowKit Tess

/-- A container's box ahead of a result's. -/
structure RAt (w W : World) (f : Int) (D : ByteArray) : Prop where
  box : CBox W w.heap.size f D
  res : W.heap[w.heap.size + 1]? = some (.cells #[.int .i64 0, .string ⟨#[]⟩] 25 (0, 0))
  below : Below w.heap.size w W
theorem RAt.later {w wr W : World} {f : Int} {D : ByteArray} (h : RAt w wr f D) (hb : Below wr.heap.size wr W) : RAt w W f D :=
  ⟨h.box.later hb, (hb.block _ (lt_of_heap h.res)).trans h.res, h.below.trans (hb.mono h.below.size)⟩
theorem RAt.start (w : World) (f : Int) (D : ByteArray) : RAt w ((w.alloc (.cells #[.int .i64 f, .string D] 25)).alloc (.cells #[.int .i64 0, .string ⟨#[]⟩] 25)) f D :=
  ⟨(CBox.new w f D).alloc _, by have := heap_alloc_new (w.alloc (.cells #[.int .i64 f, .string D] 25)) (.cells #[.int .i64 0, .string ⟨#[]⟩] 25); rwa [World.size_alloc] at this, ((Below.refl _ w).alloc (Nat.le_refl _) _).alloc (by simp) _⟩
theorem RAt.set2 {w W : World} {f : Int} {D : ByteArray} (h : RAt w W f D) (a b : Value) : Below w.heap.size w ((W.setCell ⟨w.heap.size + 1, 0, none⟩ a).setCell ⟨w.heap.size + 1, 1, none⟩ b) :=
  (h.below.setCell (p := ⟨w.heap.size + 1, 0, none⟩) (Nat.le_succ _) _).setCell (p := ⟨w.heap.size + 1, 1, none⟩) (Nat.le_succ _) _

set_option maxRecDepth 100000 in
set_option maxHeartbeats 4000000 in
theorem ras_any (f : Int) (D : ByteArray) (form : Int) (w : World) (hD : D.size ≤ 1000000) :
    Calls Tryd.prog 23 #[.agg #[.int .i64 f, .string D], .int .i64 form] w fun e W' => e = .returned (.tuple #[cv (asRes f D form).1.form (asRes f D form).1.data, .int .i64 (asRes f D form).2]) ∧ Below w.heap.size w W' := by
  have hM0 := Lib.hid (RAt.start w f D)
  have k1 := Lib.hid (rright_any f D ((w.alloc (.cells #[.int .i64 f, .string D] 25)).alloc (.cells #[.int .i64 0, .string ⟨#[]⟩] 25)) hD)
  go_enter Tryd.func23, Tryd.ntmps23
  go_wp2_with fail
  refine (k1.out).mono ?_
  rintro e W1 ⟨rfl, hb1⟩
  have hM := Lib.hid (hM0.out.later hb1)
  clear hb1 hM0 k1
  obtain ⟨b0, b1, -, -⟩ := blk2_cells hM.out.box
  obtain ⟨r0, r1, f0, f1⟩ := blk2_cells hM.out.res
  by_cases hall : (ofRes f D).2 = true ∧ 1 ≤ form ∧ form ≤ 3
  · obtain ⟨hok, h1, h3⟩ := hall
    have g1 : decide (form < 1) = false := by simp; omega
    have g3 : decide (3 < form) = false := by simp; omega
    obtain ⟨d, hd⟩ := asOf_ex (s := (ofRes f D).1) ⟨h1, h3⟩
    have hre := Lib.hid (asRes_some hok hd)
    have hrs : readAll f (dn D) = (ofRes f D).1 := by
      cases hq : asOf (readAll f (dn D)) f with
      | none => rw [ofRes_none hq] at hok; cases hok
      | some e =>
        cases hs : sameC f (bs e) f D with
        | false => rw [ofRes_other hq hs] at hok; cases hok
        | true => rw [ofRes_same hq hs]
    have k2 := Lib.hid (Set_any f D W1 hD)
    rw [hrs] at k2
    have k3 : Hid (∀ W, Calls Tryd.prog 47 #[.agg (bc (ofRes f D).1), .int .i64 form] W fun e W' => e = .returned (cv form d) ∧ Below W.heap.size W W') := fun W => form_any hd W
    rw [hok]
    clear hok h1 h3 hd hrs
    go_wp2_with fail
    refine (k2.out).mono ?_
    rintro e W2 ⟨rfl, hb2⟩
    have hM2 := Lib.hid (hM.out.later hb2)
    clear b0 b1 r0 r1 f0 f1 hb2 k2
    go_wp2_with fail
    refine (k3.out W2).mono ?_
    rintro e W3 ⟨rfl, hb3⟩
    have hM3 := Lib.hid (hM2.out.later hb3)
    obtain ⟨r0, r1, f0, f1⟩ := blk2_cells hM3.out.res
    simp only [cv]
    go_wp2
    have hrs := blk2_cells (heap_set2 hM3.out.res (.int .i64 form) (.string (bs d)))
    refine bodyPost_ret (v := .tuple #[cv form d, .int .i64 0]) ?_ rfl ⟨by rw [hre.out], hM3.out.set2 _ _⟩
    simp [results, Tryd.results23, go_sem, cv, hrs.1, hrs.2.1]
  · have hre : Hid (asRes f D form = (⟨0, []⟩, 60)) := by
      show _ = _
      by_cases hok : (ofRes f D).2 = true
      · have h2 : ¬ (1 ≤ form ∧ form ≤ 3) := fun h => hall ⟨hok, h⟩
        refine asRes_none ?_
        unfold asOf
        rw [if_neg (by omega), if_neg (by omega), if_neg (by omega)]
      · exact asRes_no (by simpa using hok)
    cases hok : (ofRes f D).2 with
    | false =>
      clear hall
      go_wp2
      have hrs := blk2_cells (heap_set2 hM.out.res (.int .i64 0) (.string ⟨#[]⟩))
      refine bodyPost_ret (v := .tuple #[cv 0 [], .int .i64 60]) ?_ rfl ⟨by rw [hre.out], hM.out.set2 _ _⟩
      simp [results, Tryd.results23, go_sem, cv, hrs.1, hrs.2.1]
      try rfl
    | true =>
      by_cases h1 : form < 1
      · have g1 : decide (form < 1) = true := by simpa using h1
        clear hall
        go_wp2
        have hrs := blk2_cells (heap_set2 hM.out.res (.int .i64 0) (.string ⟨#[]⟩))
        refine bodyPost_ret (v := .tuple #[cv 0 [], .int .i64 60]) ?_ rfl ⟨by rw [hre.out], hM.out.set2 _ _⟩
        simp [results, Tryd.results23, go_sem, cv, hrs.1, hrs.2.1]
        try rfl
      · have g1 : decide (form < 1) = false := by simpa using h1
        have g3 : decide (3 < form) = true := by
          rw [hok] at hall
          simp at hall ⊢
          omega
        clear hall
        go_wp2
        have hrs := blk2_cells (heap_set2 hM.out.res (.int .i64 0) (.string ⟨#[]⟩))
        refine bodyPost_ret (v := .tuple #[cv 0 [], .int .i64 60]) ?_ rfl ⟨by rw [hre.out], hM.out.set2 _ _⟩
        simp [results, Tryd.results23, go_sem, cv, hrs.1, hrs.2.1]
        try rfl

set_option maxRecDepth 100000 in
theorem cut_any (f : Int) (D : ByteArray) (w : World) :
    Calls Tryd.prog 19 #[.agg #[.int .i64 f, .string D]] w fun e W' => e = .returned (.agg #[.int .i64 f, .string (cutD D)]) ∧ Below w.heap.size w W' := by
  have hM := Lib.hid (RAt.start w f D)
  obtain ⟨b0, b1, p0, p1⟩ := blk2_cells hM.out.box
  obtain ⟨r0, r1, f0, f1⟩ := blk2_cells hM.out.res
  by_cases h : D.size ≤ 260
  · have hc : Hid (cutD D = D) := by show _ = _; unfold cutD; rw [if_pos h]
    have hex : D.extract 0 D.size = D := by simp
    have g : ¬ (260 : Int) < (D.size : Int) := by omega
    have hx := heap_set2 hM.out.box (.int .i64 f) (.string D)
    go_enter Tryd.func19, Tryd.ntmps19
    go_wp2
    have hrs := blk2_cells (heap_alloc_new (w.alloc (.cells #[.int .i64 f, .string D] 25)) (.cells #[.int .i64 f, .string D] 25))
    simp only [World.size_alloc] at hrs
    exact bodyPost_ret (v := .agg #[.int .i64 f, .string D]) (by simp [results, Tryd.results19, go_sem, hrs.1, hrs.2.1]) rfl ⟨by rw [hc.out], ((Below.refl _ w).alloc (Nat.le_refl _) _).alloc (by simp) _⟩
  · have hc : Hid (cutD D = D.extract 0 260) := by show _ = _; unfold cutD; rw [if_neg h]
    have g : (260 : Int) < (D.size : Int) := by omega
    have g2 : (260 : Int) ≤ (D.size : Int) := by omega
    go_enter Tryd.func19, Tryd.ntmps19
    go_wp2
    have hrs := blk2_cells (heap_alloc_new (w.alloc (.cells #[.int .i64 f, .string (D.extract 0 260)] 25)) (.cells #[.int .i64 f, .string (D.extract 0 260)] 25))
    simp only [World.size_alloc] at hrs
    exact bodyPost_ret (v := .agg #[.int .i64 f, .string (D.extract 0 260)]) (by simp [results, Tryd.results19, go_sem, hrs.1, hrs.2.1]) rfl ⟨by rw [hc.out], ((Below.refl _ w).alloc (Nat.le_refl _) _).alloc (by simp) _⟩
end Go.Proofs.YtiannfegjbbpfaaDoor
