/-
  cont's Make: numbers into a container, unless one is out of range.
-/
import Derived.Test.YtnigpmbpipmgfaaDoorOf
namespace Go.Proofs.YtnigpmbpipmgfaaDoor
open Go.RowKit Tess

/-- Is the number out of range? -/
def badI (n : Int) : Bool := decide (n < 0) || decide (256 ≤ n)
theorem bad_any (n : Int) (w : World) : Calls Tryd.prog 74 #[.int .i64 n] w fun e W' => e = .returned (.bool (badI n)) ∧ Below w.heap.size w W' := by
  go_enter Tryd.func74, Tryd.ntmps74
  unfold badI
  by_cases h1 : n < 0
  · have h1' : decide (n < 0) = true := by simpa using h1
    go_wp2
    exact bodyPost_ret (v := .bool true) (by simp [results, Tryd.results74, go_sem]) rfl ⟨by rw [h1']; rfl, Below.refl _ _⟩
  · have h1' : decide (n < 0) = false := by simpa using h1
    by_cases h2 : 256 ≤ n
    · have h2' : decide (256 ≤ n) = true := by simpa using h2
      go_wp2
      exact bodyPost_ret (v := .bool true) (by simp [results, Tryd.results74, go_sem]) rfl ⟨rfl, Below.refl _ _⟩
    · have h2' : decide (256 ≤ n) = false := by simpa using h2
      go_wp2
      exact bodyPost_ret (v := .bool false) (by simp [results, Tryd.results74, go_sem]) rfl ⟨rfl, Below.refl _ _⟩

set_option maxRecDepth 100000 in
set_option maxHeartbeats 2000000 in
theorem index_any (zs : List Int) (b off cap : Nat) (w : World) (hb : b < w.heap.size) (hc : ∀ j, j < zs.length → w.cell? ⟨b, off + j, none⟩ = some (.int .i64 (zs[j]?.getD 0))) (hl : zs.length ≤ 4611686018427387904) :
    Calls Tryd.prog 100 #[.slice (some ⟨b, off, none⟩) zs.length cap, .func (.func 74) #[] #[]] w fun e W' => (∃ r : Int, e = .returned (.int .i64 r) ∧ decide (0 ≤ r) = zs.any badI) ∧ Below w.heap.size w W' := by
  go_enter Tryd.func100, Tryd.ntmps100
  go_wp2
  go_loopw [8] (fun i wr => ∃ k : Nat, k ≤ zs.length ∧ i = .int .i64 k ∧ Hid ((zs.take k).any badI = false) ∧ Below w.heap.size w wr)
    (fun i _ => zs.length - (intOf i).toNat)
  case atStart => exact ⟨0, Nat.zero_le _, rfl, by show _ = _; simp, Below.refl _ _⟩
  case round =>
    obtain ⟨k, hk, rfl, hA, hg⟩ := hrel
    by_cases hlt : k < zs.length
    · have hcx := (hg.cell (p := ⟨b, off + k, none⟩) hb).trans (hc k hlt)
      have hkd : decide (k < zs.length) = true := by simpa using hlt
      have hstep : Hid ((zs.take (k + 1)).any badI = badI (zs[k]?.getD 0)) := by
        show _ = _
        rw [List.take_succ_eq_append_getElem hlt, List.any_append, hA.out]; simp [hlt]
      have hin : Hid (badI (zs[k]?.getD 0) = true → zs.any badI = true) := by
        show _ → _
        intro h
        exact List.any_eq_true.2 ⟨zs[k], List.getElem_mem hlt, by simpa [hlt] using h⟩
      generalize zs[k]?.getD 0 = n at hcx hstep hin
      have hcl := Lib.hid (bad_any n wr)
      go_wp2_with fail
      refine (hcl.out).mono ?_
      rintro e W2 ⟨rfl, hb2⟩
      have hg2 := hg.trans (hb2.mono hg.size)
      clear hb2 hcx
      cases hn : badI n with
      | true =>
        go_wp2
        exact bodyPost_ret (v := .int .i64 k) (by simp [results, Tryd.results100, go_sem]) rfl ⟨⟨_, rfl, by rw [hin.out hn]; simp⟩, hg2⟩
      | false =>
        rw [hn] at hstep
        clear hin hn
        go_wp2
        go_roundw
        case rel => exact ⟨k + 1, by omega, by go_num, hstep, hg2⟩
        case measure => simp [intOf]; omega
    · have hge : zs.length ≤ k := by omega
      have hkd : decide (k < zs.length) = false := by simpa using hlt
      go_wp2
      have hall : zs.any badI = false := by
        have : zs.take k = zs := List.take_of_length_le hge
        have h := hA.out
        rwa [this] at h
      exact bodyPost_ret (v := .int .i64 (-1)) (by simp [results, Tryd.results100, go_sem]) rfl ⟨⟨_, rfl, by rw [hall]; decide⟩, hg⟩

/-- … of a nil slice. -/
theorem index_nil (p : Option Addr) (w : World) :
    Calls Tryd.prog 100 #[.slice p 0 0, .func (.func 74) #[] #[]] w fun e W' => (∃ r : Int, e = .returned (.int .i64 r) ∧ decide (0 ≤ r) = ([] : List Int).any badI) ∧ Below w.heap.size w W' := by
  go_enter Tryd.func100, Tryd.ntmps100
  go_wp2
  refine wp_loop_rounds 1 ?_
  rw [rounds_succ]
  go_wp2
  exact bodyPost_ret (v := .int .i64 (-1)) (by simp [results, Tryd.results100, go_sem]) rfl ⟨⟨_, rfl, by decide⟩, Below.refl _ _⟩
theorem indexes {zs : List Int} {sv : Value} {w : World} (h : Ints w.heap.size w sv zs) (hl : zs.length ≤ 4611686018427387904) :
    Calls Tryd.prog 100 #[sv, .func (.func 74) #[] #[]] w fun e W' => (∃ r : Int, e = .returned (.int .i64 r) ∧ decide (0 ≤ r) = zs.any badI) ∧ Below w.heap.size w W' := by
  rcases h with ⟨⟨p, rfl⟩, rfl⟩ | ⟨b, off, cap, rfl, hb, hc⟩
  · exact index_nil p w
  · exact index_any zs b off cap w hb hc hl

theorem contains_any {zs : List Int} {sv : Value} {w : World} (h : Ints w.heap.size w sv zs) (hl : zs.length ≤ 4611686018427387904) :
    Calls Tryd.prog 73 #[sv, .func (.func 74) #[] #[]] w fun e W' => e = .returned (.bool (zs.any badI)) ∧ Below w.heap.size w W' := by
  have hi := Lib.hid (indexes h hl)
  clear h
  go_enter Tryd.func73, Tryd.ntmps73
  go_wp2_with fail
  refine (hi.out).mono ?_
  rintro e W2 ⟨⟨r, rfl, hr⟩, hb2⟩
  go_wp2
  exact bodyPost_ret (v := .bool (zs.any badI)) (by simp [results, Tryd.results73, go_sem]) rfl ⟨rfl, hb2⟩

theorem badI_false {zs : List Int} (h : zs.any badI = false) : ∀ z ∈ zs, 0 ≤ z ∧ z < 256 := by
  intro z hz
  have := List.any_eq_false.1 h z hz
  unfold badI at this
  simp at this
  omega
theorem toNat_get {zs : List Int} (h : ∀ z ∈ zs, 0 ≤ z ∧ z < 256) {j : Nat} (hj : j < zs.length) :
    (((zs.map Int.toNat)[j]?.getD 0 : Nat) : Int) = zs[j]?.getD 0 ∧ (zs.map Int.toNat)[j]?.getD 0 < 256 := by
  have := h _ (List.getElem_mem hj)
  simp [hj]; omega
theorem put_nil (b : Nat) (p : Option Addr) (w : World) :
    Calls Tryd.prog 75 #[.pointer (some ⟨b, 0, none⟩), .slice p 0 0] w fun e w' => e = .returned (.tuple #[]) ∧ w' = w := by
  go_enter Tryd.func75, Tryd.ntmps75
  go_wp2
  refine wp_loop_rounds 1 ?_
  rw [rounds_succ]
  go_wp2
  go_end0
  exact ⟨rfl, rfl⟩
/-- Numbers in range put into a set. -/
def mkSet (zs : List Int) : Nat := putAll 0 (zs.map Int.toNat)
theorem puts {zs : List Int} {sv : Value} {n₀ : Nat} {w : World} (h : Ints n₀ w sv zs) (hz : ∀ z ∈ zs, 0 ≤ z ∧ z < 256) (hl : zs.length ≤ 4611686018427387904) {b : Nat} (hw : Words 113 w b 0) (hb : n₀ ≤ b) :
    Calls Tryd.prog 75 #[.pointer (some ⟨b, 0, none⟩), sv] w fun e w' => e = .returned (.tuple #[]) ∧ Words 113 w' b (mkSet zs) ∧ w.grownBy w' (some b) := by
  rcases h with ⟨⟨p, rfl⟩, rfl⟩ | ⟨B, off, cap, rfl, hB, hc⟩
  · refine (put_nil b p w).mono ?_
    rintro e W' ⟨rfl, rfl⟩
    exact ⟨rfl, hw, World.grownBy.refl _ _⟩
  · have := put_core b 0 B off cap (zs.map Int.toNat) w hw (by omega) (fun j hj => by
      rw [List.length_map] at hj
      rw [(toNat_get hz hj).1]; exact hc j hj) (fun j hj => by rw [List.length_map] at hj; exact (toNat_get hz hj).2) (by simpa using hl)
    rw [List.length_map] at this
    exact this

/-- What Make answers: the container's form and bytes, and the fault. -/
def mkRes (zs : List Int) : C × Int := if zs.any badI then (⟨0, []⟩, 60) else (best (mkSet zs), 0)

set_option maxRecDepth 100000 in
set_option maxHeartbeats 4000000 in
theorem make_any {zs : List Int} {sv : Value} {w : World} (h : Ints w.heap.size w sv zs) (hl : zs.length ≤ 4611686018427387904) (hT : Tab w) :
    Calls Tryd.prog 42 #[sv] w fun e W' => e = .returned (.tuple #[cv (mkRes zs).1.form (mkRes zs).1.data, .int .i64 (mkRes zs).2]) ∧ Below w.heap.size w W' := by
  have hR : Below w.heap.size w (w.alloc (.cells #[.int .i64 0, .string ⟨#[]⟩] 75)) := (Below.refl _ w).alloc (Nat.le_refl _) _
  have hi := Lib.hid (contains_any ((h.below hR (Nat.le_refl _)).more hR.size) hl)
  have hh := Lib.hid h
  clear h
  go_enter Tryd.func42, Tryd.ntmps42
  go_wp2_with fail
  refine (hi.out).mono ?_
  rintro e W1 ⟨rfl, hb1⟩
  have hM := hb1.block _ (show w.heap.size < _ by simp) |>.trans (heap_alloc_new w (.cells #[.int .i64 0, .string ⟨#[]⟩] 75))
  obtain ⟨r0, r1, f0, f1⟩ := blk2_cells hM
  have hB1 := hR.trans (hb1.mono hR.size)
  cases hany : zs.any badI with
  | true =>
    have hmk : Hid (mkRes zs = (⟨0, []⟩, 60)) := by show _ = _; unfold mkRes; rw [hany]; rfl
    go_wp2
    refine bodyPost_ret (v := .tuple #[cv 0 [], .int .i64 60]) ?_ rfl ⟨by rw [hmk.out], (hB1.setCell (p := ⟨w.heap.size, 0, none⟩) (Nat.le_refl _) _).setCell (p := ⟨w.heap.size, 1, none⟩) (Nat.le_refl _) _⟩
    simp [results, Tryd.results42, go_sem, cv, r0, r1, bs]
  | false =>
    have hB2 := hB1.alloc hB1.size (.cells (wcs 0) 113)
    have hp := Lib.hid (puts ((hh.out.below hB1 (Nat.le_refl _)).below (((Below.refl W1.heap.size W1).alloc (Nat.le_refl _) (.cells (wcs 0) 113)).mono hB1.size) (Nat.le_refl _)) (badI_false hany) hl (Words.new W1 113 0) (by have := hb1.size; simp at this; omega))
    have hmk : Hid (mkRes zs = (best (mkSet zs), 0)) := by show _ = _; unfold mkRes; rw [hany]; rfl
    clear hi hany
    go_wp2_with fail
    refine (hp.out).mono ?_
    rintro e W2 ⟨rfl, hw2, hg2⟩
    have hB3 : Below w.heap.size w W2 := hB2.grown hg2 hB2.size (by rintro k ⟨rfl⟩; exact hB1.size)
    have hM2 := (hg2.block w.heap.size (by have := hb1.size; simp at this ⊢; omega) (by have := hb1.size; simp at this ⊢; omega)).trans ((Below.heap_alloc W1 (.cells (wcs 0) 113) w.heap.size (by have := hb1.size; simp at this; omega)).trans hM)
    have hk := Lib.hid (best_any (mkSet zs) W2 (hT.below hB3 hT.lt))
    have c0 := hw2.cell (i := 0) (by decide)
    have c1 := hw2.cell (i := 1) (by decide)
    have c2 := hw2.cell (i := 2) (by decide)
    have c3 := hw2.cell (i := 3) (by decide)
    clear hw2 hp r0 r1 f0 f1
    go_wp2_with fail
    refine (hk.out).mono ?_
    rintro e W3 ⟨rfl, hb3⟩
    have hB4 := hB3.trans (hb3.mono hB3.size)
    obtain ⟨r0, r1, f0, f1⟩ := blk2_below hM2 hb3 (lt_of_heap hM2)
    simp only [cv]
    clear c0 c1 c2 c3
    go_wp2
    have hrs := blk2_cells (heap_set2 ((hb3.block _ (lt_of_heap hM2)).trans hM2) (.int .i64 (best (mkSet zs)).form) (.string (bs (best (mkSet zs)).data)))
    refine bodyPost_ret (v := .tuple #[cv (best (mkSet zs)).form (best (mkSet zs)).data, .int .i64 0]) ?_ rfl ⟨by rw [hmk.out], (hB4.setCell (p := ⟨w.heap.size, 0, none⟩) (Nat.le_refl _) _).setCell (p := ⟨w.heap.size, 1, none⟩) (Nat.le_refl _) _⟩
    simp [results, Tryd.results42, go_sem, cv, hrs.1, hrs.2.1]
end Go.Proofs.YtnigpmbpipmgfaaDoor
