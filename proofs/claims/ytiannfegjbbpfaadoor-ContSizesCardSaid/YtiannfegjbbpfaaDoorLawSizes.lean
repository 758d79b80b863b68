/-
  ContSizes: the plain law and the walk.
-/
import Derived.Deep.RegionHeld3
import Derived.Test.YtiannfegjbbpfaaDoorWalkFlips
namespace Go.Proofs.YtiannfegjbbpfaaDoor
open Go.RowKit Tess

theorem best_le_count (s : Nat) : (best s).data.length ≤ count s := by
  unfold count
  rcases best_cases s with ⟨h, _⟩ | ⟨h, h1, _⟩ | ⟨h, _, h2⟩ <;> rw [h]
  · exact Nat.le_refl _
  · exact Nat.le_of_lt h1
  · show (raw s).length ≤ _
    have : (raw s).length = 32 := by simp [raw]
    omega
theorem sz1 : flRes 1 ⟨#[]⟩ 0 256 = (⟨3, [0, 255]⟩, 0) := by decide +kernel
theorem sz2 : count (ofRes 3 (bs [0, 255])).1 = 256 := by decide +kernel
theorem sz3 : mkRes [] = (⟨1, []⟩, 0) := by decide +kernel
theorem sizes_good {zs : List Int} (h0 : (mkRes zs).2 = 0) : (bs (mkRes zs).1.data).size ≤ 32 ∧ (bs (mkRes zs).1.data).size ≤ count (ofRes (mkRes zs).1.form (bs (mkRes zs).1.data)).1 := by
  rcases mkRes_cases zs with hm | ⟨s, hs, hm, _⟩
  · rw [hm] at h0; cases h0
  · rw [hm, bs_size]
    show (best s).data.length ≤ 32 ∧ (best s).data.length ≤ count (ofRes (best s).form (bs (best s).data)).1
    rw [ofRes_best hs]
    exact ⟨best_length_le s, best_le_count s⟩

theorem sizes_keep {w W W' : World} {b2 b3 b4 : Nat} {f2 f3 f4 : Int} {D2 D3 D4 : ByteArray} (hb : Below W.heap.size W W')
    (s1 : Hid (Below w.heap.size w W)) (s2 : Hid (CBox W b2 f2 D2)) (s3 : Hid (CBox W b3 f3 D3)) (s4 : Hid (CBox W b4 f4 D4)) :
    Hid (Below w.heap.size w W') ∧ Hid (CBox W' b2 f2 D2) ∧ Hid (CBox W' b3 f3 D3) ∧ Hid (CBox W' b4 f4 D4) ∧
        W'.cell? ⟨b2, 0, none⟩ = some (.int .i64 f2) ∧ W'.cell? ⟨b2, 1, none⟩ = some (.string D2) ∧
        W'.cell? ⟨b3, 0, none⟩ = some (.int .i64 f3) ∧ W'.cell? ⟨b3, 1, none⟩ = some (.string D3) ∧
        W'.cell? ⟨b4, 1, none⟩ = some (.string D4) := by
  have h2 := s2.out.later hb
  have h3 := s3.out.later hb
  have h4 := s4.out.later hb
  have c2 := blk2_cells h2
  have c3 := blk2_cells h3
  have c4 := blk2_cells h4
  exact ⟨Lib.hid (s1.out.trans (hb.mono s1.out.size)), Lib.hid h2, Lib.hid h3, Lib.hid h4, c2.1, c2.2.1, c3.1, c3.2.1, c4.2.1⟩

/-- What Count answers. -/
def cnt (f : Int) (D : ByteArray) : Nat := count (ofRes f D).1
theorem Count_cnt (f : Int) (D : ByteArray) (w : World) (hD : D.size ≤ 1000000) (hT : Tab w) :
    Calls Tryd.prog 15 #[.agg #[.int .i64 f, .string D]] w fun e W' => e = .returned (.int .i64 (cnt f D)) ∧ Below w.heap.size w W' := Count_any f D w hD hT

set_option maxRecDepth 100000 in
set_option maxHeartbeats 8000000 in
theorem contSizes_walk {zs : List Int} {sv : Value} {w : World} (h : Ints w.heap.size w sv zs) (hcap : ∀ p n c, sv = .slice p n c → n ≤ c) (hT : Tab w) :
    Calls Tryd.prog 4 #[sv] w fun e W' => e = .returned (.bool true) ∧ Below w.heap.size w W' := by
  have k1 := Lib.hid (shown_any w hT)
  have hh := Lib.hid h
  have hcp := Lib.hid hcap
  clear h hcap
  go_enter Tryd.func4, Tryd.ntmps4
  go_wp2_with fail
  refine (k1.out).mono ?_
  rintro e W1 ⟨rfl, hB1⟩
  have k2 := Lib.hid (few_any (hh.out.below hB1 (Nat.le_refl _)) hcp.out)
  go_wp2_with fail
  refine (k2.out).mono ?_
  rintro e W1' ⟨⟨v, rfl, hv⟩, rfl⟩
  have k3 := Lib.hid (make_any (hv.more hB1.size) (by rw [List.length_take]; omega) (hT.below hB1 hT.lt))
  have hlen := mkRes_len (zs.take 300)
  have hgood' := Lib.hid (@sizes_good (zs.take 300))
  generalize mkRes (zs.take 300) = r at k3 hlen hgood'
  have hBB := Lib.hid hB1
  clear hv k1 k2 hh hcp hB1
  go_wp2_with fail
  refine (k3.out).mono ?_
  rintro e W2 ⟨rfl, hb2⟩
  have hB2 := Lib.hid (below_box hBB.out hBB.out.size hb2 (.cells #[.int .i64 r.1.form, .string (bs r.1.data)] 25))
  have hx1' := Lib.hid (CBox.new W2 r.1.form (bs r.1.data))
  have k4 := Lib.hid (flip_any 1 ⟨#[]⟩ 0 256 _ (by decide) (hT.below hB2.out hT.lt))
  rw [sz1] at k4
  clear hb2 k3 hBB
  simp only [cv]
  go_wp2_with fail
  refine (k4.out).mono ?_
  rintro e W3 ⟨rfl, hb3⟩
  have hB3 := Lib.hid (below_box hB2.out hB2.out.size hb3 (.cells #[.int .i64 3, .string (bs [0, 255])] 25))
  have hx2 := Lib.hid (CBox.new W3 3 (bs [0, 255]))
  have hx3 := Lib.hid ((hx1'.out.later hb3).alloc (.cells #[.int .i64 3, .string (bs [0, 255])] 25))
  have k5 := Lib.hid (make_any (zs := []) (sv := .slice none 0 0) (.inl ⟨⟨_, rfl⟩, rfl⟩) (by simp) (hT.below hB3.out hT.lt))
  rw [sz3] at k5
  clear hb3 hx1' k4
  simp only [cv]
  go_wp2_with fail
  refine (k5.out).mono ?_
  rintro e W4 ⟨rfl, hb4⟩
  have hB4 := Lib.hid (below_box hB3.out hB3.out.size hb4 (.cells #[.int .i64 1, .string (bs [])] 25))
  have hx4 := (hx3.out.later hb4).alloc (.cells #[.int .i64 1, .string (bs [])] 25)
  have hx6 := (hx2.out.later hb4).alloc (.cells #[.int .i64 1, .string (bs [])] 25)
  have hx5 := CBox.new W4 1 (bs [])
  clear hb4 hx3 hx2
  obtain ⟨d0, d1, _, _⟩ := blk2_cells hx4
  obtain ⟨e0, e1, _, _⟩ := blk2_cells hx5
  obtain ⟨g0, g1, _, _⟩ := blk2_cells hx6
  have hh4 := Lib.hid hx4
  have hh6 := Lib.hid hx6
  have hh5 := Lib.hid hx5
  clear hx4 hx5 hx6 k5
  obtain ⟨r1, r2⟩ := r
  simp only at d0 d1 e0 e1 hB4 hB3 hB2 hlen
  simp only [cv]
  cases h0 : (r2 != 0) with
  | true =>
    clear hgood'
    go_wp2
    exact bodyPost_ret (v := .bool true) (by simp [results, Tryd.results4, go_sem]) rfl ⟨rfl, hB4.out⟩
  | false =>
    have hr0 : r2 = 0 := by simpa using h0
    subst hr0
    obtain ⟨z1, z2⟩ := hgood'.out rfl
    simp only at z1 z2
    have z1' : decide (((bs r1.data).size : Int) ≤ 32) = true := by simp; omega
    have z2' : decide (((bs r1.data).size : Int) ≤ (cnt r1.form (bs r1.data) : Int)) = true := by unfold cnt; simp; omega
    have z2n : decide ((bs r1.data).size ≤ cnt r1.form (bs r1.data)) = true := by unfold cnt; simp; omega
    have hq2 : ((bs [0, 255]).size : Int) = 2 := by decide +kernel
    have hqe : (bs []).toList = [] := by decide +kernel
    have hc2 : (cnt 3 (bs [0, 255]) : Int) = 256 := by unfold cnt; rw [sz2]; rfl
    have hlY : (bs [0, 255]).size ≤ 1000000 := by decide
    have hB4' : Hid (Below w.heap.size w (W4.alloc (.cells #[.int .i64 1, .string (bs [])] 25))) := hB4
    generalize bs r1.data = X at *
    generalize bs [0, 255] = Y at *
    generalize bs [] = Z at *
    have h4 := Lib.hid hB4'
    have hTl := Lib.hid hT
    generalize W2.heap.size = b2 at *
    generalize W3.heap.size = b3 at *
    clear hgood' z1 z2 hB2 hB3 hB4 hB4' h0
    go_wp2
    generalize (W4.alloc (.cells #[.int .i64 1, .string Z] 25)) = V at *
    go_region_held3 (fun W' => Hid (Below w.heap.size w W') ∧ Hid (CBox W' b2 r1.form X) ∧ Hid (CBox W' b3 3 Y) ∧ Hid (CBox W' W4.heap.size 1 Z) ∧
        W'.cell? ⟨b2, 0, none⟩ = some (.int .i64 r1.form) ∧ W'.cell? ⟨b2, 1, none⟩ = some (.string X) ∧
        W'.cell? ⟨b3, 0, none⟩ = some (.int .i64 3) ∧ W'.cell? ⟨b3, 1, none⟩ = some (.string Y) ∧
        W'.cell? ⟨W4.heap.size, 1, none⟩ = some (.string Z))
      (first | exact ⟨Below.drew h4.out.out, hh4, hh6, hh5, d0, d1, g0, g1, e1⟩ | assumption)
      (first
        | (go_at_call 15
           refine (Count_cnt _ _ _ (by assumption) (hTl.out.below (Hid.out (And.left (by assumption))) hTl.out.lt)).mono ?_
           rintro e W5 ⟨rfl, hb5⟩
           obtain ⟨s1, s2, s3, s4, _⟩ : _ ∧ _ ∧ _ ∧ _ ∧ _ := by assumption
           have hnew := sizes_keep hb5 s1 s2 s3 s4))
    go_wp2
    exact bodyPost_ret (v := .bool true) (by simp [results, Tryd.results4, go_sem]) rfl ⟨rfl, Hid.out (And.left (by assumption))⟩
end Go.Proofs.YtiannfegjbbpfaaDoor
