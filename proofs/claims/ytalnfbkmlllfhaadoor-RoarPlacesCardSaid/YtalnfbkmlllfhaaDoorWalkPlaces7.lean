/-
  RoarPlaces: the walk.
-/
import Derived.Test.YtalnfbkmlllfhaaDoorBm2
import Derived.Test.YtalnfbkmlllfhaaDoorShown7
namespace Go.Proofs.YtalnfbkmlllfhaaDoor
open Go.RowKit Tess

/-- A bitmap in a box, and its chunks. -/
structure RB (W : World) (b : Nat) (v : Value) (l : List Ch) : Prop where
  box : RBox W b v
  chs : HC W v l
theorem RB.later {W W' : World} {b : Nat} {v : Value} {l : List Ch} (h : RB W b v l) (hb : Below W.heap.size W W') : RB W' b v l := ⟨h.box.later hb, h.chs.later hb⟩
theorem RB.alloc {W : World} {b : Nat} {v : Value} {l : List Ch} (h : RB W b v l) (o : Obj) : RB (W.alloc o) b v l := h.later ((Below.refl _ W).alloc (Nat.le_refl _) _)
theorem RB.new {W : World} {v : Value} {l : List Ch} (h : HC W v l) : RB (W.alloc (.cells #[v] 24)) W.heap.size v l := ⟨RBox.new W v, h.alloc _⟩

set_option maxRecDepth 100000 in
set_option maxHeartbeats 8000000 in
theorem roarPlaces_walk {zs : List Int} {sv : Value} {w : World} (place : Int) (hp1 : place ≤ 9223372036854775807) (h : Ints w.heap.size w sv zs) (hcap : ∀ p n c, sv = .slice p n c → n ≤ c) (hT : Tab w) :
    Calls Tryd.prog 7 #[sv, .int .i64 place] w fun e W' => e = .returned (.bool true) ∧ Below w.heap.size w W' := by
  have k1 := Lib.hid (shown7_any w hT)
  have hh := Lib.hid h
  have hcp := Lib.hid hcap
  clear h hcap
  go_enter Tryd.func7, Tryd.ntmps7
  go_wp2_with fail
  refine (k1.out).mono ?_
  rintro e W1 ⟨rfl, hB1⟩
  have k2 := Lib.hid (few7_any (hh.out.below hB1 (Nat.le_refl _)) hcp.out)
  go_wp2_with fail
  refine (k2.out).mono ?_
  rintro e W1' ⟨⟨v, rfl, hv⟩, rfl⟩
  have k3 := Lib.hid (make7_any (hv.more hB1.size) (by rw [List.length_take]; omega) (hT.below hB1 hT.lt))
  have hgood := mkL_two (zs.take 300)
  generalize mkL (zs.take 300) = r at k3 hgood
  have hBB := Lib.hid hB1
  clear hv k1 k2 hh hcp hB1
  go_wp2_with fail
  refine (k3.out).mono ?_
  rintro e W2 ⟨v2, rfl, hv2, hb2⟩
  obtain ⟨p2, c2, rfl, hc2, -⟩ := Hid.out hv2
  have hB2 := Lib.hid (below_box hBB.out hBB.out.size hb2 (.cells #[.slice p2 r.1.length c2] 24))
  have hR := RB.new hv2
  clear hb2 k3 hBB hv2
  have hy := hR.box.cell
  rcases hgood with rfl | ⟨l, rfl, hl⟩
  · have k4 := Lib.hid (select7_any place hp1 hR.chs small_nil (hT.below hB2.out hT.lt))
    rw [selL_bad (l := []) (p := place) rfl (by have : cntL [] = 0 := rfl; omega)] at k4
    simp only [List.length_nil] at hy hB2 k4 hR ⊢
    clear hR
    go_wp2_with fail
    refine (k4.out).mono ?_
    rintro e W3 ⟨rfl, hb3⟩
    have hB3 := Lib.hid (hB2.out.trans (hb3.mono hB2.out.size))
    clear k4 hb3 hy
    go_wp2
    exact bodyPost_ret (v := .bool true) (by simp [results, Tryd.results7, go_sem]) rfl ⟨rfl, hB3.out⟩
  · simp only at hy hB2 hR hc2 ⊢
    have k4 := Lib.hid (select7_any place hp1 hR.chs (small_right hl) (hT.below hB2.out hT.lt))
    have hcn := Lib.hid (cntL_all hl)
    have hal := allN_len l
    have hl256 := right_len hl
    by_cases h0 : place < 0
    · rw [selL_bad hl (.inl h0)] at k4
      clear hR
      have h0' : decide (place < 0) = true := by simpa using h0
      go_wp2_with fail
      refine (k4.out).mono ?_
      rintro e W3 ⟨rfl, hb3⟩
      have hB3 := Lib.hid (hB2.out.trans (hb3.mono hB2.out.size))
      clear k4 hb3 hy
      go_wp2
      exact bodyPost_ret (v := .bool true) (by simp [results, Tryd.results7, go_sem]) rfl ⟨rfl, hB3.out⟩
    · have h0' : decide (place < 0) = false := by simpa using h0
      by_cases h1 : cntL l ≤ place
      · rw [selL_bad hl (.inr h1)] at k4
        have h1' : decide (place ≥ cntL l) = true := by simpa using h1
        go_wp2_with fail
        refine (k4.out).mono ?_
        rintro e W3 ⟨rfl, hb3⟩
        have hB3 := Lib.hid (hB2.out.trans (hb3.mono hB2.out.size))
        have hR3 := hR.later hb3
        have hy3 := hR3.box.cell
        have k5 := Lib.hid (count7_any hR3.chs (small_right hl) (hT.below hB3.out hT.lt))
        clear k4 hb3 hy hR hR3
        go_wp2_with fail
        refine (k5.out).mono ?_
        rintro e W4 ⟨rfl, hb4⟩
        have hB4 := Lib.hid (hB3.out.trans (hb4.mono hB3.out.size))
        clear k5 hb4
        go_wp2
        exact bodyPost_ret (v := .bool true) (by simp [results, Tryd.results7, go_sem]) rfl ⟨rfl, hB4.out⟩
      · obtain ⟨m, hm, hs1, -, hs2, hs3, hs4⟩ := selL_good hl (p := place) (by omega) (by omega)
        rw [hs1] at k4
        have h1' : decide (place ≥ cntL l) = false := by simpa using h1
        have hs2' := Lib.hid hs2
        have hs3' := Lib.hid hs3
        have hs4' := Lib.hid hs4
        clear hs1 hs2 hs3 hs4
        have hplace := Lib.hid (show place < 65536 by have := hcn.out; omega)
        go_wp2_with fail
        refine (k4.out).mono ?_
        rintro e W3 ⟨rfl, hb3⟩
        have hB3 := Lib.hid (hB2.out.trans (hb3.mono hB2.out.size))
        have hR3 := hR.later hb3
        have hy3 := hR3.box.cell
        have k5 := Lib.hid (count7_any hR3.chs (small_right hl) (hT.below hB3.out hT.lt))
        clear k4 hb3 hy hR
        go_wp2_with fail
        refine (k5.out).mono ?_
        rintro e W4 ⟨rfl, hb4⟩
        have hB4 := Lib.hid (hB3.out.trans (hb4.mono hB3.out.size))
        have hR4 := hR3.later hb4
        have hy4 := hR4.box.cell
        have k6 := Lib.hid (values7_any hR4.chs (small_right hl) (hT.below hB4.out hT.lt))
        have hvl : valL l = allN l := by unfold valL; rw [if_pos hl]
        rw [hvl] at k6
        clear k5 hb4 hR3 hy3
        go_wp2_with fail
        refine (k6.out).mono ?_
        rintro e W5 ⟨v5, rfl, hv5, hcap5, hb5⟩
        have hB5 := Lib.hid (hB4.out.trans (hb5.mono hB4.out.size))
        have hR5 := hR4.later hb5
        have hy5 := hR5.box.cell
        clear k6 hb5 hR4 hy4 hcap5
        have hsort := Lib.hid (allN_sorted hl)
        have hlt6 := Lib.hid (fun m (hm : m ∈ allN l) => allN_lt hl hm)
        generalize hA : allN l = A at hv5 hsort hlt6 hal
        have hI5 : ∃ p5 c5, v5 = .slice p5 A.length c5 ∧ ∀ j (hj : j < A.length), ∃ b off, p5 = some ⟨b, off, none⟩ ∧ b < W5.heap.size ∧ W5.cell? ⟨b, off + j, none⟩ = some (.int .i64 (A[j] : Int)) := by
          rcases Hid.out hv5 with ⟨⟨p, rfl⟩, he⟩ | ⟨b, off, cap, rfl, hb, hc⟩
          · have : A = [] := by simpa using he
            subst this
            exact ⟨p, 0, rfl, fun j hj => by cases hj⟩
          · refine ⟨_, _, by rw [List.length_map], fun j hj => ⟨b, off, rfl, hb, ?_⟩⟩
            rw [hc j (by rw [List.length_map]; exact hj)]
            simp [hj]
        clear hv5
        obtain ⟨p5, c5, rfl, hI⟩ := hI5
        have hI' := Lib.hid hI
        clear hI
        go_wp2
        go_loopw [11] (fun i wr => ∃ j : Nat, (j < A.length ∨ j = 0) ∧ i = .int .i64 ((j : Int) + 1) ∧ Hid (Below W5.heap.size W5 wr))
          (fun i _ => A.length - (intOf i).toNat)
        case atStart => exact ⟨0, .inr rfl, rfl, Lib.hid (Below.refl _ _)⟩
        case round =>
          obtain ⟨j, hj, rfl, hB⟩ := hrel
          by_cases hlt : j + 1 < A.length
          · obtain ⟨b, off, rfl, hb, c1⟩ := hI'.out j (by omega)
            obtain ⟨b', off', hbe, -, c2⟩ := hI'.out (j + 1) hlt
            cases hbe
            have d1 := (hB.out.cell (p := ⟨b, off + j, none⟩) hb).trans c1
            have d2 := (hB.out.cell (p := ⟨b, off + (j + 1), none⟩) hb).trans c2
            have hlt2 := List.pairwise_iff_getElem.1 hsort.out j (j + 1) (by omega) hlt (by omega)
            have hkd : decide ((j : Int) + 1 < (A.length : Int)) = true := by simp; omega
            clear c1 c2
            generalize A[j] = a at d1 hlt2
            generalize A[j + 1] = c at d2 hlt2
            have hge : decide ((a : Int) ≥ (c : Int)) = false := by simp; omega
            have hge2 : decide ((c : Int) ≤ (a : Int)) = false := by simp; omega
            go_wp2
            go_region
            all_goals go_wp2
            exact ⟨⟨j + 1, .inl hlt, by push_cast; rfl, Lib.hid (Below.drew hB.out)⟩, by simp [intOf]; omega⟩
          · have hkd : decide ((j : Int) + 1 < (A.length : Int)) = false := by simp; omega
            have hR6 := hR5.later hB.out
            have hy6 := hR6.box.cell
            have hB6 := Lib.hid (hB5.out.trans (hB.out.mono hB5.out.size))
            have k7 := Lib.hid (has7_any m hR6.chs (small_right hl) (hT.below hB6.out hT.lt))
            rw [hs2'.out] at k7
            clear hR5 hy5 hB
            go_wp2_with fail
            refine (k7.out).mono ?_
            rintro e W7 ⟨rfl, hb7⟩
            have hB7 := Lib.hid (hB6.out.trans (hb7.mono hB6.out.size))
            have hR7 := hR6.later hb7
            have hy7 := hR7.box.cell
            have k8 := Lib.hid (rank7_any m hR7.chs (small_right hl) (hT.below hB7.out hT.lt))
            rw [hs3'.out] at k8
            clear k7 hb7 hR6 hy6
            go_wp2_with fail
            refine (k8.out).mono ?_
            rintro e W8 ⟨rfl, hb8⟩
            have hB8 := Lib.hid (hB7.out.trans (hb8.mono hB7.out.size))
            have hR8 := hR7.later hb8
            have hy8 := hR8.box.cell
            have k9 := Lib.hid (rank7_any ((m : Int) - 1) hR8.chs (small_right hl) (hT.below hB8.out hT.lt))
            rw [hs4'.out] at k9
            have hplace' := hplace.out
            clear k8 hb8 hR7 hy7
            go_wp2_with fail
            refine (k9.out).mono ?_
            rintro e W9 ⟨rfl, hb9⟩
            have hB9 := Lib.hid (hB8.out.trans (hb9.mono hB8.out.size))
            clear k9 hb9 hR8 hy8
            go_wp2
            exact bodyPost_ret (v := .bool true) (by simp [results, Tryd.results7, go_sem]) rfl ⟨rfl, hB9.out⟩
end Go.Proofs.YtalnfbkmlllfhaaDoor
