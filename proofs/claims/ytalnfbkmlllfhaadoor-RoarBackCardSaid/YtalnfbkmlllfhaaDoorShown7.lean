/-
  The laws' head: shown.
-/
import Derived.Test.YtalnfbkmlllfhaaDoorEncode
namespace Go.Proofs.YtalnfbkmlllfhaaDoor
open Go.RowKit Go.Shelf Tess

def shownL : List Int := [1, 9, 256, 257, 258, 259, 260, 261, 262, 263, 264, 265, 266, 267, 268, 269, 270]
theorem shown_mk : (mkL shownL).2 = 0 := by decide +kernel
theorem shown_right : rightL (mkL shownL).1 = true := by decide +kernel
theorem shown_len : (mkL shownL).1.length = 2 := by decide +kernel
theorem shown_enc : encR (mkL shownL).1 = (⟨#[2, 0, 1, 1, 1, 9, 1, 3, 1, 0, 14]⟩, 0) := by decide +kernel
theorem shown_bad : (mkL [65536]) = ([], 70) := by decide +kernel
set_option maxRecDepth 100000 in
set_option maxHeartbeats 2000000 in
/-- **few(l)**: its first three hundred. -/
theorem few7_any {zs : List Int} {sv : Value} {n₀ : Nat} {w : World} (h : Ints n₀ w sv zs) (hcap : ∀ p n c, sv = .slice p n c → n ≤ c) :
    Calls Tryd.prog 20 #[sv] w fun e W' => (∃ v, e = .returned v ∧ Ints n₀ w v (zs.take 300)) ∧ W' = w := by
  rcases h with ⟨⟨p, rfl⟩, rfl⟩ | ⟨b, off, cap, rfl, hb, hc⟩
  · have hm0 : min (0 : Int) 300 = 0 := by decide
    cases p <;> go_enter Tryd.func20, Tryd.ntmps20
    all_goals go_wp2
    · exact bodyPost_ret (v := .slice none 0 0) (by simp [results, Tryd.results20, go_sem]) rfl ⟨⟨_, rfl, .inl ⟨⟨_, rfl⟩, rfl⟩⟩, rfl⟩
    · rename_i x
      exact bodyPost_ret (v := .slice (some x) 0 0) (by simp [results, Tryd.results20, go_sem]) rfl ⟨⟨_, rfl, .inl ⟨⟨_, rfl⟩, rfl⟩⟩, rfl⟩
  · have hcp := hcap _ _ _ rfl
    clear hcap
    have hc' := Lib.hid hc
    clear hc
    by_cases h3 : 300 < zs.length
    · have h1 : (300 : Int) < (zs.length : Int) := by omega
      have h2 : decide ((cap : Int) < 300) = false := by simp; omega
      have h5 := Lib.hid (show 300 ≤ zs.length by omega)
      have hm0 : min (zs.length : Int) 300 = 300 := by omega
      have h6 : ¬ (cap : Int) < 300 := by omega
      clear h3
      go_enter Tryd.func20, Tryd.ntmps20
      go_wp2
      refine bodyPost_ret (v := .slice (some ⟨b, off, none⟩) 300 cap) (by simp [results, Tryd.results20, go_sem]) rfl ⟨⟨_, rfl, .inr ⟨b, off, cap, ?_, hb, fun j hj => ?_⟩⟩, rfl⟩
      · rw [List.length_take, Nat.min_eq_left h5.out]
      · rw [List.length_take] at hj
        rw [hc'.out j (by omega), List.getElem?_take_of_lt (by omega)]
    · have h1 : ¬ (300 : Int) < (zs.length : Int) := by omega
      have h5 := Lib.hid (show zs.length ≤ 300 by omega)
      have hm0 : min (zs.length : Int) 300 = (zs.length : Int) := by omega
      clear h3
      go_enter Tryd.func20, Tryd.ntmps20
      go_wp2
      refine bodyPost_ret (v := .slice (some ⟨b, off, none⟩) zs.length cap) (by simp [results, Tryd.results20, go_sem]) rfl ⟨⟨_, rfl, ?_⟩, rfl⟩
      rw [List.take_of_length_le h5.out]
      exact .inr ⟨b, off, cap, rfl, hb, hc'.out⟩

def ll (k : Nat) : List Int := [1, 9] ++ (List.range k).map fun i : Nat => 256 + (i : Int)
theorem ll_succ (k : Nat) : ll (k + 1) = ll k ++ [256 + (k : Int)] := by simp [ll, List.range_succ]
theorem ll_len (k : Nat) : (ll k).length = k + 2 := by simp [ll]
theorem ll_15 : ll 15 = shownL := by decide +kernel
theorem row_two (W : World) (a b : Int) : World.ownsRow (W.alloc (.cells #[.int .i64 a, .int .i64 b] 3)) W.heap.size 3 1 (.slice (some ⟨W.heap.size, 0, none⟩) 2 2) 2 ([a, b].map (Value.int .i64)) :=
  ⟨rfl, .inr ⟨_, 2, _, rfl, Nat.le_refl _, heap_alloc_new W _, Nat.le_refl _, by decide, rfl, rfl⟩⟩
theorem ints_one7 (W : World) (a : Int) : Ints (W.heap.size + 1) (W.alloc (.cells #[.int .i64 a] 3)) (.slice (some ⟨W.heap.size, 0, none⟩) 1 1) [a] := by
  refine .inr ⟨W.heap.size, 0, 1, rfl, Nat.lt_succ_self _, fun j hj => ?_⟩
  have hj' : j < 1 := hj
  obtain rfl : j = 0 := by omega
  simp

set_option maxRecDepth 100000 in
set_option maxHeartbeats 4000000 in
/-- **shown()**: yes. -/
theorem shown7_any (w : World) (hT : Tab w) :
    Calls Tryd.prog 10 #[] w fun e W' => e = .returned (.bool true) ∧ Below w.heap.size w W' := by
  obtain ⟨i0, hi, hz0, hz1, hz2⟩ := info_parts info_int
  have hB0 := Lib.hid ((Below.refl w.heap.size w).alloc (Nat.le_refl _) (.cells #[.int .i64 1, .int .i64 9] 3))
  have hr0 := Lib.hid (row_two w 1 9)
  go_enter Tryd.func10, Tryd.ntmps10
  go_wp2
  go_loopw [1, 2] (fun v i wr => ∃ k : Nat, k ≤ 15 ∧ i = .int .i64 (256 + k) ∧ Hid (wr.ownsRow w.heap.size 3 1 v (ll k).length ((ll k).map (Value.int .i64))) ∧ Hid (Below w.heap.size w wr))
    (fun _ i _ => 271 - (intOf i).toNat)
  case atStart => exact ⟨0, by omega, rfl, hr0, hB0⟩
  case round =>
    obtain ⟨k, hk, rfl, hrow, hBr⟩ := hrel
    have hl := ll_len k
    by_cases hlt : k < 15
    · have hkd : decide ((256 : Int) + (k : Int) ≤ 270) = true := by simp; omega
      have hrow' := hrow.out
      have hsz := Lib.hid hBr.out.size
      go_wp2_with (at_builtin; refine wpList_append_own _ rfl _ _ 34 rfl w.heap.size 3 i0 (.int .i64 0) 1 8 Tryd.underlying34 hi hz0 hz1 hz2 rfl (by decide) _ _ _ rfl (hrow'.alloc _) ⟨wr.heap.size, 0, none⟩ 1 1 [.int .i64 (256 + (k : Int))] rfl rfl (cell_one_new _ _ _) (ints_one _) (by unfold maxLen; omega) (by omega) (by simp; have := hsz.out; omega) ?_; intro v' w1 hown' hgrow _)
      have hne : ∀ g, Value.ownBlock _ = some g → w.heap.size ≤ g := fun g hg => ((hrow'.lt) g hg).1
      have hBB := Lib.hid ((hBr.out.alloc hBr.out.size (.cells #[.int .i64 (256 + (k : Int))] 3)).grown hgrow (by simp; have := hBr.out.size; omega) (fun g hg => hne g hg))
      go_roundw
      case rel => exact ⟨k + 1, by omega, by go_num, by show World.ownsRow _ _ _ _ _ _ _; rw [ll_len, ll_succ, List.map_append]; rw [ll_len] at hown'; exact hown', hBB⟩
      case measure => simp [intOf]; omega
    · have hkd : decide ((256 : Int) + (k : Int) ≤ 270) = false := by simp; omega
      obtain rfl : k = 15 := by omega
      have hin := Lib.hid (ints_of_row hrow.out rfl)
      have k3 := Lib.hid (make7_any hin.out (by simp [ll]) (hT.below hBr.out hT.lt))
      rw [ll_15] at k3
      have hz2 := Lib.hid shown_mk
      rw [shown_mk] at k3
      clear hl hlt hkd hrow hr0 hin
      go_wp2_with fail
      refine (k3.out).mono ?_
      rintro e W3 ⟨v3, rfl, hv3, hb3⟩
      obtain ⟨p3, c3, rfl, -⟩ := Hid.out hv3
      rw [shown_len] at *
      have hB3 := Lib.hid (hBr.out.trans (hb3.mono hBr.out.size))
      have hB4 := Lib.hid (hB3.out.alloc hB3.out.size (.cells #[.slice p3 2 c3] 24))
      have hv4 := hv3.alloc (.cells #[.slice p3 2 c3] 24)
      have hx4 := (RBox.new W3 (.slice p3 2 c3)).cell
      have k4 := Lib.hid (encode7_any hv4 (small_right shown_right) (by rw [shown_len]; decide) (hT.below hB4.out hT.lt))
      rw [shown_enc] at k4
      clear k3 hv3 hv4 hb3
      go_wp2_with fail
      refine (k4.out).mono ?_
      rintro e W4 ⟨rfl, hb4⟩
      have hB5 := Lib.hid (hB4.out.trans (hb4.mono hB4.out.size))
      have hB6 := Lib.hid (hB5.out.alloc hB5.out.size (.cells #[.int .i64 65536] 3))
      have k5 := Lib.hid (make7_any (by rw [World.size_alloc]; exact ints_one7 W4 65536) (by simp) (hT.below hB6.out hT.lt))
      rw [shown_bad] at k5
      clear k4 hx4 hb4
      go_wp2_with fail
      refine (k5.out).mono ?_
      rintro e W5 ⟨v5, rfl, hv5, hb5⟩
      obtain ⟨p5, c5, rfl, -⟩ := Hid.out hv5
      have hB7 := Lib.hid ((hB6.out.trans (hb5.mono hB6.out.size)).alloc (by have := hb5.size; have := hB6.out.size; omega) (.cells #[.slice p5 0 c5] 24))
      clear k5 hb5 hv5
      simp only [List.length_nil]
      go_wp2
      exact bodyPost_ret (v := .bool true) (by simp [results, Tryd.results10, go_sem]) rfl ⟨rfl, hB7.out⟩
end Go.Proofs.YtalnfbkmlllfhaaDoor
