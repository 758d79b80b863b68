/-
  The law's Cut: slices of at most seventy bitmaps.
-/
import Derived.Test.YtnigpmbpipmgfaaDoorRbB
import Derived.Test.YtnigpmbpipmgfaaDoorFew7
namespace Go.Proofs.YtnigpmbpipmgfaaDoor
open Go.RowKit Tess

/-- What Cut answers. -/
def cutB (b : Sl) : Sl := ⟨b.n, b.least, fewL b.ex, (b.bits.take 70).map fewL⟩
theorem cutB_small {b : Sl} (h : -9223372036854775808 ≤ b.least ∧ b.least ≤ 9223372036854775807) : SmallB (cutB b) := by
  refine ⟨fewL_small _, fun x hx => ?_, ?_, h.1, h.2⟩
  · obtain ⟨y, -, rfl⟩ := List.mem_map.1 (show x ∈ (b.bits.take 70).map fewL from hx)
    exact fewL_small _
  · show ((b.bits.take 70).map fewL).length ≤ 1000000
    rw [List.length_map, List.length_take]
    omega

set_option linter.unusedSimpArgs false in
set_option maxRecDepth 100000 in
set_option maxHeartbeats 8000000 in
theorem cut_any {b : Sl} {vE vB : Value} {w : World} (hE : HC w vE b.ex) (hB : HR w vB b.bits) :
    Calls Tryd.prog 19 #[.agg #[.int .i64 b.n, .int .i64 b.least, vE, vB]] w fun e W' => ∃ vE' vB', e = .returned (.agg #[.int .i64 (cutB b).n, .int .i64 (cutB b).least, vE', vB']) ∧ HC W' vE' (cutB b).ex ∧ (∃ base, w.heap.size ≤ base ∧ RowR W' base vB' (cutB b).bits) ∧ Below w.heap.size w W' := by
  obtain ⟨ir, hir, hr0, hr1, hr2⟩ := info_parts info_roar
  show Calls _ _ _ _ fun e W' => ∃ vE' vB', e = .returned (.agg #[.int .i64 b.n, .int .i64 b.least, vE', vB']) ∧ HC W' vE' (fewL b.ex) ∧ (∃ base, w.heap.size ≤ base ∧ RowR W' base vB' ((b.bits.take 70).map fewL)) ∧ Below w.heap.size w W'
  obtain ⟨pE, cE, rfl, -, -⟩ := Hid.out hE
  obtain ⟨pB, cB, rfl, -, -⟩ := Hid.out hB
  have q1 := (SBox.new w 31 b.n b.least (.slice pE b.ex.length cE) (.slice pB b.bits.length cB)).alloc (.cells #[.int .i64 0, .int .i64 0, .slice none 0 0, .slice none 0 0] 31)
  have r1 := SBox.new (w.alloc (.cells #[.int .i64 b.n, .int .i64 b.least, .slice pE b.ex.length cE, .slice pB b.bits.length cB] 31)) 31 0 0 (.slice none 0 0) (.slice none 0 0)
  simp only [World.size_alloc] at r1
  have hR : Below w.heap.size w ((w.alloc (.cells #[.int .i64 b.n, .int .i64 b.least, .slice pE b.ex.length cE, .slice pB b.bits.length cB] 31)).alloc (.cells #[.int .i64 0, .int .i64 0, .slice none 0 0, .slice none 0 0] 31)) := ((Below.refl w.heap.size w).alloc (Nat.le_refl _) _).alloc (by simp) _
  have kf := Lib.hid (fewR_any (hE.later hR))
  have q1' := Lib.hid q1
  have r1' := Lib.hid r1
  have hR' := Lib.hid hR
  have c2 := q1.c2
  clear q1 r1 hR
  go_enter Tryd.func19, Tryd.ntmps19
  go_wp2_with (go_at_call 26; refine (kf.out).mono ?_; rintro e W2 ⟨u, rfl, hu, hb2⟩; clear kf c2; obtain ⟨pu, cu, rfl, -, -⟩ := Hid.out hu; have q2 := q1'.out.later hb2; have f2 := q2.frozen 2; have e2 := q2.c2)
  have hB3 := Lib.hid ((hR'.out.trans (hb2.mono hR'.out.size)).setCell (p := ⟨w.heap.size, 2, none⟩) (Nat.le_refl _) (.slice pu (fewL b.ex).length cu))
  have q3 := Lib.hid (q2.setE (.slice pu (fewL b.ex).length cu))
  have r3 := Lib.hid ((r1'.out.later hb2).far (p := ⟨w.heap.size, 2, none⟩) (by dsimp only; omega) (.slice pu (fewL b.ex).length cu))
  have hu3 := Lib.hid (hu.setS (i := 2) q2 ⟨_, _, _, rfl⟩ ⟨_, _, _, rfl⟩ (.slice pu (fewL b.ex).length cu))
  have hBits := Lib.hid (hB.later hB3.out)
  clear q2 f2 e2 hu hb2 q1' r1' hR' hE hB
  generalize W2.setCell ⟨w.heap.size, 2, none⟩ (.slice pu (fewL b.ex).length cu) = W3 at *
  go_loopw [3, 4] (fun v i wr => ∃ k : Nat, k ≤ b.bits.length ∧ k ≤ 70 ∧ i = .int .i64 k ∧ Hid (RowR wr W3.heap.size v ((b.bits.take k).map fewL)) ∧ Hid (Below W3.heap.size W3 wr))
    (fun _ i _ => b.bits.length - (intOf i).toNat)
  case atStart => exact ⟨0, Nat.zero_le _, Nat.zero_le _, rfl, Lib.hid (RowR.nil _ _), Lib.hid (Below.refl _ _)⟩
  case round =>
    obtain ⟨k, hk, hk70, rfl, hrw, hBr⟩ := hrel
    have q4 := Lib.hid (q3.out.later hBr.out)
    have c3 := q4.out.c3
    have hlen : ((b.bits.take k).map fewL).length = k := by rw [List.length_map, List.length_take]; omega
    by_cases hlt : k < b.bits.length ∧ k < 70
    · obtain ⟨hlt, h70⟩ := hlt
      have hkd : decide ((k : Int) < (b.bits.length : Int)) = true := decide_eq_true (by omega)
      have hkd2 : decide ((k : Int) < 70) = true := decide_eq_true (by omega)
      have hkd3 : decide (k < b.bits.length) = true := decide_eq_true hlt
      obtain ⟨bb, off, px, cx, rfl, hbb, hcx, hx⟩ := (hBits.out.later hBr.out).at k hlt
      have hkl : (k : Int) < (b.bits.length : Int) := by omega
      have kf := Lib.hid (fewR_fr hx)
      obtain ⟨us, hus⟩ := hrw.out
      have hus' := Lib.hid hus
      have hrowk := hus.1
      rw [hlen] at hrowk
      have hst : Hid ((b.bits.take (k + 1)).map fewL = (b.bits.take k).map fewL ++ [fewL (b.bits[k]?.getD [])]) := by
        show _ = _
        rw [List.take_succ_eq_append_getElem hlt, List.map_append, List.getElem?_eq_getElem hlt]
        rfl
      obtain ⟨x, hxx⟩ : ∃ x, b.bits[k]?.getD [] = x := ⟨_, rfl⟩
      rw [hxx] at hcx kf hst
      have hsz := Lib.hid hBr.out.size
      clear hus hrw hx hlt hxx
      obtain ⟨pv, cv, hv⟩ := row_slice hrowk
      subst hv
      go_wp2_with (first
        | (go_at_call 26; refine (kf.out).mono ?_; rintro e Wn ⟨u2, rfl, hu2, hbn, hfr⟩; clear kf c3 hcx; obtain ⟨p2, c2, rfl, -, -⟩ := Hid.out hu2; have hrown := own_later hrowk hbn; have hrow4 := own_later hrown ((Below.refl _ Wn).alloc (Nat.le_refl _) (.cells #[.slice p2 (fewL x).length c2] 28)); have hszn := Lib.hid hbn.size)
        | (at_builtin; refine wpList_append_lies _ rfl _ _ 29 rfl W3.heap.size 28 ir (.agg #[.slice none 0 0]) 1 24 Tryd.underlying29 hir hr0 hr1 hr2 rfl (by decide) _ _ _ rfl hrow4 ⟨Wn.heap.size, 0, none⟩ 1 1 [.slice p2 (fewL x).length c2] rfl rfl (cell_one_new _ _ _) (by simp [Value.oneCell']) (by decide) (by unfold maxLen; omega) (by omega) (by have h1 := hsz.out; have h2 := hszn.out; simp; omega) _ rfl ?_; intro g cap w1 hown' hgrow hloc hlt))
      have hA4 : Below Wn.heap.size Wn (Wn.alloc (.cells #[.slice p2 (fewL x).length c2] 28)) := (Below.refl _ Wn).alloc (Nat.le_refl _) _
      have hBd4 := hbn.trans (hA4.mono hbn.size)
      have hne1 : ∀ y, Value.ownBlock (.slice pv k cv) = some y → W3.heap.size ≤ y := fun y hy => (hrowk.lt y hy).1
      have hown2 : w1.ownsRow W3.heap.size 28 1 (.slice (some ⟨g, 0, none⟩) (((b.bits.take k).map fewL).length + 1) cap) (((b.bits.take k).map fewL).length + 1) (us ++ [.slice p2 (fewL x).length c2]) := by rw [hlen]; exact hown'
      have hrw5 := RowR.appended (W2 := Wn.alloc (.cells #[.slice p2 (fewL x).length c2] 28)) (W3 := w1) (base := W3.heap.size) (v := .slice pv k cv) (ls := (b.bits.take k).map fewL) hBd4 (hu2.later hA4) hfr hus'.out hown2 hgrow hloc
      rw [hlen, ← hst.out] at hrw5
      have hB5 := Lib.hid ((hBr.out.trans (hBd4.mono hBr.out.size)).grown hgrow (by have h1 := hBr.out.size; have h2 := hBd4.size; omega) (fun y hy => hne1 y hy))
      have hrw6 := Lib.hid hrw5
      go_roundw
      case rel => exact ⟨k + 1, by omega, by omega, by go_num, hrw6, hB5⟩
      case measure => simp [intOf]; omega
    · have htk : (b.bits.take k).map fewL = (b.bits.take 70).map fewL := by
        by_cases h : k < b.bits.length
        · have : k = 70 := by omega
          rw [this]
        · rw [List.take_of_length_le (by omega), List.take_of_length_le (by omega)]
      obtain ⟨pv, cv, hv⟩ := hrw.out.slice
      rw [hlen] at hv
      subst hv
      rw [htk] at hrw hlen
      have hkc : k < b.bits.length → k = 70 := fun h => by omega
      have r4 := Lib.hid (r3.out.later hBr.out)
      have g3 := q4.out.frozen 3
      have hrw5 := hrw.out.setS (i := 3) q4.out ⟨_, _, _, rfl⟩ ⟨_, _, _, rfl⟩ (by have := q3.out.lt; exact this) (.slice pv k cv)
      have hu5 := (hu3.out.later hBr.out).setS (i := 3) q4.out ⟨_, _, _, rfl⟩ ⟨_, _, _, rfl⟩ (.slice pv k cv)
      have q5 := q4.out.setB (.slice pv k cv)
      have r5 := r4.out.far (p := ⟨w.heap.size, 3, none⟩) (by dsimp only; omega) (.slice pv k cv)
      have d0 := q5.c0; have d1 := q5.c1; have d2 := q5.c2; have d3 := q5.c3
      have e0 := r5.c0; have e1 := r5.c1; have e2 := r5.c2; have e3 := r5.c3
      have f0 := r5.frozen 0; have f1 := r5.frozen 1; have f2 := r5.frozen 2; have f3 := r5.frozen 3
      have hEx : ∃ p m c, (Value.slice none 0 0 : Value) = .slice p m c := ⟨_, _, _, rfl⟩
      have hF1 := Lib.hid (hu5.set4 r5 hEx hEx b.n b.least ⟨pu, (fewL b.ex).length, cu, rfl⟩ (.slice pv k cv))
      have hF2 := Lib.hid (row_set4 hrw5 r5 hEx hEx (by have := r3.out.lt; exact this) b.n b.least ⟨pu, (fewL b.ex).length, cu, rfl⟩ (.slice pv k cv))
      have hbs := Lib.hid hB3.out.size
      have hF3 := r5.set4 b.n b.least (.slice pu (fewL b.ex).length cu) (.slice pv k cv)
      have hBw := (hB3.out.trans (hBr.out.mono hB3.out.size)).setCell (p := ⟨w.heap.size, 3, none⟩) (Nat.le_refl _) (.slice pv k cv)
      have hF4 := Lib.hid ((((hBw.setCell (p := ⟨w.heap.size + 1, 0, none⟩) (by dsimp only; omega) (.int .i64 b.n)).setCell (p := ⟨w.heap.size + 1, 1, none⟩) (by dsimp only; omega) (.int .i64 b.least)).setCell (p := ⟨w.heap.size + 1, 2, none⟩) (by dsimp only; omega) (.slice pu (fewL b.ex).length cu)).setCell (p := ⟨w.heap.size + 1, 3, none⟩) (by dsimp only; omega) (.slice pv k cv))
      have x0 := hF3.c0; have x1 := hF3.c1; have x2 := hF3.c2; have x3 := hF3.c3
      clear hBw hF3 hrw5 hu5 q5 r5 hrw r4 hu3 hBits htk hlen hEx
      by_cases hlt1 : k < b.bits.length
      · obtain rfl := hkc hlt1
        have hkd : decide (((70 : Nat) : Int) < (b.bits.length : Int)) = true := decide_eq_true (by omega)
        have hkd2 : decide ((70 : Int) < (b.bits.length : Int)) = true := decide_eq_true (by omega)
        clear hlt hlt1 hk
        go_wp2
        refine bodyPost_ret (v := .agg #[.int .i64 b.n, .int .i64 b.least, .slice pu (fewL b.ex).length cu, .slice pv 70 cv]) ?_ rfl ⟨_, _, rfl, hF1.out, ⟨_, hbs.out, (by first | exact hF2.out | (rw [← List.map_take]; exact hF2.out))⟩, hF4.out⟩
        simp [results, Tryd.results19, go_sem, x0, x1, x2, x3]
      · have hkd : decide ((k : Int) < (b.bits.length : Int)) = false := decide_eq_false (by omega)
        have hkd2 : decide (k < b.bits.length) = false := decide_eq_false hlt1
        clear hlt
        go_wp2
        refine bodyPost_ret (v := .agg #[.int .i64 b.n, .int .i64 b.least, .slice pu (fewL b.ex).length cu, .slice pv k cv]) ?_ rfl ⟨_, _, rfl, hF1.out, ⟨_, hbs.out, (by first | exact hF2.out | (rw [← List.map_take]; exact hF2.out))⟩, hF4.out⟩
        simp [results, Tryd.results19, go_sem, x0, x1, x2, x3]
end Go.Proofs.YtnigpmbpipmgfaaDoor
