/-
  Rb4, Rb5: several texts in one (merge.py).
-/
import Derived.Test.YtnigpmbpipmgfaaDoorRbVS

/-
  The reference's Column: a column's numbers, and where there are some. (Printed by genrb4.py.)
-/
namespace Go.Proofs.YtnigpmbpipmgfaaDoor
open Go.RowKit Tess

set_option linter.unusedSimpArgs false in
set_option maxRecDepth 100000 in
set_option maxHeartbeats 8000000 in
theorem rcol_any {b : Sl} {vE vB : Value} {w : World} (hE : HC w vE b.ex) (hB : HR w vB b.bits) (hs : SmallB b) :
    Calls Tryd.prog 57 #[.agg #[.int .i64 b.n, .int .i64 b.least, vE, vB]] w fun e W' => ∃ vl vh, e = .returned (.tuple #[vl, vh, .bool (isRightB b)]) ∧ (isRightB b = true → Ints W'.heap.size W' vl (colK b) ∧ BoolsAt W'.heap.size W' vh (hasK b)) ∧ Below w.heap.size w W' := by
  have hl := And.intro hs.lo hs.hi
  have no : ¬ IsCol b → isRightB b = false := not_right hl
  obtain ⟨pE, cE, rfl, -, -⟩ := Hid.out hE
  obtain ⟨pB, cB, rfl, -, -⟩ := Hid.out hB
  have x1 := SBox.new w 31 b.n b.least (.slice pE b.ex.length cE) (.slice pB b.bits.length cB)
  have hR : Below w.heap.size w (w.alloc (.cells #[.int .i64 b.n, .int .i64 b.least, .slice pE b.ex.length cE, .slice pB b.bits.length cB] 31)) := (Below.refl w.heap.size w).alloc (Nat.le_refl _) _
  have c0 := x1.c0; have c1 := x1.c1; have c2 := x1.c2; have c3 := x1.c3
  have hR' := Lib.hid hR
  have x1' := Lib.hid x1
  have k1 := Lib.hid (rright7_any (hE.later hR) hs.ex)
  clear x1 hR
  by_cases a1 : b.n < 0
  · have g1 : decide (b.n < 0) = true := decide_eq_true a1
    have hfin := Lib.hid (no fun h => by have := h.n0; omega)
    clear k1 no hl hs hE hB a1
    go_enter Tryd.func57, Tryd.ntmps57
    go_wp2
    exact bodyPost_ret (v := .tuple #[.slice none 0 0, .slice none 0 0, .bool false]) (by simp [results, Tryd.results57, go_sem]) rfl ⟨.slice none 0 0, .slice none 0 0, by rw [hfin.out], fun h => absurd (hfin.out.symm.trans h) (by decide), hR'.out⟩
  by_cases a2 : 1000 < b.n
  · have g1 : decide (b.n < 0) = false := decide_eq_false a1
    have g2 : decide (1000 < b.n) = true := decide_eq_true a2
    have g2' : decide (b.n > 1000) = true := g2
    have hfin := Lib.hid (no fun h => by have := h.n1; omega)
    clear k1 no hl hs hE hB a1 a2
    go_enter Tryd.func57, Tryd.ntmps57
    go_wp2
    exact bodyPost_ret (v := .tuple #[.slice none 0 0, .slice none 0 0, .bool false]) (by simp [results, Tryd.results57, go_sem]) rfl ⟨.slice none 0 0, .slice none 0 0, by rw [hfin.out], fun h => absurd (hfin.out.symm.trans h) (by decide), hR'.out⟩
  have g1 : decide (b.n < 0) = false := decide_eq_false a1
  have g2 : decide (1000 < b.n) = false := decide_eq_false a2
  have g2' : decide (b.n > 1000) = false := g2
  by_cases a3 : 64 < b.bits.length
  · have g3 : decide (64 < b.bits.length) = true := decide_eq_true a3
    have g4 : decide ((64 : Int) < (b.bits.length : Int)) = true := decide_eq_true (by omega)
    have hfin := Lib.hid (no fun h => by have := h.len; omega)
    clear k1 no hl hs hE hB a1 a2 a3
    go_enter Tryd.func57, Tryd.ntmps57
    go_wp2
    exact bodyPost_ret (v := .tuple #[.slice none 0 0, .slice none 0 0, .bool false]) (by simp [results, Tryd.results57, go_sem]) rfl ⟨.slice none 0 0, .slice none 0 0, by rw [hfin.out], fun h => absurd (hfin.out.symm.trans h) (by decide), hR'.out⟩
  have g3 : decide (64 < b.bits.length) = false := decide_eq_false a3
  have g4 : decide ((64 : Int) < (b.bits.length : Int)) = false := decide_eq_false (by omega)
  by_cases a4 : rightL b.ex = true
  case neg =>
    have a4' : rightL b.ex = false := by simpa using a4
    rw [a4'] at k1
    have hfin := Lib.hid (no fun h => a4 h.rex)
    clear no hl hs hE hB a1 a2 a3 a4 a4'
    go_enter Tryd.func57, Tryd.ntmps57
    go_wp2_with (go_at_call 89; refine (k1.out).mono ?_; rintro e W2 ⟨rfl, hb1⟩)
    exact bodyPost_ret (v := .tuple #[.slice none 0 0, .slice none 0 0, .bool false]) (by simp [results, Tryd.results57, go_sem]) rfl ⟨.slice none 0 0, .slice none 0 0, by rw [hfin.out], fun h => absurd (hfin.out.symm.trans h) (by decide), hR'.out.trans (hb1.mono hR'.out.size)⟩
  case pos =>
    rw [a4] at k1
    obtain ⟨N, hN⟩ : ∃ N : Nat, b.n = N := ⟨b.n.toNat, by omega⟩
    have hN1 : N ≤ 1000 := by omega
    have hm1 := fun W => make64 W hN hN1
    have hm2 := fun W => makeB W hN hN1
    have hN' := Lib.hid hN
    have hlen := Lib.hid (show b.bits.length ≤ 64 by omega)
    have a4' := Lib.hid a4
    have hl' := Lib.hid hl
    have no' := Lib.hid no
    have hs' := Lib.hid hs
    have hE' := Lib.hid hE
    have hB' := Lib.hid hB
    clear a1 a2 a3 a4 hl no hs hE hB hN
    go_enter Tryd.func57, Tryd.ntmps57
    go_wp2_with (go_at_call 89; refine (k1.out).mono ?_; rintro e W2 ⟨rfl, hb1⟩; have y := x1'.out.later hb1; have ya := y.alloc (.cells (madeCells #[.int .i64 0] N) 2); have yb := ya.alloc (.cells (madeCells #[.bool false] N) 4); have hB2 := hR'.out.trans (hb1.mono hR'.out.size); have hA2 := CoA.start (N := N) y hB2 (by have := hb1.size; simp at this; omega); clear k1 c0 c1 c2 c3; have d0 := y.c0; have e0 := ya.c0; have f2 := yb.c2)
    clear d0 e0 f2 y ya yb hm1 hm2 g1 g2 g2' g3 g4 x1' hR' hb1 hB2
    have hA := Lib.hid hA2
    clear hA2
    generalize (W2.alloc (.cells (madeCells #[.int .i64 0] N) 2)).alloc (.cells (madeCells #[.bool false] N) 4) = W3 at *
    obtain ⟨L, hL⟩ : ∃ L, W2.heap.size = L := ⟨_, rfl⟩
    obtain ⟨H, hH⟩ : ∃ H, L + 1 = H := ⟨_, rfl⟩
    rw [hL, hH] at hA
    try rw [hL]
    try rw [hH]
    obtain ⟨X, hX⟩ : ∃ X, valL b.ex = X := ⟨_, rfl⟩
    have hXm := Lib.hid (rows_mem a4'.out)
    have hXp := Lib.hid (rows_rising a4'.out)
    have hXl := rows_len b.ex
    have kV := rvalues7_fr (hE'.out.later hA.out.bl) hs'.out.ex
    rw [hX] at hXm hXp hXl kV
    clear hL hH hX
    refine kV.mono ?_
    rintro e W4 ⟨v', rfl, hI, -, hfr, hb4⟩
    obtain ⟨pX, cX, hv, -⟩ := Ints.slice (Hid.out hI)
    rw [List.length_map] at hv
    subst hv
    have hfX : Hid (∀ g, Value.ownBlock (.slice pX X.length cX) = some g → g ≠ L ∧ g ≠ H) := Lib.hid fun g hg => by
      have h1 := hfr g hg
      have h2 := hA.out.vl.lt
      have h3 := hA.out.vh.lt
      omega
    have hA4 := Lib.hid (hA.out.later hb4)
    clear kV hfr hb4 hA
    go_wp2
    go_loopw [8] (fun i wr => ∃ k : Nat, k ≤ X.length ∧ i = .int .i64 k ∧ Hid (CoA w wr b.n N b.least (.slice pE b.ex.length cE) (.slice pB b.bits.length cB) L H (fun r => if r ∈ X.take k then b.least else 0) (fun r => decide (r ∈ X.take k))) ∧ Hid (Ints wr.heap.size wr (.slice pX X.length cX) (X.map Int.ofNat)))
      (fun i _ => X.length - (intOf i).toNat)
    case atStart => exact ⟨0, Nat.zero_le _, rfl, Lib.hid (hA4.out.congr (fun j _ => by simp) (fun j _ => by simp)), hI⟩
    case round =>
      obtain ⟨k, hk, rfl, hA, hIr⟩ := hrel
      clear hA4 hI
      by_cases hlt : k < X.length
      · have hkd : decide ((k : Int) < (X.length : Int)) = true := decide_eq_true (by omega)
        have hkd2 : decide (k < X.length) = true := decide_eq_true hlt
        have hkl : (k : Int) < (X.length : Int) := by omega
        obtain ⟨pa, ca, hpa, hca⟩ := Ints.slice hIr.out
        rw [List.length_map] at hpa hca
        simp only [Value.slice.injEq] at hpa
        obtain ⟨rfl, -, rfl⟩ := hpa
        obtain ⟨bX, oX, rfl, hbX, hcX⟩ := hca k hlt
        obtain ⟨x, hx⟩ : ∃ x, X[k] = x := ⟨_, rfl⟩
        have hcv : (X.map Int.ofNat)[k]?.getD 0 = (x : Int) := by simp [hlt, hx]
        rw [hcv] at hcX
        have hxm : x ∈ X := by rw [← hx]; exact List.getElem_mem hlt
        have hxx := (hXm.out x).1 hxm
        have s0 := hA.out.sb.c0
        have h0x : (0 : Int) ≤ (x : Int) := by omega
        by_cases hxN : x < N
        · have n1 : decide (b.n ≤ (x : Int)) = false := decide_eq_false (by have := hN'.out; omega)
          have n2 : decide ((x : Int) ≥ b.n) = false := n1
          have hx1 : (x : Int) < (N : Int) := by omega
          have hA1 := hA.out.setH hxN true
          have v1 := hA.out.vh.cell hxN
          have v2 := hA.out.vh.frozen x
          have hb1 := (hfX.out bX rfl)
          have m2 : (wr.setCell ⟨H, x, none⟩ (.bool true)).cell? ⟨bX, oX + k, none⟩ = some (.int .i64 (x : Int)) := by
            unfold World.cell? at *
            dsimp only at *
            rw [Below.heap_setCell _ _ _ _ hb1.2]
            exact hcX
          have s1 := hA1.sb.c1
          have u1 := hA1.vl.cell hxN
          have u2 := hA1.vl.frozen x
          have hIr2 := Lib.hid (((hIr.out.far (q := ⟨H, x, none⟩) (fun g hg => (hfX.out g hg).2) (.bool true)).far (q := ⟨L, x, none⟩) (fun g hg => (hfX.out g hg).1) (.int .i64 b.least)))
          have hA2 := Lib.hid ((hA1.setL hxN b.least).congr (f' := fun r => if r ∈ X.take (k + 1) then b.least else 0) (h' := fun r => decide (r ∈ X.take (k + 1)))
            (fun j _ => by
              simp only [mem_take_succ hlt, hx]
              by_cases e : j = x
              · rw [if_pos e, if_pos (.inr e)]
              · rw [if_neg e]
                by_cases e2 : j ∈ X.take k
                · rw [if_pos e2, if_pos (.inl e2)]
                · rw [if_neg e2, if_neg (fun h => h.elim e2 e)])
            (fun j _ => by
              simp only [mem_take_succ hlt, hx]
              by_cases e : j = x
              · rw [if_pos e, decide_eq_true (.inr e)]
              · rw [if_neg e]
                exact decide_eq_decide.2 ⟨.inl, fun h => h.elim id (fun h => absurd h e)⟩))
          clear hA1 hA hIr hca hx hcv hxm hxx hlt hb1 hbX
          go_wp2
          go_region
          all_goals
            go_wp2
            go_region
          all_goals
            go_wp2
            go_roundw
            case rel => exact ⟨k + 1, by omega, by go_num, Lib.hid hA2.out.drew.drew, Lib.hid (hIr2.out.more (by simp))⟩
            case measure => simp [intOf]; omega
        · have n1 : decide (b.n ≤ (x : Int)) = true := decide_eq_true (by have := hN'.out; omega)
          have n2 : decide ((x : Int) ≥ b.n) = true := n1
          have hfin := Lib.hid (no'.out fun h => by have := h.rows x hxx.1 hxx.2; have := hN'.out; omega)
          have hBf := Lib.hid hA.out.bl
          clear hA hIr hca hx hcv hxm hxx hlt hbX
          go_wp2
          go_region
          all_goals
            go_wp2
            exact bodyPost_ret (v := .tuple #[.slice none 0 0, .slice none 0 0, .bool false]) (by simp [results, Tryd.results57, go_sem]) rfl ⟨.slice none 0 0, .slice none 0 0, by rw [hfin.out], fun h => absurd (hfin.out.symm.trans h) (by decide), (by first | exact hBf.out | exact hBf.out.drew)⟩
      · have hkd : decide ((k : Int) < (X.length : Int)) = false := decide_eq_false (by omega)
        have hkd2 : decide (k < X.length) = false := decide_eq_false hlt
        have htk : X.take k = X := List.take_of_length_le (by omega)
        rw [htk] at hA
        have hA5 := Lib.hid (hA.out.congr (f' := upK b 0) (h' := bitL b.ex)
          (fun j hj => by
            have hj' : j < 65536 := by omega
            rw [upK_zero hl'.out]
            by_cases e : bitL b.ex j = true
            · rw [if_pos e, if_pos ((hXm.out j).2 ⟨hj', e⟩)]
            · rw [if_neg e, if_neg (fun h => e ((hXm.out j).1 h).2)])
          (fun j hj => by
            have hj' : j < 65536 := by omega
            cases e : bitL b.ex j
            · exact decide_eq_false fun h => by rw [((hXm.out j).1 h).2] at e; cases e
            · exact decide_eq_true ((hXm.out j).2 ⟨hj', e⟩)))
        have hn9 : b.n ≤ 1000 := by have := hN'.out; omega
        clear hA hIr htk hXm hXp hXl hfX hlt hk
        go_wp2
        clear hkd hkd2
        go_loopw [9] (fun i wr => ∃ k : Nat, k ≤ b.bits.length ∧ i = .int .i64 k ∧ Hid (CoA w wr b.n N b.least (.slice pE b.ex.length cE) (.slice pB b.bits.length cB) L H (upK b k) (bitL b.ex)))
          (fun i _ => b.bits.length - (intOf i).toNat)
        case atStart => exact ⟨0, Nat.zero_le _, rfl, hA5⟩
        case round =>
          obtain ⟨k, hk, rfl, hA⟩ := hrel
          clear hA5
          have z3 := hA.out.sb.c3
          by_cases hlt : k < b.bits.length
          · have hkd : decide ((k : Int) < (b.bits.length : Int)) = true := decide_eq_true (by omega)
            have hkd2 : decide (k < b.bits.length) = true := decide_eq_true hlt
            have hkl : (k : Int) < (b.bits.length : Int) := by omega
            have hk64 : k < 64 := by have := hlen.out; omega
            obtain ⟨bb, off, px, cx, rfl, hbb, hcx, hx⟩ := (hB'.out.later hA.out.bl).at k hlt
            have hxs : Small (b.bits[k]?.getD []) := by
              rw [List.getElem?_eq_getElem hlt]
              exact hs'.out.bits _ (List.getElem_mem hlt)
            have hxm : b.bits[k]?.getD [] ∈ b.bits := by
              rw [List.getElem?_eq_getElem hlt]
              exact List.getElem_mem hlt
            have kR := Lib.hid (rright7_any hx hxs)
            by_cases a5 : rightL (b.bits[k]?.getD []) = true
            case neg =>
              have a5' : rightL (b.bits[k]?.getD []) = false := by simpa using a5
              rw [a5'] at kR
              have hfin := Lib.hid (no'.out fun h => a5 (h.rbits _ hxm))
              have hBf := Lib.hid hA.out.bl
              clear hA hlt hx hxs hxm a5 a5' hbb
              generalize b.bits[k]?.getD [] = xl at *
              go_wp2_with (go_at_call 89; refine (kR.out).mono ?_; rintro e W5 ⟨rfl, hb5⟩; clear hcx)
              exact bodyPost_ret (v := .tuple #[.slice none 0 0, .slice none 0 0, .bool false]) (by simp [results, Tryd.results57, go_sem]) rfl ⟨.slice none 0 0, .slice none 0 0, by rw [hfin.out], fun h => absurd (hfin.out.symm.trans h) (by decide), hBf.out.trans (hb5.mono hBf.out.size)⟩
            case pos =>
              rw [a5] at kR
              have hup := Lib.hid (fun (r : Nat) (hr : r < 65536) => upK_succ (b := b) (k := k) a5 hr)
              have hbad := Lib.hid (fun (r : Nat) (hr : r < 65536) (hb : bitL (b.bits[k]?.getD []) r = true) (hn : N ≤ r) => no'.out fun h => by have := h.rows r hr (h.inn _ hxm r hr hb); have := hN'.out; omega)
              have hYm := Lib.hid (rows_mem a5)
              have hYp := Lib.hid (rows_rising a5)
              have hYl := rows_len (b.bits[k]?.getD [])
              obtain ⟨Y, hY⟩ : ∃ Y, valL (b.bits[k]?.getD []) = Y := ⟨_, rfl⟩
              have kV : Hid (∀ W', Below wr.heap.size wr W' → Calls Tryd.prog 90 #[.agg #[.slice px (b.bits[k]?.getD []).length cx]] W' fun e W'' => ∃ v', e = .returned v' ∧ HI W'' v' ((valL (b.bits[k]?.getD [])).map Int.ofNat) ∧ Fr W'.heap.size v' ∧ Below W'.heap.size W' W'') := fun W' h =>
                (rvalues7_fr (hx.later h) hxs).mono fun _ _ ⟨v', h1, h2, _, h3, h4⟩ => ⟨v', h1, h2, h3, h4⟩
              rw [hY] at hYm hYp hYl kV
              have hbb' := Lib.hid hbb
              have hcx' := Lib.hid hcx
              clear hx hxs hxm a5 hbb hY hlt
              generalize b.bits[k]?.getD [] = xl at *
              go_wp2_with (go_at_call 89; refine (kR.out).mono ?_; rintro e W5 ⟨rfl, hb5⟩; have hA5 := hA.out.later hb5; have z5 := hA5.sb.c3; have hcy := (hb5.cell (p := ⟨bb, off + k, none⟩) hbb'.out).trans hcx'.out; clear kR z3 hcx)
              have kV5 := kV.out _ hb5
              clear kV z5 hcy hA hkd hkd2
              refine kV5.mono ?_
              rintro e W6 ⟨v', rfl, hI, hfr, hb6⟩
              obtain ⟨pX, cX, hv, -⟩ := Ints.slice (Hid.out hI)
              rw [List.length_map] at hv
              subst hv
              have hfX : Hid (∀ g, Value.ownBlock (.slice pX Y.length cX) = some g → g ≠ L) := Lib.hid fun g hg => by
                have h1 := hfr g hg
                have h2 := hA5.vl.lt
                omega
              have hA6 := Lib.hid (hA5.later hb6)
              clear kV5 hfr hb6 hA5 hbb' hcx' hb5
              go_wp2
              go_loopw [11] (fun i wi => ∃ m : Nat, m ≤ Y.length ∧ i = .int .i64 m ∧ Hid (CoA w wi b.n N b.least (.slice pE b.ex.length cE) (.slice (some ⟨bb, off, none⟩) b.bits.length cB) L H (fun r => if r ∈ Y.take m then upK b (k + 1) r else upK b k r) (bitL b.ex)) ∧ Hid (Ints wi.heap.size wi (.slice pX Y.length cX) (Y.map Int.ofNat)))
                (fun i _ => Y.length - (intOf i).toNat)
              case atStart => exact ⟨0, Nat.zero_le _, rfl, Lib.hid (hA6.out.congr (fun j _ => by simp) (fun j _ => rfl)), hI⟩
              case round =>
                obtain ⟨m, hm, rfl, hA, hIr⟩ := hrel
                clear hA6 hI
                by_cases hlt : m < Y.length
                · have hkd : decide ((m : Int) < (Y.length : Int)) = true := decide_eq_true (by omega)
                  have hkd2 : decide (m < Y.length) = true := decide_eq_true hlt
                  have hml : (m : Int) < (Y.length : Int) := by omega
                  obtain ⟨pa, ca, hpa, hca⟩ := Ints.slice hIr.out
                  rw [List.length_map] at hpa hca
                  simp only [Value.slice.injEq] at hpa
                  obtain ⟨rfl, -, rfl⟩ := hpa
                  obtain ⟨bX, oX, rfl, hbX, hcX⟩ := hca m hlt
                  obtain ⟨x, hx⟩ : ∃ x, Y[m] = x := ⟨_, rfl⟩
                  have hcv : (Y.map Int.ofNat)[m]?.getD 0 = (x : Int) := by simp [hlt, hx]
                  rw [hcv] at hcX
                  have hxm : x ∈ Y := by rw [← hx]; exact List.getElem_mem hlt
                  have hxx := (hYm.out x).1 hxm
                  have s0 := hA.out.sb.c0
                  have h0x : (0 : Int) ≤ (x : Int) := by omega
                  by_cases hxN : x < N
                  · have n1 : decide (b.n ≤ (x : Int)) = false := decide_eq_false (by have := hN'.out; omega)
                    have n2 : decide ((x : Int) ≥ b.n) = false := n1
                    have hx1 : (x : Int) < (N : Int) := by omega
                    have hnt := not_mem_take hYp.out hlt
                    rw [hx] at hnt
                    have u1 := hA.out.vl.cell hxN
                    rw [if_neg hnt] at u1
                    have u2 := hA.out.vl.frozen x
                    have hupx := hup.out x hxx.1
                    rw [if_pos hxx.2] at hupx
                    have hrg := upK_range b k x
                    obtain ⟨z, hz⟩ : ∃ z, upK b (k + 1) x = z := ⟨_, rfl⟩
                    have hIr2 := Lib.hid (hIr.out.far (q := ⟨L, x, none⟩) (fun g hg => hfX.out g hg) (.int .i64 z))
                    have hA2 := Lib.hid ((hA.out.setL hxN z).congr (f' := fun r => if r ∈ Y.take (m + 1) then upK b (k + 1) r else upK b k r) (h' := bitL b.ex)
                      (fun j _ => by
                        simp only [mem_take_succ hlt, hx]
                        by_cases e : j = x
                        · rw [if_pos e, if_pos (.inr e), e, hz]
                        · rw [if_neg e]
                          by_cases e2 : j ∈ Y.take m
                          · rw [if_pos e2, if_pos (.inl e2)]
                          · rw [if_neg e2, if_neg (fun h => h.elim e2 e)])
                      (fun j _ => rfl))
                    rw [hz] at hupx
                    have hmk : min k 64 = k := Nat.min_eq_left (by omega)
                    obtain ⟨y, hy⟩ : ∃ y, upK b k x = y := ⟨_, rfl⟩
                    rw [hy] at u1 hupx hrg
                    clear hz hy
                    obtain ⟨P, hP⟩ : ∃ P : Int, (2 : Int) ^ k = P := ⟨_, rfl⟩
                    rw [hP] at hupx
                    have hP' := Lib.hid hP
                    have hpw : Hid (wrap64 (IntKind.u64.wrap (IntKind.u64.wrap y + IntKind.u64.wrap (2 ^ k))) = z) := by
                      show _ = _
                      rw [hP'.out, hupx, wrap_eq, IntKind.wrap_i64, IntKind.wrap_u64, IntKind.wrap_u64, IntKind.wrap_u64]
                      omega
                    clear hA hIr hca hx hcv hxm hxx hlt hbX hnt hrg hP hupx
                    go_wp2
                    go_region
                    all_goals
                      go_wp2
                      go_region
                    all_goals
                      go_wp2
                      rw [hpw.out]
                      go_roundw
                      case rel => exact ⟨m + 1, by omega, by go_num, Lib.hid hA2.out.drew.drew, Lib.hid (hIr2.out.more (by simp))⟩
                      case measure => simp [intOf]; omega
                  · have n1 : decide (b.n ≤ (x : Int)) = true := decide_eq_true (by have := hN'.out; omega)
                    have n2 : decide ((x : Int) ≥ b.n) = true := n1
                    have hfin := Lib.hid (hbad.out x hxx.1 hxx.2 (by omega))
                    have hBf := Lib.hid hA.out.bl
                    clear hA hIr hca hx hcv hxm hxx hlt hbX
                    go_wp2
                    go_region
                    all_goals
                      go_wp2
                      exact bodyPost_ret (v := .tuple #[.slice none 0 0, .slice none 0 0, .bool false]) (by simp [results, Tryd.results57, go_sem]) rfl ⟨.slice none 0 0, .slice none 0 0, by rw [hfin.out], fun h => absurd (hfin.out.symm.trans h) (by decide), (by first | exact hBf.out | exact hBf.out.drew)⟩
                · have hkd : decide ((m : Int) < (Y.length : Int)) = false := decide_eq_false (by omega)
                  have hkd2 : decide (m < Y.length) = false := decide_eq_false hlt
                  have htk : Y.take m = Y := List.take_of_length_le (by omega)
                  rw [htk] at hA
                  have hA7 := Lib.hid (hA.out.congr (f' := upK b (k + 1)) (h' := bitL b.ex)
                    (fun j hj => by
                      have hj' : j < 65536 := by have := hN'.out; omega
                      by_cases e : j ∈ Y
                      · rw [if_pos e]
                      · rw [if_neg e, hup.out j hj', if_neg (fun h => e ((hYm.out j).2 ⟨hj', h⟩)), Int.add_zero]
                        have := upK_range b k j
                        rw [IntKind.wrap_i64]
                        omega)
                    (fun j _ => rfl))
                  clear hA hIr htk hlt hm
                  go_wp2
                  go_roundw
                  case rel => exact ⟨k + 1, by omega, by go_num, hA7⟩
                  case measure => simp [intOf]; omega
          · have hkd : decide ((k : Int) < (b.bits.length : Int)) = false := decide_eq_false (by omega)
            have hkd2 : decide (k < b.bits.length) = false := decide_eq_false hlt
            obtain rfl : k = b.bits.length := by omega
            obtain ⟨hi1, hi2⟩ := hA.out.both hN'.out
            have ok := colK_ok hn9
            have hsm := mkB_small ok
            have kB := rbuild_any hi1 hi2 ok.rg
            have eB : buildB (colK b) (hasK b) = (mkB (colK b) (hasK b), 0) := if_pos ⟨ok.len, ok.eq⟩
            rw [eB] at kB
            dsimp only at kB
            have kB' := Lib.hid kB
            have hfin : Hid (sameS (mkB (colK b) (hasK b)) b = isRightB b) := by
              show _ = _
              rw [Bool.eq_iff_iff, sameS_iff, col_iff hn9 hl'.out]
            have hcol := Lib.hid (And.intro hi1 hi2)
            have hsm' := Lib.hid hsm
            clear hlt hk eB kB ok hi1 hi2 hsm
            generalize mkB (colK b) (hasK b) = bb at *
            have hAf := hA
            go_wp2_with (go_at_call 20; refine (kB'.out).mono ?_; rintro e W5 ⟨vE5, vB5, rfl, hE5, hB5, hb5⟩; obtain ⟨pE5, cE5, rfl, -, -⟩ := Hid.out hE5; obtain ⟨pB5, cB5, rfl, -, -⟩ := Hid.out hB5; have hA5 := (Below.refl _ W5).alloc (Nat.le_refl _) (.cells #[.int .i64 bb.n, .int .i64 bb.least, .slice pE5 bb.ex.length cE5, .slice pB5 bb.bits.length cB5] 31); have q5 := SBox.new W5 31 bb.n bb.least (.slice pE5 bb.ex.length cE5) (.slice pB5 bb.bits.length cB5); have hC5 := (hAf.out.later hb5).later hA5; have c0 := hC5.sb.c0; have c1 := hC5.sb.c1; have c2 := hC5.sb.c2; have c3 := hC5.sb.c3; have d0 := q5.c0; have d1 := q5.c1; have d2 := q5.c2; have d3 := q5.c3)
            have kS := rsame_any (hE5.later hA5) (hB5.later hA5) (hE'.out.later hC5.bl) (hB'.out.later hC5.bl) hsm'.out.ex.1 (fun z hz => (hsm'.out.bits z hz).1) hsm'.out.len
            have hcol2 := Lib.hid (And.intro ((hcol.out.1.below (hb5.trans (hA5.mono hb5.size)) (Nat.le_refl _)).more (hb5.trans (hA5.mono hb5.size)).size) ((hcol.out.2.below (hb5.trans (hA5.mono hb5.size)) (Nat.le_refl _)).more (hb5.trans (hA5.mono hb5.size)).size))
            rw [hfin.out] at kS
            clear c0 c1 c2 c3 d0 d1 d2 d3 q5 hcol hA5 hb5 hE5 hB5 hA hAf kB'
            refine kS.mono ?_
            rintro e W6 ⟨rfl, hb6⟩
            have hBf := Lib.hid (hC5.bl.trans (hb6.mono hC5.bl.size))
            have hcol3 := Lib.hid (And.intro ((hcol2.out.1.below hb6 (Nat.le_refl _)).more hb6.size) ((hcol2.out.2.below hb6 (Nat.le_refl _)).more hb6.size))
            clear kS hcol2 hC5 hb6
            go_wp2
            exact bodyPost_ret (v := .tuple #[.slice (some ⟨L, 0, none⟩) N N, .slice (some ⟨H, 0, none⟩) N N, .bool (isRightB b)]) (by simp [results, Tryd.results57, go_sem]) rfl ⟨_, _, rfl, fun _ => hcol3.out, hBf.out⟩
end Go.Proofs.YtnigpmbpipmgfaaDoor

/-
  The reference's Right, Get.
-/
namespace Go.Proofs.YtnigpmbpipmgfaaDoor
open Go.RowKit Tess

theorem len_colK (b : Sl) : (colK b).length = b.n.toNat := by unfold colK numK; rw [List.length_map, List.length_range]
theorem len_hasK (b : Sl) : (hasK b).length = b.n.toNat := by unfold hasK; rw [List.length_map, List.length_range]
theorem get_hasK (b : Sl) {r : Nat} (h : r < b.n.toNat) : (hasK b)[r]?.getD false = bitL b.ex r := by
  unfold hasK
  simp [h]
theorem getB_ref {b : Sl} (hl : -9223372036854775808 ≤ b.least ∧ b.least ≤ 9223372036854775807) (hri : isRightB b = true) (row : Int) :
    getB b row = if 0 ≤ row ∧ row < ((colK b).length : Int) ∧ (hasK b)[row.toNat]?.getD false = true then (vI (colK b) row.toNat, true) else (0, false) := by
  have hc := (right_iff hl).1 hri
  have h0 := hc.n0
  unfold getB
  rw [len_colK, hasL_bits hc.rex]
  by_cases h : 0 ≤ row ∧ row < ((b.n.toNat : Nat) : Int) ∧ (hasK b)[row.toNat]?.getD false = true
  · rw [if_pos h]
    obtain ⟨h1, h2, h3⟩ := h
    have hlt : row.toNat < b.n.toNat := by omega
    rw [get_hasK b hlt] at h3
    have := hc.n1
    rw [if_pos ⟨hri, by rw [decide_eq_true (by omega), h3]; rfl⟩]
    congr 1
    unfold colK numK
    rw [vI_map, if_pos hlt]
    unfold upK
    rw [if_pos h3, show ((row.toNat : Nat) : Int) = row by omega]
  · rw [if_neg h, if_neg]
    rintro ⟨-, h2⟩
    rw [Bool.and_eq_true, decide_eq_true_eq] at h2
    have h4 := hc.rows row.toNat (by omega) h2.2
    exact h ⟨h2.1.1, by omega, by rw [get_hasK b (by omega)]; exact h2.2⟩

set_option linter.unusedSimpArgs false in
set_option maxRecDepth 100000 in
set_option maxHeartbeats 4000000 in
theorem rrightS_any {b : Sl} {vE vB : Value} {w : World} (hE : HC w vE b.ex) (hB : HR w vB b.bits) (hs : SmallB b) :
    Calls Tryd.prog 25 #[.agg #[.int .i64 b.n, .int .i64 b.least, vE, vB]] w fun e W' => e = .returned (.bool (isRightB b)) ∧ Below w.heap.size w W' := by
  obtain ⟨pE, cE, rfl, -, -⟩ := Hid.out hE
  obtain ⟨pB, cB, rfl, -, -⟩ := Hid.out hB
  have x1 := SBox.new w 31 b.n b.least (.slice pE b.ex.length cE) (.slice pB b.bits.length cB)
  have hR : Below w.heap.size w (w.alloc (.cells #[.int .i64 b.n, .int .i64 b.least, .slice pE b.ex.length cE, .slice pB b.bits.length cB] 31)) := (Below.refl w.heap.size w).alloc (Nat.le_refl _) _
  have c0 := x1.c0; have c1 := x1.c1; have c2 := x1.c2; have c3 := x1.c3
  have hR' := Lib.hid hR
  have k1 := Lib.hid (rcol_any (hE.later hR) (hB.later hR) hs)
  clear x1 hR hE hB hs
  go_enter Tryd.func25, Tryd.ntmps25
  go_wp2_with (go_at_call 57; refine (k1.out).mono ?_; rintro e W2 ⟨vl, vh, rfl, -, hb⟩)
  exact bodyPost_ret (v := .bool (isRightB b)) (by simp [results, Tryd.results25, go_sem]) rfl ⟨rfl, hR'.out.trans (hb.mono hR'.out.size)⟩

set_option linter.unusedSimpArgs false in
set_option maxRecDepth 100000 in
set_option maxHeartbeats 4000000 in
theorem rget_any {b : Sl} {vE vB : Value} (row : Int) {w : World} (hE : HC w vE b.ex) (hB : HR w vB b.bits) (hs : SmallB b) :
    Calls Tryd.prog 22 #[.agg #[.int .i64 b.n, .int .i64 b.least, vE, vB], .int .i64 row] w fun e W' => e = .returned (.tuple #[.int .i64 (getB b row).1, .bool (getB b row).2]) ∧ Below w.heap.size w W' := by
  obtain ⟨pE, cE, rfl, -, -⟩ := Hid.out hE
  obtain ⟨pB, cB, rfl, -, -⟩ := Hid.out hB
  have x1 := SBox.new w 31 b.n b.least (.slice pE b.ex.length cE) (.slice pB b.bits.length cB)
  have hR : Below w.heap.size w (w.alloc (.cells #[.int .i64 b.n, .int .i64 b.least, .slice pE b.ex.length cE, .slice pB b.bits.length cB] 31)) := (Below.refl w.heap.size w).alloc (Nat.le_refl _) _
  have c0 := x1.c0; have c1 := x1.c1; have c2 := x1.c2; have c3 := x1.c3
  have hR' := Lib.hid hR
  have k1 := rcol_any (hE.later hR) (hB.later hR) hs
  have hl := And.intro hs.lo hs.hi
  clear x1 hR hE hB hs
  cases hri : isRightB b with
  | false =>
    rw [hri] at k1
    have hfin : Hid (getB b row = (0, false)) := Lib.hid (by unfold getB; rw [if_neg]; rintro ⟨h, -⟩; rw [hri] at h; cases h)
    have k1' := Lib.hid k1
    clear k1 hri hl
    rw [hfin.out]
    dsimp only
    go_enter Tryd.func22, Tryd.ntmps22
    go_wp2_with (go_at_call 57; refine (k1'.out).mono ?_; rintro e W2 ⟨vl, vh, rfl, -, hb⟩)
    exact bodyPost_ret (v := .tuple #[.int .i64 0, .bool false]) (by simp [results, Tryd.results22, go_sem]) rfl ⟨rfl, hR'.out.trans (hb.mono hR'.out.size)⟩
  | true =>
    have hg := getB_ref hl hri row
    have e1 : (hasK b).length = (colK b).length := by rw [len_colK, len_hasK]
    rw [hri] at k1
    have k2 : Hid (Calls Tryd.prog 57 #[.agg #[.int .i64 b.n, .int .i64 b.least, .slice pE b.ex.length cE, .slice pB b.bits.length cB]] (w.alloc (.cells #[.int .i64 b.n, .int .i64 b.least, .slice pE b.ex.length cE, .slice pB b.bits.length cB] 31)) fun e W' => ∃ pl cl ph ch, e = .returned (.tuple #[.slice pl (colK b).length cl, .slice ph (colK b).length ch, .bool true]) ∧ (∀ j, j < (colK b).length → ∃ b' off, pl = some ⟨b', off, none⟩ ∧ W'.cell? ⟨b', off + j, none⟩ = some (.int .i64 (vI (colK b) j))) ∧ (∀ j, j < (colK b).length → ∃ b' off, ph = some ⟨b', off, none⟩ ∧ W'.cell? ⟨b', off + j, none⟩ = some (.bool ((hasK b)[j]?.getD false))) ∧ Below (w.alloc (.cells #[.int .i64 b.n, .int .i64 b.least, .slice pE b.ex.length cE, .slice pB b.bits.length cB] 31)).heap.size (w.alloc (.cells #[.int .i64 b.n, .int .i64 b.least, .slice pE b.ex.length cE, .slice pB b.bits.length cB] 31)) W') :=
      Lib.hid (k1.mono fun e W' h => by
        obtain ⟨vl, vh, rfl, hh, hb⟩ := h
        obtain ⟨hi, hbo⟩ := hh rfl
        obtain ⟨pl, cl, rfl, h1⟩ := Ints.slice hi
        obtain ⟨ph, ch, rfl, h2⟩ := hbo
        rw [e1] at h2
        refine ⟨pl, cl, ph, ch, by rw [e1], fun j hj => ?_, fun j hj => ?_, hb⟩
        · obtain ⟨b', off, h3, -, h4⟩ := h1 j hj
          exact ⟨b', off, h3, h4⟩
        · obtain ⟨b', off, h3, -, h4⟩ := h2 j hj
          exact ⟨b', off, h3, h4⟩)
    clear k1 hri hl e1
    generalize colK b = l at *
    generalize hasK b = hs at *
    go_enter Tryd.func22, Tryd.ntmps22
    by_cases h1 : row < 0
    · have d1 : decide (row < 0) = true := decide_eq_true h1
      rw [if_neg (by omega)] at hg
      have hg' := Lib.hid hg
      clear hg h1
      go_wp2_with (go_at_call 57; refine (k2.out).mono ?_; rintro e W2 ⟨pl, cl, ph, ch, rfl, hcl, hch, hb⟩)
      exact bodyPost_ret (v := .tuple #[.int .i64 0, .bool false]) (by simp [results, Tryd.results22, go_sem]) rfl ⟨by rw [hg'.out], hR'.out.trans (hb.mono hR'.out.size)⟩
    · have d1 : decide (row < 0) = false := decide_eq_false h1
      obtain ⟨r, rfl⟩ : ∃ r : Nat, row = r := ⟨row.toNat, by omega⟩
      rw [Int.toNat_natCast] at hg
      by_cases h2 : r < l.length
      · have d2 : decide ((l.length : Int) ≤ (r : Int)) = false := decide_eq_false (by omega)
        have d3 : decide (l.length ≤ r) = false := decide_eq_false (by omega)
        have d4 : (0 : Int) ≤ (r : Int) := by omega
        have d5 : (r : Int) < (l.length : Int) := by omega
        cases h3 : hs[r]?.getD false with
        | false =>
          rw [if_neg (by rw [h3]; rintro ⟨-, -, h⟩; cases h)] at hg
          have hg' := Lib.hid hg
          have h3' := Lib.hid h3
          have h2' := Lib.hid h2
          clear hg h1 h3 h2
          go_wp2_with (go_at_call 57; refine (k2.out).mono ?_; rintro e W2 ⟨pl, cl, ph, ch, rfl, hcl, hch, hb⟩; clear k2 c0 c1 c2 c3; obtain ⟨b2, o2, rfl, m2⟩ := hch r h2'.out; rw [h3'.out] at m2; clear hcl hch)
          exact bodyPost_ret (v := .tuple #[.int .i64 0, .bool false]) (by simp [results, Tryd.results22, go_sem]) rfl ⟨by rw [hg'.out], hR'.out.trans (hb.mono hR'.out.size)⟩
        | true =>
          rw [if_pos ⟨by omega, by omega, h3⟩] at hg
          have hg' := Lib.hid hg
          have h3' := Lib.hid h3
          have h2' := Lib.hid h2
          clear hg h1 h3 h2
          go_wp2_with (go_at_call 57; refine (k2.out).mono ?_; rintro e W2 ⟨pl, cl, ph, ch, rfl, hcl, hch, hb⟩; clear k2 c0 c1 c2 c3; obtain ⟨b2, o2, rfl, m2⟩ := hch r h2'.out; obtain ⟨b1, o1, rfl, m1⟩ := hcl r h2'.out; rw [h3'.out] at m2; clear hcl hch)
          exact bodyPost_ret (v := .tuple #[.int .i64 (vI l r), .bool true]) (by simp [results, Tryd.results22, go_sem]) rfl ⟨by rw [hg'.out], hR'.out.trans (hb.mono hR'.out.size)⟩
      · have d2 : decide ((l.length : Int) ≤ (r : Int)) = true := decide_eq_true (by omega)
        have d3 : decide (l.length ≤ r) = true := decide_eq_true (by omega)
        rw [if_neg (by omega)] at hg
        have hg' := Lib.hid hg
        clear hg h1 h2
        go_wp2_with (go_at_call 57; refine (k2.out).mono ?_; rintro e W2 ⟨pl, cl, ph, ch, rfl, hcl, hch, hb⟩)
        exact bodyPost_ret (v := .tuple #[.int .i64 0, .bool false]) (by simp [results, Tryd.results22, go_sem]) rfl ⟨by rw [hg'.out], hR'.out.trans (hb.mono hR'.out.size)⟩
end Go.Proofs.YtnigpmbpipmgfaaDoor
