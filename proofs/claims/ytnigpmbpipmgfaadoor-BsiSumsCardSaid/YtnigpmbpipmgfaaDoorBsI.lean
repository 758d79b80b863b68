/-
  column.isRight, Right.
-/
import Derived.Test.YtnigpmbpipmgfaaDoorBsGH
import Derived.Test.YtnigpmbpipmgfaaDoorHeldX
namespace Go.Proofs.YtnigpmbpipmgfaaDoor
open Go.RowKit Tess

/-- A column whose bitmaps are small. -/
structure SmallB (b : Sl) : Prop where
  ex : Small b.ex
  bits : ∀ x ∈ b.bits, Small x
  len : b.bits.length ≤ 1000000
  lo : -9223372036854775808 ≤ b.least
  hi : b.least ≤ 9223372036854775807

theorem SBox.far {W : World} {t : TypeId} {b : Nat} {n least : Int} {vE vB : Value} (h : SBox W t b n least vE vB) {p : Addr} (hp : b ≠ p.block) (u : Value) : SBox (W.setCell p u) t b n least vE vB := (Below.heap_setCell W p u b hp).trans h

theorem wrap_sum (l : Int) (u : Nat) : IntKind.i64.wrap (IntKind.u64.wrap (IntKind.u64.wrap l + (u : Int))) = IntKind.i64.wrap (l + u) := by
  rw [IntKind.wrap_u64, IntKind.wrap_u64, IntKind.wrap_i64, IntKind.wrap_i64]; omega

/-- What a region that calls holds to: the column's box. -/
def ColAt (w : World) (n least : Int) (vE vB : Value) (W' : World) : Prop :=
  Hid (Below w.heap.size w W') ∧ Hid (SBox W' 83 w.heap.size n least vE vB) ∧ W'.cell? ⟨w.heap.size, 0, none⟩ = some (.int .i64 n) ∧ W'.cell? ⟨w.heap.size, 1, none⟩ = some (.int .i64 least) ∧ W'.cell? ⟨w.heap.size, 2, none⟩ = some vE ∧ W'.cell? ⟨w.heap.size, 3, none⟩ = some vB
theorem col_at {w W' : World} {n least : Int} {vE vB : Value} (h1 : Below w.heap.size w W') (h2 : SBox W' 83 w.heap.size n least vE vB) : Hid (Below w.heap.size w W') ∧ Hid (SBox W' 83 w.heap.size n least vE vB) ∧ W'.cell? ⟨w.heap.size, 0, none⟩ = some (.int .i64 n) ∧ W'.cell? ⟨w.heap.size, 1, none⟩ = some (.int .i64 least) ∧ W'.cell? ⟨w.heap.size, 2, none⟩ = some vE ∧ W'.cell? ⟨w.heap.size, 3, none⟩ = some vB :=
  ⟨Lib.hid h1, Lib.hid h2, h2.c0, h2.c1, h2.c2, h2.c3⟩
theorem col_keep {w W Wn : World} {n least : Int} {vE vB : Value} (hb : Below W.heap.size W Wn) (s1 : Hid (Below w.heap.size w W)) (s2 : Hid (SBox W 83 w.heap.size n least vE vB)) : Hid (Below w.heap.size w Wn) ∧ Hid (SBox Wn 83 w.heap.size n least vE vB) ∧ Wn.cell? ⟨w.heap.size, 0, none⟩ = some (.int .i64 n) ∧ Wn.cell? ⟨w.heap.size, 1, none⟩ = some (.int .i64 least) ∧ Wn.cell? ⟨w.heap.size, 2, none⟩ = some vE ∧ Wn.cell? ⟨w.heap.size, 3, none⟩ = some vB :=
  col_at (s1.out.trans (hb.mono s1.out.size)) (s2.out.later hb)

set_option maxRecDepth 100000 in
set_option linter.unusedSimpArgs false in
set_option maxHeartbeats 8000000 in
theorem isRight_any {b : Sl} {vE vB : Value} {w : World} (hE : HC w vE b.ex) (hB : HR w vB b.bits) (hs : SmallB b) (hT : Tab w) :
    Calls Tryd.prog 47 #[.agg #[.int .i64 b.n, .int .i64 b.least, vE, vB]] w fun e W' => e = .returned (.bool (isRightB b)) ∧ Below w.heap.size w W' := by
  obtain ⟨n, least, ex, bs⟩ := b
  obtain ⟨hsx, hsb, hsl, hlo, hhi⟩ := hs
  dsimp only at hE hB hsx hsb hsl hlo hhi ⊢
  obtain ⟨pE, cE, rfl, -, -⟩ := Hid.out hE
  obtain ⟨pB, cB, rfl, -, hcB⟩ := Hid.out hB
  have hT' := Lib.hid hT
  have hsx' := Lib.hid hsx
  have hsb' := Lib.hid hsb
  have hcB' := Lib.hid hcB
  have hE' := Lib.hid hE
  have hB' := Lib.hid hB
  have hlo' := Lib.hid hlo
  have hhi' := Lib.hid hhi
  have b0 := (SBox.new w 83 n least (.slice pE ex.length cE) (.slice pB bs.length cB)).alloc (.cells #[.slice none 0 0] 28)
  have r0 := RBox.new (w.alloc (.cells #[.int .i64 n, .int .i64 least, .slice pE ex.length cE, .slice pB bs.length cB] 83)) (.slice none 0 0)
  have hB0 : Below w.heap.size w ((w.alloc (.cells #[.int .i64 n, .int .i64 least, .slice pE ex.length cE, .slice pB bs.length cB] 83)).alloc (.cells #[.slice none 0 0] 28)) := ((Below.refl _ w).alloc (Nat.le_refl _) _).alloc (by simp) _
  simp only [World.size_alloc] at r0
  have e0 := b0.c0
  have e3 := b0.c3
  have b0' := Lib.hid b0
  have r0' := Lib.hid r0
  have hB0' := Lib.hid hB0
  clear hT hsx hsb hcB hE hB b0 r0 hB0 hlo hhi
  go_enter Tryd.func47, Tryd.ntmps47
  go_wp2
  refine wp_scope_jumps 0 (fun a' w' => ∃ tmps : Array Value, tmps.size = 107 ∧ a' = { tmps, defers := [] } ∧ Hid (Below w.heap.size w w') ∧ Hid (isRightB ⟨n, least, ex, bs⟩ = false)) (fun _ _ => 0) (by rfl) ?first ?pass
  case pass =>
    rintro a' w' ⟨tmps, hsz, rfl, hb, hf⟩
    go_wp2
    simp only [Exit.jump]
    refine bodyPost_ret (v := .bool false) ?_ rfl ⟨by rw [hf.out], hb.out⟩
    simp [results, Tryd.results47, go_sem, hsz]
  case first =>
    by_cases h1 : n < 0
    · have h1' : decide (n < 0) = true := decide_eq_true h1
      go_wp2
      go_step3
      refine ⟨rfl, _, rfl, rfl, hB0', ?_⟩
      · show _ = _
        unfold isRightB
        rw [decide_eq_false (show ¬ 0 ≤ n by omega)]; rfl
    have h1' : decide (n < 0) = false := decide_eq_false h1
    by_cases h2 : 1000 < n
    · have h2' : decide (1000 < n) = true := decide_eq_true h2
      go_wp2
      go_step3
      refine ⟨rfl, _, rfl, rfl, hB0', ?_⟩
      · show _ = _
        unfold isRightB
        rw [decide_eq_false (show ¬ n ≤ 1000 by omega)]; simp
    have h2' : decide (1000 < n) = false := decide_eq_false h2
    by_cases h3 : 64 < bs.length
    · have h3' : decide (64 < bs.length) = true := decide_eq_true h3
      go_wp2
      go_step3
      refine ⟨rfl, _, rfl, rfl, hB0', ?_⟩
      · show _ = _
        unfold isRightB
        rw [decide_eq_false (show ¬ bs.length ≤ 64 by omega)]; simp
    have h3' : decide (64 < bs.length) = false := decide_eq_false h3
    obtain ⟨sp, hsp, hspr, -⟩ := flip_some (l := []) (a := 0) (b := n) right_nil ⟨by decide, by decide, by omega, by omega⟩
    have hspe : spanL 0 n = (sp, 0) := hsp
    have hss := small_right hspr
    have hk := Lib.hid (span7_any 0 n (hT'.out.below hB0'.out hT'.out.lt))
    rw [hspe] at hk
    have hspe' := Lib.hid hspe
    have hss' := Lib.hid hss
    clear hspe hsp hspr hss
    go_wp2_with fail
    refine (hk.out).mono ?_
    rintro e W2 ⟨v2, rfl, hv2, hb2⟩
    obtain ⟨p2, c2, rfl, -, -⟩ := Hid.out hv2
    have r2 := r0'.out.later hb2
    have r2f := r2.frozen
    have r2c := r2.cell
    have r3 := r2.set (.slice p2 sp.length c2)
    have x3 := (b0'.out.later hb2).far (p := ⟨w.heap.size + 1, 0, none⟩) (by simp) (.slice p2 sp.length c2)
    have hv3 := hv2.setR r2 (.slice p2 sp.length c2)
    have hB3 := (hB0'.out.trans (hb2.mono hB0'.out.size)).setCell (p := ⟨w.heap.size + 1, 0, none⟩) (by simp) (.slice p2 sp.length c2)
    have hk3 := Lib.hid (isWithin_any (hE'.out.later hB3) hv3 hsx'.out hss'.out (hT'.out.below hB3 hT'.out.lt))
    have r3c := (b0'.out.later hb2).c2
    have x3' := Lib.hid x3
    have hB3' := Lib.hid hB3
    clear hk b0' r0' hv2 hb2 r2 r3 x3 hv3 hB3 e0 e3 hB0' hss'
    go_wp2_with fail
    refine (hk3.out).mono ?_
    rintro e W4 ⟨rfl, hb4⟩
    have x4 := Lib.hid (x3'.out.later hb4)
    have hB4 := Lib.hid (hB3'.out.trans (hb4.mono hB3'.out.size))
    clear hk3 hb4 x3' hB3' r2f r2c r3c
    cases hw : withinL ex sp with
    | false =>
      have hfin : Hid (isRightB ⟨n, least, ex, bs⟩ = false) := by
        show _ = _
        unfold isRightB
        rw [hspe'.out]
        dsimp only
        rw [hw]; simp
      go_wp2
      go_step3
      exact ⟨rfl, _, rfl, rfl, hB4, hfin⟩
    | true =>
      have hw' := Lib.hid hw
      clear hw
      have e3 := x4.out.c3
      go_wp2
      clear e3
      go_loopw [47] (fun i wr => ∃ k : Nat, k ≤ bs.length ∧ i = .int .i64 k ∧ Hid ((bs.take k).all (withinL · ex) = true) ∧ Hid (SBox wr 83 w.heap.size n least (.slice pE ex.length cE) (.slice pB bs.length cB)) ∧ Hid (Below w.heap.size w wr))
        (fun i _ => bs.length - (intOf i).toNat)
      case atStart => exact ⟨0, Nat.zero_le _, rfl, by show _ = _; simp, x4, hB4⟩
      case round =>
        obtain ⟨k, hk, rfl, hall, hx, hB⟩ := hrel
        by_cases hlt : k < bs.length
        · have hkd : decide (k < bs.length) = true := decide_eq_true hlt
          obtain ⟨b, off, u, hpe, hb, hu, hch⟩ := hcB'.out k hlt
          have hch2 : HC w u bs[k] := Lib.hid hch
          obtain ⟨pu, cu, rfl, -, -⟩ := Hid.out hch2
          subst hpe
          have hcc := (hB.out.cell (p := ⟨b, off + k, none⟩) hb).trans hu
          have hsk := hsb'.out _ (List.getElem_mem hlt)
          have hall2 : Hid ((bs.take (k + 1)).all (withinL · ex) = withinL bs[k] ex) := by
            show _ = _
            rw [List.take_succ_eq_append_getElem hlt, List.all_append, hall.out]; simp
          have hbad : Hid (withinL bs[k] ex = false → isRightB ⟨n, least, ex, bs⟩ = false) := fun h => by
            have : bs.all (withinL · ex) = false := by
              rw [List.all_eq_false]
              exact ⟨_, List.getElem_mem hlt, by rw [h]; decide⟩
            unfold isRightB
            dsimp only
            rw [this]; simp
          generalize bs[k] = lb at *
          have hR1 := (Below.refl _ wr).alloc (Nat.le_refl _) (.cells #[.slice pu lb.length cu] 28)
          have hB5 := hB.out.alloc hB.out.size (.cells #[.slice pu lb.length cu] 28)
          have hx5 := hx.out.alloc (.cells #[.slice pu lb.length cu] 28)
          have e2 := hx5.c2
          have n1 := (RBox.new wr (.slice pu lb.length cu)).cell
          have hk3 := Lib.hid (isWithin_any (hch2.later hB5) (hE'.out.later hB5) hsk hsx'.out (hT'.out.below hB5 hT'.out.lt))
          have hx5' := Lib.hid hx5
          have hB5' := Lib.hid hB5
          clear hch2 hch hR1 hB5 hx5 hu hsk
          go_wp2_with fail
          refine (hk3.out).mono ?_
          rintro e W6 ⟨rfl, hb6⟩
          have hx6 := Lib.hid (hx5'.out.later hb6)
          have hB6 := Lib.hid (hB5'.out.trans (hb6.mono hB5'.out.size))
          clear hk3 hb6 hx5' hB5'
          cases hw : withinL lb ex with
          | false =>
            have hfin := Lib.hid (hbad.out hw)
            clear hw
            go_wp2
            go_step3
            exact ⟨rfl, _, rfl, rfl, hB6, hfin⟩
          | true =>
            rw [hw] at hall2
            clear hw hbad
            go_wp2
            go_roundw
            case rel => exact ⟨k + 1, by omega, by go_num, hall2, hx6, hB6⟩
            case measure => simp [intOf]; omega
        · have hkd : decide (k < bs.length) = false := decide_eq_false hlt
          have hall2 : Hid (bs.all (withinL · ex) = true) := by
            have := hall.out
            rw [List.take_of_length_le (by omega)] at this
            exact this
          have e2 := hx.out.c2
          have e1 := hx.out.c1
          have e3 := hx.out.c3
          have hpre : Hid (isRightB ⟨n, least, ex, bs⟩ = (if ex = [] then least == 0 && bs.isEmpty else (bs.isEmpty || decide (bs.getLastD [] ≠ [])) && decide (least ≤ IntKind.i64.wrap (least + (upD bs.reverse ex 0 : Nat))) && decide (downD bs.reverse ex 0 = 0))) := by
            show _ = _
            unfold isRightB
            rw [hspe'.out]
            dsimp only
            rw [hw'.out, hall2.out, decide_eq_true (show 0 ≤ n by omega), decide_eq_true (show n ≤ 1000 by omega), decide_eq_true (show bs.length ≤ 64 by omega)]
            rfl
          have hrb : Hid (∀ x ∈ bs, rightL x = true) := fun x hx => by
            have := List.all_eq_true.1 hall2.out x hx
            exact (within_iff.1 this).1.1
          have hrx : Hid (rightL ex = true) := (within_iff.1 hw'.out).1.1
          clear hall
          cases hex : ex with
          | nil =>
            subst hex
            rw [if_pos rfl] at hpre
            by_cases q1 : least = 0
            · have q1' : (least == 0) = true := by simpa using q1
              rw [q1'] at hpre
              cases bs with
              | nil =>
                go_wp2
                simp only [Exit.jump]
                exact bodyPost_ret (v := .bool true) (by simp [results, Tryd.results47, go_sem]) rfl ⟨by rw [hpre.out]; rfl, hB.out⟩
              | cons x t =>
                have q2 : (((x :: t).length : Int) == 0) = false := by simp; omega
                have hpre2 : Hid (isRightB ⟨n, least, [], x :: t⟩ = false) := hpre.out
                clear hcB' hsb' hB' hall2 hrb hpre
                generalize (x :: t).length = m at *
                go_wp2
                simp only [Exit.jump]
                exact bodyPost_ret (v := .bool false) (by simp [results, Tryd.results47, go_sem]) rfl ⟨by rw [hpre2.out], hB.out⟩
            · have q1' : (least == 0) = false := by simpa using q1
              rw [q1'] at hpre
              have hpre2 : Hid (isRightB ⟨n, least, [], bs⟩ = false) := hpre.out
              go_wp2
              simp only [Exit.jump]
              exact bodyPost_ret (v := .bool false) (by simp [results, Tryd.results47, go_sem]) rfl ⟨by rw [hpre2.out], hB.out⟩
          | cons x0 t0 =>
            have hne : ex ≠ [] := by rw [hex]; exact List.cons_ne_nil _ _
            rw [← hex]
            clear hex
            rw [if_neg hne] at hpre
            have hpos : ((ex.length : Int) == 0) = false := by
              have := List.length_pos_iff.2 hne
              simp; omega
            have hE2 := hE'.out
            generalize hexl : ex.length = m at *
            have x7 := hx.out
            have hx7 : SBox wr.drew 83 w.heap.size n least (.slice pE m cE) (.slice pB bs.length cB) := x7
            have hg : Hid (∀ W', Below w.heap.size w W' → Calls Tryd.prog 62 #[.agg #[.int .i64 n, .int .i64 least, .slice pE m cE, .slice pB bs.length cB], .agg #[.slice pE m cE]] W' fun e W'' => e = .returned (.int .u64 (upD bs.reverse ex 0 : Nat)) ∧ Below W'.heap.size W' W'') :=
              fun W' hb => greatest_any (N := n) (least := least) W' (hB'.out.later hb) hrb.out (by omega) (hE2.later hb) hrx.out (hT'.out.below hb hT'.out.lt)
            have hl : Hid (∀ W', Below w.heap.size w W' → Calls Tryd.prog 61 #[.agg #[.int .i64 n, .int .i64 least, .slice pE m cE, .slice pB bs.length cB], .agg #[.slice pE m cE]] W' fun e W'' => e = .returned (.int .u64 (downD bs.reverse ex 0 : Nat)) ∧ Below W'.heap.size W' W'') :=
              fun W' hb => least_any (N := n) (least := least) W' (hB'.out.later hb) hrb.out (by omega) (hE2.later hb) hrx.out (hT'.out.below hb hT'.out.lt)
            obtain ⟨up, hup⟩ : ∃ up, upD bs.reverse ex 0 = up := ⟨_, rfl⟩
            rw [hup] at hg hpre
            obtain ⟨dn, hdn⟩ : ∃ dn, downD bs.reverse ex 0 = dn := ⟨_, rfl⟩
            rw [hdn] at hl hpre
            have hBd := Lib.hid hB.out.drew
            have e0 := hx7.c0
            have e0' := x7.c0
            have hMd := col_at hBd.out hx7
            by_cases hbs : bs = []
            · subst hbs
              have hpre2 : Hid (isRightB ⟨n, least, ex, []⟩ = (decide (least ≤ IntKind.i64.wrap (least + (up : Nat))) && decide (dn = 0))) := by
                show _ = _
                rw [hpre.out]; simp
              have hg2 : Hid (∀ W', Below w.heap.size w W' → Calls Tryd.prog 62 #[.agg #[.int .i64 n, .int .i64 least, .slice pE m cE, .slice pB 0 cB], .agg #[.slice pE m cE]] W' fun e W'' => e = .returned (.int .u64 (up : Nat)) ∧ Below W'.heap.size W' W'') := hg
              have hl2 : Hid (∀ W', Below w.heap.size w W' → Calls Tryd.prog 61 #[.agg #[.int .i64 n, .int .i64 least, .slice pE m cE, .slice pB 0 cB], .agg #[.slice pE m cE]] W' fun e W'' => e = .returned (.int .u64 (dn : Nat)) ∧ Below W'.heap.size W' W'') := hl
              simp only [List.length_nil, Int.natCast_zero, Int.cast_ofNat_Int] at hMd e3 ⊢
              clear hcB' hsb' hsx' hall2 hrb hpre hlo' hhi' hw' hspe' hrx hE' hE2 hB' hT' x4 hB4 hne hup hexl hdn hg hl hkd hlt hk hx hx7 h3 h3'
              go_wp2
              refine region_late (S := (fun W' => Hid (Below w.heap.size w W') ∧ Hid (SBox W' 83 w.heap.size n least (.slice pE m cE) (.slice pB 0 cB)) ∧ W'.cell? ⟨w.heap.size, 0, none⟩ = some (.int .i64 n) ∧ W'.cell? ⟨w.heap.size, 1, none⟩ = some (.int .i64 least) ∧ W'.cell? ⟨w.heap.size, 2, none⟩ = some (.slice pE m cE) ∧ W'.cell? ⟨w.heap.size, 3, none⟩ = some (.slice pB 0 cB))) (fun n => n == 999) (by kernel_rfl) hMd (fun hHeld => ?_)
              clear hMd
              refine wpAnyL_take (i := 0) (oi := { dst := some 86, op := _, type := _, pos := _, after := _, guard := _ }) (v := ?v1) rfl (by kernel_rfl) (by kernel_rfl) (by kernel_rfl) (by kernel_rfl) (fun _ _ _ h => h) (Or.inl ⟨by kernel_rfl, ?y1⟩) hHeld ?r1
              case y1 =>
                intro w hSw
                try dsimp only at hSw
                try simp only [List.getElem_toArray, List.getElem_cons_zero, List.getElem_cons_succ]
                go_simp
                try with_reducible rfl
              try simp only [List.getElem_toArray, List.getElem_cons_zero, List.getElem_cons_succ, Act.put, List.setIfInBounds_toArray, List.set_cons_zero, List.set_cons_succ]
              refine wpAnyL_take (i := 1) (oi := { dst := some 87, op := _, type := _, pos := _, after := _, guard := _ }) (v := ?v2) rfl (by kernel_rfl) (by kernel_rfl) (by kernel_rfl) (by kernel_rfl) (fun _ _ _ h => h) (Or.inl ⟨by kernel_rfl, ?y2⟩) hHeld ?r2
              case y2 =>
                intro w hSw
                try dsimp only at hSw
                try simp only [List.getElem_toArray, List.getElem_cons_zero, List.getElem_cons_succ]
                go_simp
                try with_reducible rfl
              try simp only [List.getElem_toArray, List.getElem_cons_zero, List.getElem_cons_succ, Act.put, List.setIfInBounds_toArray, List.set_cons_zero, List.set_cons_succ]
              refine wpAnyL_take (i := 2) (oi := { dst := some 88, op := _, type := _, pos := _, after := _, guard := _ }) (v := ?v3) rfl (by kernel_rfl) (by kernel_rfl) (by kernel_rfl) (by kernel_rfl) (fun _ _ _ h => h) (Or.inl ⟨by kernel_rfl, ?y3⟩) hHeld ?r3
              case y3 =>
                intro w hSw
                try dsimp only at hSw
                try simp only [List.getElem_toArray, List.getElem_cons_zero, List.getElem_cons_succ]
                go_simp
                try with_reducible rfl
              try simp only [List.getElem_toArray, List.getElem_cons_zero, List.getElem_cons_succ, Act.put, List.setIfInBounds_toArray, List.set_cons_zero, List.set_cons_succ]
              refine wpAnyL_take (i := 3) (oi := { dst := some 89, op := _, type := _, pos := _, after := _, guard := _ }) (v := ?v4) rfl (by kernel_rfl) (by kernel_rfl) (by kernel_rfl) (by kernel_rfl) (fun _ _ _ h => h) (Or.inl ⟨by kernel_rfl, ?y4⟩) hHeld ?r4
              case y4 =>
                intro w hSw
                try dsimp only at hSw
                try simp only [List.getElem_toArray, List.getElem_cons_zero, List.getElem_cons_succ]
                go_simp
                try with_reducible rfl
              try simp only [List.getElem_toArray, List.getElem_cons_zero, List.getElem_cons_succ, Act.put, List.setIfInBounds_toArray, List.set_cons_zero, List.set_cons_succ]
              refine wpAnyL_take (i := 4) (oi := { dst := some 90, op := _, type := _, pos := _, after := _, guard := _ }) (v := ?v5) rfl (by kernel_rfl) (by kernel_rfl) (by kernel_rfl) (by kernel_rfl) (fun _ _ _ h => h) (Or.inl ⟨by kernel_rfl, ?y5⟩) hHeld ?r5
              case y5 =>
                intro w hSw
                try dsimp only at hSw
                try simp only [List.getElem_toArray, List.getElem_cons_zero, List.getElem_cons_succ]
                go_simp
                try with_reducible rfl
              try simp only [List.getElem_toArray, List.getElem_cons_zero, List.getElem_cons_succ, Act.put, List.setIfInBounds_toArray, List.set_cons_zero, List.set_cons_succ]
              refine wpAnyL_take (i := 5) (oi := { dst := some 91, op := _, type := _, pos := _, after := _, guard := _ }) (v := ?v6) rfl (by kernel_rfl) (by kernel_rfl) (by kernel_rfl) (by kernel_rfl) (fun _ _ _ h => h) (Or.inl ⟨by kernel_rfl, ?y6⟩) hHeld ?r6
              case y6 =>
                intro w hSw
                try dsimp only at hSw
                try simp only [List.getElem_toArray, List.getElem_cons_zero, List.getElem_cons_succ]
                go_simp
                try with_reducible rfl
              try simp only [List.getElem_toArray, List.getElem_cons_zero, List.getElem_cons_succ, Act.put, List.setIfInBounds_toArray, List.set_cons_zero, List.set_cons_succ]
              refine wpAnyL_take (i := 6) (oi := { dst := some 92, op := _, type := _, pos := _, after := _, guard := _ }) (v := ?v7) rfl (by kernel_rfl) (by kernel_rfl) (by kernel_rfl) (by kernel_rfl) (fun _ _ _ h => h) (Or.inl ⟨by kernel_rfl, ?y7⟩) hHeld ?r7
              case y7 =>
                intro w hSw
                try dsimp only at hSw
                try simp only [List.getElem_toArray, List.getElem_cons_zero, List.getElem_cons_succ]
                go_simp
                try with_reducible rfl
              try simp only [List.getElem_toArray, List.getElem_cons_zero, List.getElem_cons_succ, Act.put, List.setIfInBounds_toArray, List.set_cons_zero, List.set_cons_succ]
              refine wpAnyL_take (i := 7) (oi := { dst := some 93, op := _, type := _, pos := _, after := _, guard := _ }) (v := ?v8) rfl (by kernel_rfl) (by kernel_rfl) (by kernel_rfl) (by kernel_rfl) (fun _ _ _ h => h) (Or.inl ⟨by kernel_rfl, ?y8⟩) hHeld ?r8
              case y8 =>
                intro w hSw
                try dsimp only at hSw
                try simp only [List.getElem_toArray, List.getElem_cons_zero, List.getElem_cons_succ]
                go_simp
                try with_reducible rfl
              try simp only [List.getElem_toArray, List.getElem_cons_zero, List.getElem_cons_succ, Act.put, List.setIfInBounds_toArray, List.set_cons_zero, List.set_cons_succ]
              refine wpAnyL_take (i := 11) (oi := { dst := some 97, op := _, type := _, pos := _, after := _, guard := _ }) (v := ?v9) rfl (by kernel_rfl) (by kernel_rfl) (by kernel_rfl) (by kernel_rfl) (fun _ _ _ h => h) (Or.inl ⟨by kernel_rfl, ?y9⟩) hHeld ?r9
              case y9 =>
                intro w hSw
                try dsimp only at hSw
                try simp only [List.getElem_toArray, List.getElem_cons_zero, List.getElem_cons_succ]
                go_simp
                try with_reducible rfl
              try simp only [List.getElem_toArray, List.getElem_cons_zero, List.getElem_cons_succ, Act.put, List.setIfInBounds_toArray, List.set_cons_zero, List.set_cons_succ]
              refine wpAnyL_take (i := 12) (oi := { dst := some 98, op := _, type := _, pos := _, after := _, guard := _ }) (v := ?v10) rfl (by kernel_rfl) (by kernel_rfl) (by kernel_rfl) (by kernel_rfl) (fun _ _ _ h => h) (Or.inl ⟨by kernel_rfl, ?y10⟩) hHeld ?r10
              case y10 =>
                intro w hSw
                try dsimp only at hSw
                try simp only [List.getElem_toArray, List.getElem_cons_zero, List.getElem_cons_succ]
                go_simp
                try with_reducible rfl
              try simp only [List.getElem_toArray, List.getElem_cons_zero, List.getElem_cons_succ, Act.put, List.setIfInBounds_toArray, List.set_cons_zero, List.set_cons_succ]
              refine wpAnyL_take (i := 13) (oi := { dst := some 99, op := _, type := _, pos := _, after := _, guard := _ }) (v := ?v11) rfl (by kernel_rfl) (by kernel_rfl) (by kernel_rfl) (by kernel_rfl) (fun _ _ _ h => h) (Or.inl ⟨by kernel_rfl, ?y11⟩) hHeld ?r11
              case y11 =>
                intro w hSw
                try dsimp only at hSw
                try simp only [List.getElem_toArray, List.getElem_cons_zero, List.getElem_cons_succ]
                go_simp
                try with_reducible rfl
              try simp only [List.getElem_toArray, List.getElem_cons_zero, List.getElem_cons_succ, Act.put, List.setIfInBounds_toArray, List.set_cons_zero, List.set_cons_succ]
              refine wpAnyL_one (i := 8) (by kernel_rfl) rfl (fun K hK => ?_)
              try simp only [List.getElem_toArray, List.getElem_cons_zero, List.getElem_cons_succ]
              go_simp
              go_at_call 62
              refine (hg2.out _ hHeld.1.out).mono ?_
              rintro e Wn8 ⟨rfl, hbn⟩
              have hnew := Lib.hid (col_keep hbn hHeld.1 hHeld.2.1)
              refine hK.out _ _ (fun _ => hnew.out) ?_
              have hHeld' := hnew.out
              clear hHeld hnew hK K hbn
              have hHeld := hHeld'
              clear hHeld'
              try simp only [List.getElem_toArray, List.getElem_cons_zero, List.getElem_cons_succ, Act.put, List.setIfInBounds_toArray, List.set_cons_zero, List.set_cons_succ]
              refine wpAnyL_take (i := 9) (oi := { dst := some 95, op := _, type := _, pos := _, after := _, guard := _ }) (v := ?v12) rfl (by kernel_rfl) (by kernel_rfl) (by kernel_rfl) (by kernel_rfl) (fun _ _ _ h => h) (Or.inl ⟨by kernel_rfl, ?y12⟩) hHeld ?r12
              case y12 =>
                intro w hSw
                try dsimp only at hSw
                try simp only [List.getElem_toArray, List.getElem_cons_zero, List.getElem_cons_succ]
                go_simp
                try with_reducible rfl
              try simp only [List.getElem_toArray, List.getElem_cons_zero, List.getElem_cons_succ, Act.put, List.setIfInBounds_toArray, List.set_cons_zero, List.set_cons_succ]
              refine wpAnyL_take (i := 10) (oi := { dst := some 96, op := _, type := _, pos := _, after := _, guard := _ }) (v := ?v13) rfl (by kernel_rfl) (by kernel_rfl) (by kernel_rfl) (by kernel_rfl) (fun _ _ _ h => h) (Or.inl ⟨by kernel_rfl, ?y13⟩) hHeld ?r13
              case y13 =>
                intro w hSw
                try dsimp only at hSw
                try simp only [List.getElem_toArray, List.getElem_cons_zero, List.getElem_cons_succ]
                go_simp
                try with_reducible rfl
              try simp only [List.getElem_toArray, List.getElem_cons_zero, List.getElem_cons_succ, Act.put, List.setIfInBounds_toArray, List.set_cons_zero, List.set_cons_succ]
              refine wpAnyL_take (i := 14) (oi := { dst := some 100, op := _, type := _, pos := _, after := _, guard := _ }) (v := ?v14) rfl (by kernel_rfl) (by kernel_rfl) (by kernel_rfl) (by kernel_rfl) (fun _ _ _ h => h) (Or.inl ⟨by kernel_rfl, ?y14⟩) hHeld ?r14
              case y14 =>
                intro w hSw
                try dsimp only at hSw
                try simp only [List.getElem_toArray, List.getElem_cons_zero, List.getElem_cons_succ]
                go_simp
                try with_reducible rfl
              try simp only [List.getElem_toArray, List.getElem_cons_zero, List.getElem_cons_succ, Act.put, List.setIfInBounds_toArray, List.set_cons_zero, List.set_cons_succ]
              refine wpAnyL_done (by kernel_rfl) (OnlyN.normal ?_) _
              obtain ⟨k1, k2, k3, k4, k5, k6⟩ := hHeld
              clear e0 e0' e1 e2 e3
              go_wp2_with (go_at_call 61; refine (hl2.out _ k1.out).mono ?_; rintro e Wl ⟨rfl, hbl⟩)
              · have hc : IntKind.i64.wrap (IntKind.u64.wrap (IntKind.u64.wrap least + (up : Int))) < least := by assumption
                go_step3
                refine ⟨rfl, _, rfl, rfl, k1, ?_⟩
                show _ = _
                rw [wrap_sum] at hc
                rw [hpre2.out, decide_eq_false (by omega)]; rfl
              · have hc : least ≤ IntKind.i64.wrap (IntKind.u64.wrap (IntKind.u64.wrap least + (up : Int))) := by assumption
                rw [wrap_sum] at hc
                rename_i Wl hbl
                have hBl := Lib.hid (k1.out.trans (hbl.mono k1.out.size))
                simp only [Exit.jump]
                refine bodyPost_ret (v := .bool ((dn : Int) == 0)) (by simp [results, Tryd.results47, go_sem]) rfl ⟨?_, hBl.out⟩
                rw [hpre2.out, decide_eq_true hc, Bool.true_and]
                by_cases hd : dn = 0
                · subst hd; rfl
                · rw [decide_eq_false hd]
                  have : ((dn : Int) == 0) = false := by simpa using hd
                  rw [this]
            · obtain ⟨q, hq⟩ : ∃ q, bs.length = q + 1 := ⟨bs.length - 1, by have := List.length_pos_iff.2 hbs; omega⟩
              have hql : q < bs.length := by omega
              obtain ⟨bB, oB, u, rfl, hbB, hu, hch⟩ := hcB'.out q hql
              have hch2 : HC w u bs[q] := Lib.hid hch
              obtain ⟨pl, cl, rfl, -, -⟩ := Hid.out hch2
              have hcl := (hB.out.cell (p := ⟨bB, oB + q, none⟩) hbB).trans hu
              have hla : Hid (bs.getLastD [] = bs[q]) := by
                show _ = _
                rw [List.getLastD_eq_getLast?, List.getLast?_eq_getElem?, show bs.length - 1 = q by omega, List.getElem?_eq_getElem hql]; rfl
              generalize bs[q] = ll at hcl hla hch hch2
              obtain ⟨nl, hnl⟩ : ∃ nl, ll.length = nl := ⟨_, rfl⟩
              rw [hnl] at hcl
              have hqe : ((bs.length : Int) - 1) = (q : Int) := by omega
              have hl0 : decide (0 < bs.length) = true := decide_eq_true (by omega)
              have hpre2 : Hid (isRightB ⟨n, least, ex, bs⟩ = (decide (ll ≠ []) && (decide (least ≤ IntKind.i64.wrap (least + (up : Nat))) && decide (dn = 0)))) := by
                show _ = _
                rw [hpre.out, hla.out, show bs.isEmpty = false by simpa using hbs, Bool.false_or, Bool.and_assoc]
              have hg2 := hg
              have hl2 := hl
              have hq' := Lib.hid hq
              clear hcB' hsb' hsx' hall2 hrb hpre hlo' hhi' hw' hspe' hrx hE' hE2 hB' hT' x4 hB4 hne hup hexl hdn hg hl hlt hk hx hx7 h3 hla hu hch hch2 hq
              by_cases hn0 : nl = 0
              · subst hn0
                have hfin : Hid (isRightB ⟨n, least, ex, bs⟩ = false) := by
                  show _ = _
                  rw [hpre2.out, List.length_eq_zero_iff.1 hnl]; rfl
                clear hpre2
                go_wp2
                go_step3
                exact ⟨rfl, _, rfl, rfl, hB, hfin⟩
              have hpre3 : Hid (isRightB ⟨n, least, ex, bs⟩ = (decide (least ≤ IntKind.i64.wrap (least + (up : Nat))) && decide (dn = 0))) := by
                show _ = _
                rw [hpre2.out, decide_eq_true (show ll ≠ [] from fun e => hn0 (by rw [← hnl, e]; rfl)), Bool.true_and]
              have hnp : ((nl : Int) == 0) = false := by simpa using hn0
              clear hpre2 hn0 hnl
              go_wp2
              refine region_late (S := (fun W' => Hid (Below w.heap.size w W') ∧ Hid (SBox W' 83 w.heap.size n least (.slice pE m cE) (.slice (some ⟨bB, oB, none⟩) bs.length cB)) ∧ W'.cell? ⟨w.heap.size, 0, none⟩ = some (.int .i64 n) ∧ W'.cell? ⟨w.heap.size, 1, none⟩ = some (.int .i64 least) ∧ W'.cell? ⟨w.heap.size, 2, none⟩ = some (.slice pE m cE) ∧ W'.cell? ⟨w.heap.size, 3, none⟩ = some (.slice (some ⟨bB, oB, none⟩) bs.length cB))) (fun n => n == 999) (by kernel_rfl) hMd (fun hHeld => ?_)
              clear hMd
              refine wpAnyL_take (i := 0) (oi := { dst := some 86, op := _, type := _, pos := _, after := _, guard := _ }) (v := ?v15) rfl (by kernel_rfl) (by kernel_rfl) (by kernel_rfl) (by kernel_rfl) (fun _ _ _ h => h) (Or.inl ⟨by kernel_rfl, ?y15⟩) hHeld ?r15
              case y15 =>
                intro w hSw
                try dsimp only at hSw
                try simp only [List.getElem_toArray, List.getElem_cons_zero, List.getElem_cons_succ]
                go_simp
                try with_reducible rfl
              try simp only [List.getElem_toArray, List.getElem_cons_zero, List.getElem_cons_succ, Act.put, List.setIfInBounds_toArray, List.set_cons_zero, List.set_cons_succ]
              refine wpAnyL_take (i := 1) (oi := { dst := some 87, op := _, type := _, pos := _, after := _, guard := _ }) (v := ?v16) rfl (by kernel_rfl) (by kernel_rfl) (by kernel_rfl) (by kernel_rfl) (fun _ _ _ h => h) (Or.inl ⟨by kernel_rfl, ?y16⟩) hHeld ?r16
              case y16 =>
                intro w hSw
                try dsimp only at hSw
                try simp only [List.getElem_toArray, List.getElem_cons_zero, List.getElem_cons_succ]
                go_simp
                try with_reducible rfl
              try simp only [List.getElem_toArray, List.getElem_cons_zero, List.getElem_cons_succ, Act.put, List.setIfInBounds_toArray, List.set_cons_zero, List.set_cons_succ]
              refine wpAnyL_take (i := 2) (oi := { dst := some 88, op := _, type := _, pos := _, after := _, guard := _ }) (v := ?v17) rfl (by kernel_rfl) (by kernel_rfl) (by kernel_rfl) (by kernel_rfl) (fun _ _ _ h => h) (Or.inl ⟨by kernel_rfl, ?y17⟩) hHeld ?r17
              case y17 =>
                intro w hSw
                try dsimp only at hSw
                try simp only [List.getElem_toArray, List.getElem_cons_zero, List.getElem_cons_succ]
                go_simp
                try with_reducible rfl
              try simp only [List.getElem_toArray, List.getElem_cons_zero, List.getElem_cons_succ, Act.put, List.setIfInBounds_toArray, List.set_cons_zero, List.set_cons_succ]
              refine wpAnyL_take (i := 3) (oi := { dst := some 89, op := _, type := _, pos := _, after := _, guard := _ }) (v := ?v18) rfl (by kernel_rfl) (by kernel_rfl) (by kernel_rfl) (by kernel_rfl) (fun _ _ _ h => h) (Or.inl ⟨by kernel_rfl, ?y18⟩) hHeld ?r18
              case y18 =>
                intro w hSw
                try dsimp only at hSw
                try simp only [List.getElem_toArray, List.getElem_cons_zero, List.getElem_cons_succ]
                go_simp
                try with_reducible rfl
              try simp only [List.getElem_toArray, List.getElem_cons_zero, List.getElem_cons_succ, Act.put, List.setIfInBounds_toArray, List.set_cons_zero, List.set_cons_succ]
              refine wpAnyL_take (i := 4) (oi := { dst := some 90, op := _, type := _, pos := _, after := _, guard := _ }) (v := ?v19) rfl (by kernel_rfl) (by kernel_rfl) (by kernel_rfl) (by kernel_rfl) (fun _ _ _ h => h) (Or.inl ⟨by kernel_rfl, ?y19⟩) hHeld ?r19
              case y19 =>
                intro w hSw
                try dsimp only at hSw
                try simp only [List.getElem_toArray, List.getElem_cons_zero, List.getElem_cons_succ]
                go_simp
                try with_reducible rfl
              try simp only [List.getElem_toArray, List.getElem_cons_zero, List.getElem_cons_succ, Act.put, List.setIfInBounds_toArray, List.set_cons_zero, List.set_cons_succ]
              refine wpAnyL_take (i := 5) (oi := { dst := some 91, op := _, type := _, pos := _, after := _, guard := _ }) (v := ?v20) rfl (by kernel_rfl) (by kernel_rfl) (by kernel_rfl) (by kernel_rfl) (fun _ _ _ h => h) (Or.inl ⟨by kernel_rfl, ?y20⟩) hHeld ?r20
              case y20 =>
                intro w hSw
                try dsimp only at hSw
                try simp only [List.getElem_toArray, List.getElem_cons_zero, List.getElem_cons_succ]
                go_simp
                try with_reducible rfl
              try simp only [List.getElem_toArray, List.getElem_cons_zero, List.getElem_cons_succ, Act.put, List.setIfInBounds_toArray, List.set_cons_zero, List.set_cons_succ]
              refine wpAnyL_take (i := 6) (oi := { dst := some 92, op := _, type := _, pos := _, after := _, guard := _ }) (v := ?v21) rfl (by kernel_rfl) (by kernel_rfl) (by kernel_rfl) (by kernel_rfl) (fun _ _ _ h => h) (Or.inl ⟨by kernel_rfl, ?y21⟩) hHeld ?r21
              case y21 =>
                intro w hSw
                try dsimp only at hSw
                try simp only [List.getElem_toArray, List.getElem_cons_zero, List.getElem_cons_succ]
                go_simp
                try with_reducible rfl
              try simp only [List.getElem_toArray, List.getElem_cons_zero, List.getElem_cons_succ, Act.put, List.setIfInBounds_toArray, List.set_cons_zero, List.set_cons_succ]
              refine wpAnyL_take (i := 7) (oi := { dst := some 93, op := _, type := _, pos := _, after := _, guard := _ }) (v := ?v22) rfl (by kernel_rfl) (by kernel_rfl) (by kernel_rfl) (by kernel_rfl) (fun _ _ _ h => h) (Or.inl ⟨by kernel_rfl, ?y22⟩) hHeld ?r22
              case y22 =>
                intro w hSw
                try dsimp only at hSw
                try simp only [List.getElem_toArray, List.getElem_cons_zero, List.getElem_cons_succ]
                go_simp
                try with_reducible rfl
              try simp only [List.getElem_toArray, List.getElem_cons_zero, List.getElem_cons_succ, Act.put, List.setIfInBounds_toArray, List.set_cons_zero, List.set_cons_succ]
              refine wpAnyL_take (i := 11) (oi := { dst := some 97, op := _, type := _, pos := _, after := _, guard := _ }) (v := ?v23) rfl (by kernel_rfl) (by kernel_rfl) (by kernel_rfl) (by kernel_rfl) (fun _ _ _ h => h) (Or.inl ⟨by kernel_rfl, ?y23⟩) hHeld ?r23
              case y23 =>
                intro w hSw
                try dsimp only at hSw
                try simp only [List.getElem_toArray, List.getElem_cons_zero, List.getElem_cons_succ]
                go_simp
                try with_reducible rfl
              try simp only [List.getElem_toArray, List.getElem_cons_zero, List.getElem_cons_succ, Act.put, List.setIfInBounds_toArray, List.set_cons_zero, List.set_cons_succ]
              refine wpAnyL_take (i := 12) (oi := { dst := some 98, op := _, type := _, pos := _, after := _, guard := _ }) (v := ?v24) rfl (by kernel_rfl) (by kernel_rfl) (by kernel_rfl) (by kernel_rfl) (fun _ _ _ h => h) (Or.inl ⟨by kernel_rfl, ?y24⟩) hHeld ?r24
              case y24 =>
                intro w hSw
                try dsimp only at hSw
                try simp only [List.getElem_toArray, List.getElem_cons_zero, List.getElem_cons_succ]
                go_simp
                try with_reducible rfl
              try simp only [List.getElem_toArray, List.getElem_cons_zero, List.getElem_cons_succ, Act.put, List.setIfInBounds_toArray, List.set_cons_zero, List.set_cons_succ]
              refine wpAnyL_take (i := 13) (oi := { dst := some 99, op := _, type := _, pos := _, after := _, guard := _ }) (v := ?v25) rfl (by kernel_rfl) (by kernel_rfl) (by kernel_rfl) (by kernel_rfl) (fun _ _ _ h => h) (Or.inl ⟨by kernel_rfl, ?y25⟩) hHeld ?r25
              case y25 =>
                intro w hSw
                try dsimp only at hSw
                try simp only [List.getElem_toArray, List.getElem_cons_zero, List.getElem_cons_succ]
                go_simp
                try with_reducible rfl
              try simp only [List.getElem_toArray, List.getElem_cons_zero, List.getElem_cons_succ, Act.put, List.setIfInBounds_toArray, List.set_cons_zero, List.set_cons_succ]
              refine wpAnyL_one (i := 8) (by kernel_rfl) rfl (fun K hK => ?_)
              try simp only [List.getElem_toArray, List.getElem_cons_zero, List.getElem_cons_succ]
              go_simp
              go_at_call 62
              refine (hg2.out _ hHeld.1.out).mono ?_
              rintro e Wn8 ⟨rfl, hbn⟩
              have hnew := Lib.hid (col_keep hbn hHeld.1 hHeld.2.1)
              refine hK.out _ _ (fun _ => hnew.out) ?_
              have hHeld' := hnew.out
              clear hHeld hnew hK K hbn
              have hHeld := hHeld'
              clear hHeld'
              try simp only [List.getElem_toArray, List.getElem_cons_zero, List.getElem_cons_succ, Act.put, List.setIfInBounds_toArray, List.set_cons_zero, List.set_cons_succ]
              refine wpAnyL_take (i := 9) (oi := { dst := some 95, op := _, type := _, pos := _, after := _, guard := _ }) (v := ?v26) rfl (by kernel_rfl) (by kernel_rfl) (by kernel_rfl) (by kernel_rfl) (fun _ _ _ h => h) (Or.inl ⟨by kernel_rfl, ?y26⟩) hHeld ?r26
              case y26 =>
                intro w hSw
                try dsimp only at hSw
                try simp only [List.getElem_toArray, List.getElem_cons_zero, List.getElem_cons_succ]
                go_simp
                try with_reducible rfl
              try simp only [List.getElem_toArray, List.getElem_cons_zero, List.getElem_cons_succ, Act.put, List.setIfInBounds_toArray, List.set_cons_zero, List.set_cons_succ]
              refine wpAnyL_take (i := 10) (oi := { dst := some 96, op := _, type := _, pos := _, after := _, guard := _ }) (v := ?v27) rfl (by kernel_rfl) (by kernel_rfl) (by kernel_rfl) (by kernel_rfl) (fun _ _ _ h => h) (Or.inl ⟨by kernel_rfl, ?y27⟩) hHeld ?r27
              case y27 =>
                intro w hSw
                try dsimp only at hSw
                try simp only [List.getElem_toArray, List.getElem_cons_zero, List.getElem_cons_succ]
                go_simp
                try with_reducible rfl
              try simp only [List.getElem_toArray, List.getElem_cons_zero, List.getElem_cons_succ, Act.put, List.setIfInBounds_toArray, List.set_cons_zero, List.set_cons_succ]
              refine wpAnyL_take (i := 14) (oi := { dst := some 100, op := _, type := _, pos := _, after := _, guard := _ }) (v := ?v28) rfl (by kernel_rfl) (by kernel_rfl) (by kernel_rfl) (by kernel_rfl) (fun _ _ _ h => h) (Or.inl ⟨by kernel_rfl, ?y28⟩) hHeld ?r28
              case y28 =>
                intro w hSw
                try dsimp only at hSw
                try simp only [List.getElem_toArray, List.getElem_cons_zero, List.getElem_cons_succ]
                go_simp
                try with_reducible rfl
              try simp only [List.getElem_toArray, List.getElem_cons_zero, List.getElem_cons_succ, Act.put, List.setIfInBounds_toArray, List.set_cons_zero, List.set_cons_succ]
              refine wpAnyL_done (by kernel_rfl) (OnlyN.normal ?_) _
              obtain ⟨k1, k2, k3, k4, k5, k6⟩ := hHeld
              clear e0 e0' e1 e2 e3
              go_wp2_with (go_at_call 61; refine (hl2.out _ k1.out).mono ?_; rintro e Wl ⟨rfl, hbl⟩)
              · have hc : IntKind.i64.wrap (IntKind.u64.wrap (IntKind.u64.wrap least + (up : Int))) < least := by assumption
                go_step3
                refine ⟨rfl, _, rfl, rfl, k1, ?_⟩
                show _ = _
                rw [wrap_sum] at hc
                rw [hpre3.out, decide_eq_false (by omega)]; rfl
              · have hc : least ≤ IntKind.i64.wrap (IntKind.u64.wrap (IntKind.u64.wrap least + (up : Int))) := by assumption
                rw [wrap_sum] at hc
                rename_i Wl hbl
                have hBl := Lib.hid (k1.out.trans (hbl.mono k1.out.size))
                simp only [Exit.jump]
                refine bodyPost_ret (v := .bool ((dn : Int) == 0)) (by simp [results, Tryd.results47, go_sem]) rfl ⟨?_, hBl.out⟩
                rw [hpre3.out, decide_eq_true hc, Bool.true_and]
                by_cases hd : dn = 0
                · subst hd; rfl
                · rw [decide_eq_false hd]
                  have : ((dn : Int) == 0) = false := by simpa using hd
                  rw [this]
end Go.Proofs.YtnigpmbpipmgfaaDoor
