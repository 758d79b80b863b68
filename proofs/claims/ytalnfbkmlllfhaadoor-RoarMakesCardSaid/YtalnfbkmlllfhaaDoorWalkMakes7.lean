/-
  RoarMakes: the walk. Printed by genmakes7.py.
-/
import Derived.Test.YtalnfbkmlllfhaaDoorMakesBase7
namespace Go.Proofs.YtalnfbkmlllfhaaDoor
open Go.RowKit Tess

theorem rbs_set1 {W : World} {b : Nat} {v v' : Value} {l l' : List Ch} (h : RBs W [(b, v, l)]) (hv : HC W v' l') : RBs (W.setCell ⟨b, 0, none⟩ v') [(b, v', l')] := by
  have hb := (h (b, v, l) List.mem_cons_self).box
  intro x hx
  obtain rfl := List.mem_singleton.1 hx
  exact ⟨hb.set v', hv.setR hb v'⟩

theorem cell_later7 {W W' : World} {a : Addr} {v : Value} (h : W.cell? a = some v) (hb : Below W.heap.size W W') : W'.cell? a = some v := (hb.cell (World.block_lt_of_cell? W a h)).trans h

set_option maxRecDepth 100000 in
set_option maxHeartbeats 16000000 in
set_option linter.unusedSimpArgs false in
set_option linter.unusedVariables false in
theorem roarMakes_walk {la : List Ch} {va : Value} {zs : List Int} {sv : Value} {w : World} (n place : Int) (hp1 : place ≤ 9223372036854775807) (hr : HC w va la) (h : Ints w.heap.size w sv zs) (hcap : ∀ p n c, sv = .slice p n c → n ≤ c) (hT : Tab w) :
    Calls Tryd.prog 6 #[.agg #[va], sv, .int .i64 n, .int .i64 place] w fun e W' => e = .returned (.bool true) ∧ Below w.heap.size w W' := by
  have hB0 := Lib.hid ((Below.refl w.heap.size w).alloc (Nat.le_refl _) (.cells #[va] 24))
  have hS0 : Hid (RBs (w.alloc (.cells #[va] 24)) [(w.heap.size, va, la)]) := Lib.hid fun x hx => by
    obtain rfl := List.mem_singleton.1 hx
    exact RB.new hr
  obtain ⟨pa, ca, rfl, -, -⟩ := Hid.out hr
  have hTl := Lib.hid hT
  have hh := Lib.hid h
  have hcp := Lib.hid hcap
  have k0 := Lib.hid (shown7_any _ (hTl.out.below hB0.out hTl.out.lt))
  clear hr hT h hcap
  go_enter Tryd.func6, Tryd.ntmps6
  go_wp2_with fail
  refine (k0.out).mono ?_
  rintro e W0 ⟨rfl, hb0⟩
  have hB1 := Lib.hid (hB0.out.trans (hb0.mono hB0.out.size))
  have hS1 := Lib.hid (hS0.out.later hb0)
  clear k0 hb0 hB0 hS0
  -- r = Few(r)
  have k := Lib.hid (fewR_any (hS1.out (w.heap.size, .slice pa la.length ca, la) (by simp)).chs)
  have y1 := (hS1.out (w.heap.size, .slice pa la.length ca, la) (by simp)).box.cell
  go_wp2_with fail
  refine (k.out).mono ?_
  rintro e W1 ⟨v1, rfl, hv1, hb1⟩
  obtain ⟨p1, c1, rfl, -, -⟩ := Hid.out hv1
  have hs1 := Lib.hid (fewL_small la)
  generalize fewL la = A1 at hv1 hs1
  have f1 := ((hS1.out.later hb1) (w.heap.size, .slice pa la.length ca, la) (by simp)).box.frozen
  have g1 := ((hS1.out.later hb1) (w.heap.size, .slice pa la.length ca, la) (by simp)).box.cell
  have hS2 := Lib.hid (rbs_set1 (hS1.out.later hb1) hv1)
  have hB2 := Lib.hid ((hB1.out.trans (hb1.mono hB1.out.size)).setCell (p := ⟨w.heap.size, 0, none⟩) (Nat.le_refl _) (.slice p1 A1.length c1))
  clear k y1 hb1 hv1 hB1 hS1
  -- make
  have k3 := Lib.hid (few7_any (hh.out.below hB2.out (Nat.le_refl _)) hcp.out)
  obtain ⟨l, hl⟩ : ∃ l, zs.take 300 = l := ⟨_, rfl⟩
  have hll : l.length ≤ 300 := by rw [← hl, List.length_take]; omega
  rw [hl] at k3
  obtain ⟨r, e1, hm, hrr, -⟩ := mkL_ex l
  go_wp2_with fail
  refine (k3.out).mono ?_
  rintro e V ⟨⟨u, rfl, hu⟩, hVe⟩
  subst V
  have k := Lib.hid (make7_any (hu.more hB2.out.size) (by omega) (hTl.out.below hB2.out hTl.out.lt))
  rw [hm] at k
  clear k3 hu f1 g1
  go_wp2_with fail
  refine (k.out).mono ?_
  rintro e W3 ⟨v3, rfl, hv3, hb3⟩
  obtain ⟨p3, c3, rfl, -, -⟩ := Hid.out hv3
  have hB3 := Lib.hid (below_box hB2.out hB2.out.size hb3 (.cells #[.slice p3 r.length c3] 24))
  have hS3 := Lib.hid (hS2.out.more hb3 hv3)
  clear k hb3 hv3 hB2 hS2
  -- the reference's make
  have k3 := Lib.hid (few7_any (hh.out.below hB3.out (Nat.le_refl _)) hcp.out)
  rw [hl] at k3
  go_wp2_with fail
  refine (k3.out).mono ?_
  rintro e V ⟨⟨u', rfl, hu⟩, hVe⟩
  subst V
  have k := Lib.hid (rmake7_any (hu.more hB3.out.size) (by omega))
  rw [hm] at k
  clear k3 hu hl hll hm hh hcp
  go_wp2_with fail
  refine (k.out).mono ?_
  rintro e W4 ⟨v4, rfl, hv4, hb4⟩
  obtain ⟨p4, c4, rfl, -, -⟩ := Hid.out hv4
  have hB4 := Lib.hid (below_box hB3.out hB3.out.size hb4 (.cells #[.slice p4 r.length c4] 24))
  have hS4 := Lib.hid (hS3.out.more hb4 hv4)
  clear k hb4 hv4 hB3 hS3
  -- values
  have k := Lib.hid (rvalues7_any (hS4.out (w.heap.size, .slice p1 A1.length c1, A1) (by simp)).chs hs1.out)
  have y1 := (hS4.out (w.heap.size, .slice p1 A1.length c1, A1) (by simp)).box.cell
  have hvl := val_len (l := A1)
  have hcn := Lib.hid (cnt_val A1)
  have hhn := Lib.hid (has_val A1 n)
  have hrn := Lib.hid (rank_val A1 n)
  have hsi := Lib.hid (fun k hp hk => @sel_val_in A1 place k hp hk)
  have hso := Lib.hid (@sel_val_out A1 place)
  have hvv := Lib.hid (fun (v : Value) (W : World) (h : HC W v A1) (hT : Tab W) => values7_any h hs1.out hT)
  generalize valL A1 = V at k hvl hcn hhn hrn hsi hso hvv
  go_wp2_with fail
  refine (k.out).mono ?_
  rintro e W5 ⟨v5, rfl, hv5, -, hb5⟩
  have hB5 := Lib.hid (hB4.out.trans (hb5.mono hB4.out.size))
  have hS5 := Lib.hid (hS4.out.later hb5)
  obtain ⟨p5, c5, rfl, hI⟩ := nats_open hv5
  have hI' := Lib.hid hI
  clear k y1 hb5 hB4 hS4 hI
  go_wp2
  go_loopw [15, 16, 17] (fun rk is i wr => ∃ k : Nat, k ≤ V.length ∧ i = .int .i64 k ∧ rk = .int .i64 (leN (V.take k) n : Nat) ∧ is = .bool (anyN (V.take k) n) ∧ Hid (Below W5.heap.size W5 wr))
    (fun _ _ i _ => V.length - (intOf i).toNat)
  case atStart => exact ⟨0, Nat.zero_le _, rfl, rfl, rfl, Lib.hid (Below.refl _ _)⟩
  case round =>
    obtain ⟨k, hk, rfl, rfl, rfl, hB⟩ := hrel
    by_cases hlt : k < V.length
    · obtain ⟨b, off, rfl, hb, c1'⟩ := hI'.out k hlt
      have y := (hB.out.cell (p := ⟨b, off + k, none⟩) hb).trans c1'
      have hkd : decide ((k : Int) < (V.length : Int)) = true := by simp; omega
      have hst1 := Lib.hid (leN_step hlt n)
      have hst2 := Lib.hid (anyN_step hlt n)
      have hle := leN_le (V.take k) n
      rw [List.length_take] at hle
      have hk0 : (0 : Int) ≤ (k : Int) := by omega
      have hk1 : (k : Int) < (V.length : Int) := by omega
      clear c1'
      generalize V[k] = z at y hst1 hst2
      generalize leN (V.take k) n = q at hst1 hle
      generalize anyN (V.take k) n = t at hst2
      obtain ⟨d2, hd2⟩ : ∃ d2, (((z : Nat) : Int) == n) = d2 := ⟨_, rfl⟩
      rw [hd2] at hst2
      by_cases hzn : ((z : Nat) : Int) ≤ n
      · have hz1 : decide (((z : Nat) : Int) ≤ n) = true := by simpa using hzn
        have hq : Hid (leN (V.take (k + 1)) n = q + 1) := by show _ = _; rw [hst1.out, if_pos hzn]
        clear hst1
        cases t <;> cases d2 <;> (
          go_wp2
          go_roundw
          case rel => exact ⟨k + 1, by omega, by go_num, by rw [hq.out]; go_num, by rw [hst2.out]; rfl, hB⟩
          case measure => simp [intOf]; omega)
      · have hz1 : decide (((z : Nat) : Int) ≤ n) = false := by simpa using hzn
        have hq : Hid (leN (V.take (k + 1)) n = q) := by show _ = _; rw [hst1.out, if_neg hzn]; rfl
        clear hst1
        cases t <;> cases d2 <;> (
          go_wp2
          go_roundw
          case rel => exact ⟨k + 1, by omega, by go_num, by rw [hq.out], by rw [hst2.out]; rfl, hB⟩
          case measure => simp [intOf]; omega)
    · have hkd : decide ((k : Int) < (V.length : Int)) = false := by simp; omega
      have htk : V.take k = V := List.take_of_length_le (by omega)
      rw [htk]
      have hB6 := Lib.hid (hB5.out.trans (hB.out.mono hB5.out.size))
      have hS6 := Lib.hid (hS5.out.later hB.out)
      have hv6 := hv5.later hB.out
      have hI6 : Hid (∀ j (hj : j < V.length), ∃ b off, p5 = some ⟨b, off, none⟩ ∧ wr.cell? ⟨b, off + j, none⟩ = some (.int .i64 ((V[j] : Nat) : Int)) ∧ b < wr.heap.size) := Lib.hid fun j hj => by
        obtain ⟨b, off, h1, h2, h3⟩ := hI'.out j hj
        exact ⟨b, off, h1, (hB.out.cell (p := ⟨b, off + j, none⟩) h2).trans h3, Nat.lt_of_lt_of_le h2 hB.out.size⟩
      clear htk hI' hS5 hB5 hv5

      obtain ⟨LL, hLL⟩ : ∃ LL : List (Nat × Value × List Ch), LL = [(W4.heap.size, .slice p4 r.length c4, r), (W3.heap.size, .slice p3 r.length c3, r), (w.heap.size, .slice p1 A1.length c1, A1)] := ⟨_, rfl⟩
      rw [← hLL] at hS6
      have kS : Hid (∀ W', RBs W' LL → Calls Tryd.prog 18 #[.agg #[.slice p3 r.length c3], .agg #[.slice p4 r.length c4]] W' fun e W'' => e = .returned (.bool true) ∧ Below W'.heap.size W' W'') :=
        Lib.hid fun W' h => by have := same7_any (h (W3.heap.size, .slice p3 r.length c3, r) (by rw [hLL]; simp)).chs (h (W4.heap.size, .slice p4 r.length c4, r) (by rw [hLL]; simp)).chs (small_right hrr).1; rwa [decide_eq_true rfl] at this
      obtain ⟨q, hq⟩ : ∃ q, rightL A1 = q := ⟨_, rfl⟩
      have kR : Hid (∀ W', RBs W' LL → Below w.heap.size w W' → Calls Tryd.prog 26 #[.agg #[.slice p1 A1.length c1]] W' fun e W'' => e = .returned (.bool q) ∧ Below W'.heap.size W' W'') :=
        Lib.hid fun W' h hb => by rw [← hq]; exact right_any (h (w.heap.size, .slice p1 A1.length c1, A1) (by rw [hLL]; simp)).chs hs1.out.1 hs1.out.2 (hTl.out.below hb hTl.out.lt)
      have kRR : Hid (∀ W', RBs W' LL → Calls Tryd.prog 27 #[.agg #[.slice p1 A1.length c1]] W' fun e W'' => e = .returned (.bool q) ∧ Below W'.heap.size W' W'') :=
        Lib.hid fun W' h => by rw [← hq]; exact rright7_any (h (w.heap.size, .slice p1 A1.length c1, A1) (by rw [hLL]; simp)).chs hs1.out
      have kV : Hid (∀ W', RBs W' LL → Below w.heap.size w W' → Calls Tryd.prog 29 #[.agg #[.slice p1 A1.length c1]] W' fun e W'' => ∃ v', e = .returned v' ∧ HI W'' v' (V.map Int.ofNat) ∧ (∀ p n c, v' = .slice p n c → n ≤ c) ∧ Below W'.heap.size W' W'') :=
        Lib.hid fun W' h hb => hvv.out _ W' (h (w.heap.size, .slice p1 A1.length c1, A1) (by rw [hLL]; simp)).chs (hTl.out.below hb hTl.out.lt)
      have kI : Hid (∀ W' v', HI W' v' (V.map Int.ofNat) → HI W' (.slice p5 V.length c5) (V.map Int.ofNat) → Calls Tryd.prog 28 #[v', .slice p5 V.length c5] W' fun e W'' => e = .returned (.bool true) ∧ Below W'.heap.size W' W'') :=
        Lib.hid fun W' v' h1 h2 => ints_hv h1 h2 (by rw [List.length_map]; omega)
      have kC : Hid (∀ W', RBs W' LL → Below w.heap.size w W' → Calls Tryd.prog 22 #[.agg #[.slice p1 A1.length c1]] W' fun e W'' => e = .returned (.int .i64 (V.length : Nat)) ∧ Below W'.heap.size W' W'') :=
        Lib.hid fun W' h hb => by rw [← hcn.out]; exact count7_any (h (w.heap.size, .slice p1 A1.length c1, A1) (by rw [hLL]; simp)).chs hs1.out (hTl.out.below hb hTl.out.lt)
      have kH : Hid (∀ W', RBs W' LL → Below w.heap.size w W' → Calls Tryd.prog 21 #[.agg #[.slice p1 A1.length c1], .int .i64 n] W' fun e W'' => e = .returned (.bool (anyN V n)) ∧ Below W'.heap.size W' W'') :=
        Lib.hid fun W' h hb => by rw [← hhn.out]; exact has7_any n (h (w.heap.size, .slice p1 A1.length c1, A1) (by rw [hLL]; simp)).chs hs1.out (hTl.out.below hb hTl.out.lt)
      have kK : Hid (∀ W', RBs W' LL → Below w.heap.size w W' → Calls Tryd.prog 30 #[.agg #[.slice p1 A1.length c1], .int .i64 n] W' fun e W'' => e = .returned (.int .i64 (leN V n : Nat)) ∧ Below W'.heap.size W' W'') :=
        Lib.hid fun W' h hb => by rw [← hrn.out]; exact rank7_any n (h (w.heap.size, .slice p1 A1.length c1, A1) (by rw [hLL]; simp)).chs hs1.out (hTl.out.below hb hTl.out.lt)
      have kcells : Hid (∀ W', RBs W' LL → W'.cell? ⟨W3.heap.size, 0, none⟩ = some (.slice p3 r.length c3) ∧ W'.cell? ⟨W4.heap.size, 0, none⟩ = some (.slice p4 r.length c4) ∧ W'.cell? ⟨w.heap.size, 0, none⟩ = some (.slice p1 A1.length c1)) :=
        Lib.hid fun W' h => ⟨(h (W3.heap.size, .slice p3 r.length c3, r) (by rw [hLL]; simp)).box.cell, (h (W4.heap.size, .slice p4 r.length c4, r) (by rw [hLL]; simp)).box.cell, (h (w.heap.size, .slice p1 A1.length c1, A1) (by rw [hLL]; simp)).box.cell⟩
      have ksel := Lib.hid (select7_any place hp1 (hS6.out (w.heap.size, .slice p1 A1.length c1, A1) (by rw [hLL]; simp)).chs hs1.out (hTl.out.below hB6.out hTl.out.lt))
      have y1 := (hS6.out (w.heap.size, .slice p1 A1.length c1, A1) (by rw [hLL]; simp)).box.cell
      have hxl := leN_le V n
      clear hLL hq hvv hcn hhn hrn hTl hs1 hrr
      generalize anyN V n = x at kH ⊢
      generalize leN V n = y at kK hxl ⊢
      by_cases h0 : 0 ≤ place
      · have q1 : decide (place ≥ 0) = true := by simpa using h0
        by_cases h1 : place < (V.length : Int)
        · obtain ⟨K, rfl⟩ : ∃ K : Nat, place = K := ⟨place.toNat, by omega⟩
          have hK : K < V.length := by omega
          have q2 : decide ((K : Int) < (V.length : Int)) = true := by simpa using h1
          obtain ⟨b, off, rfl, hcV0, hbl⟩ := hI6.out K hK
          rw [hsi.out K rfl hK] at ksel
          have hgd : V[K]?.getD 0 = V[K] := by simp [hK]
          rw [hgd] at ksel
          clear hsi hso hgd
          generalize V[K] = zv at ksel hcV0
          go_wp2_with fail
          refine (ksel.out).mono ?_
          rintro e W7 ⟨rfl, hb7⟩
          have hB7 := Lib.hid (hB6.out.trans (hb7.mono hB6.out.size))
          have hS7 := Lib.hid (hS6.out.later hb7)
          have hv7 := hv6.later hb7
          have hcV := (hb7.cell (p := ⟨b, off + K, none⟩) hbl).trans hcV0
          have hMM := And.intro (Lib.hid (Below.drew hB7.out)) (And.intro (Lib.hid (hS7.out.later (Below.drew (Below.refl _ _)))) (And.intro (hv7.later (Below.drew (Below.refl _ _))) (And.intro (kcells.out _ hS7.out).1 (And.intro (kcells.out _ hS7.out).2.1 (And.intro (kcells.out _ hS7.out).2.2 hcV)))))
          have hCl : Hid (∀ W W' : World, (W.cell? ⟨W3.heap.size, 0, none⟩ = some (.slice p3 r.length c3) ∧ W.cell? ⟨W4.heap.size, 0, none⟩ = some (.slice p4 r.length c4) ∧ W.cell? ⟨w.heap.size, 0, none⟩ = some (.slice p1 A1.length c1) ∧ W.cell? ⟨b, off + K, none⟩ = some (.int .i64 (zv : Int))) → Below W.heap.size W W' → (W'.cell? ⟨W3.heap.size, 0, none⟩ = some (.slice p3 r.length c3) ∧ W'.cell? ⟨W4.heap.size, 0, none⟩ = some (.slice p4 r.length c4) ∧ W'.cell? ⟨w.heap.size, 0, none⟩ = some (.slice p1 A1.length c1) ∧ W'.cell? ⟨b, off + K, none⟩ = some (.int .i64 (zv : Int)))) := Lib.hid fun W W' h hb => ⟨cell_later7 h.1 hb, cell_later7 h.2.1 hb, cell_later7 h.2.2.1 hb, cell_later7 h.2.2.2 hb⟩
          obtain ⟨m1, m2, m3⟩ := kcells.out _ hS7.out
          clear ksel hb7 y1 hB6 hS6 hv6 kcells hI6
          go_wp2
          go_region_held3 (fun W' => Hid (Below w.heap.size w W') ∧ Hid (RBs W' LL) ∧ HI W' (.slice (some ⟨b, off, none⟩) V.length c5) (V.map Int.ofNat) ∧ W'.cell? ⟨W3.heap.size, 0, none⟩ = some (.slice p3 r.length c3) ∧ W'.cell? ⟨W4.heap.size, 0, none⟩ = some (.slice p4 r.length c4) ∧ W'.cell? ⟨w.heap.size, 0, none⟩ = some (.slice p1 A1.length c1) ∧ W'.cell? ⟨b, off + K, none⟩ = some (.int .i64 (zv : Int)))
            (first | exact hMM | assumption)
            (first
              | (go_at_call 18
                 refine (kS.out _ (Hid.out (And.left (And.right (by assumption))))).mono ?_
                 rintro e Wn ⟨rfl, hbn⟩
                 obtain ⟨s1, s2, s3, s4⟩ : _ ∧ _ ∧ _ ∧ _ := by assumption
                 have hnew := mk_keep hCl hbn s1 s2 s3 s4)
              | (go_at_call 26
                 refine (kR.out _ (Hid.out (And.left (And.right (by assumption)))) (Hid.out (And.left (by assumption)))).mono ?_
                 rintro e Wn ⟨rfl, hbn⟩
                 obtain ⟨s1, s2, s3, s4⟩ : _ ∧ _ ∧ _ ∧ _ := by assumption
                 have hnew := mk_keep hCl hbn s1 s2 s3 s4)
              | (go_at_call 27
                 refine (kRR.out _ (Hid.out (And.left (And.right (by assumption))))).mono ?_
                 rintro e Wn ⟨rfl, hbn⟩
                 obtain ⟨s1, s2, s3, s4⟩ : _ ∧ _ ∧ _ ∧ _ := by assumption
                 have hnew := mk_keep hCl hbn s1 s2 s3 s4)
              | (go_at_call 29
                 refine (kV.out _ (Hid.out (And.left (And.right (by assumption)))) (Hid.out (And.left (by assumption)))).mono ?_
                 rintro e Wn ⟨vn, rfl, hvn, -, hbn⟩
                 obtain ⟨s1, s2, s3, s4⟩ : _ ∧ _ ∧ _ ∧ _ := by assumption
                 have hnew := mk_keep hCl hbn s1 s2 s3 s4)
              | (go_at_call 28
                 refine (kI.out _ _ (by assumption) (And.left (And.right (And.right (by assumption))))).mono ?_
                 rintro e Wn ⟨rfl, hbn⟩
                 obtain ⟨s1, s2, s3, s4⟩ : _ ∧ _ ∧ _ ∧ _ := by assumption
                 have hnew := mk_keep hCl hbn s1 s2 s3 s4)
              | (go_at_call 22
                 refine (kC.out _ (Hid.out (And.left (And.right (by assumption)))) (Hid.out (And.left (by assumption)))).mono ?_
                 rintro e Wn ⟨rfl, hbn⟩
                 obtain ⟨s1, s2, s3, s4⟩ : _ ∧ _ ∧ _ ∧ _ := by assumption
                 have hnew := mk_keep hCl hbn s1 s2 s3 s4)
              | (go_at_call 21
                 refine (kH.out _ (Hid.out (And.left (And.right (by assumption)))) (Hid.out (And.left (by assumption)))).mono ?_
                 rintro e Wn ⟨rfl, hbn⟩
                 obtain ⟨s1, s2, s3, s4⟩ : _ ∧ _ ∧ _ ∧ _ := by assumption
                 have hnew := mk_keep hCl hbn s1 s2 s3 s4)
              | (go_at_call 30
                 refine (kK.out _ (Hid.out (And.left (And.right (by assumption)))) (Hid.out (And.left (by assumption)))).mono ?_
                 rintro e Wn ⟨rfl, hbn⟩
                 obtain ⟨s1, s2, s3, s4⟩ : _ ∧ _ ∧ _ ∧ _ := by assumption
                 have hnew := mk_keep hCl hbn s1 s2 s3 s4))
          all_goals go_wp2
          all_goals exact bodyPost_ret (v := .bool true) (by simp [results, Tryd.results6, go_sem]) rfl ⟨rfl, Hid.out (And.left (by assumption))⟩
        · have q2 : decide (place < (V.length : Int)) = false := by simpa using h1
          rw [hso.out (.inr (by omega))] at ksel
          clear hsi hso
          go_wp2_with fail
          refine (ksel.out).mono ?_
          rintro e W7 ⟨rfl, hb7⟩
          have hB7 := Lib.hid (hB6.out.trans (hb7.mono hB6.out.size))
          have hS7 := Lib.hid (hS6.out.later hb7)
          have hv7 := hv6.later hb7
          have hMM := And.intro (Lib.hid (Below.drew hB7.out)) (And.intro (Lib.hid (hS7.out.later (Below.drew (Below.refl _ _)))) (And.intro (hv7.later (Below.drew (Below.refl _ _))) (kcells.out _ hS7.out)))
          have hCl : Hid (∀ W W' : World, (W.cell? ⟨W3.heap.size, 0, none⟩ = some (.slice p3 r.length c3) ∧ W.cell? ⟨W4.heap.size, 0, none⟩ = some (.slice p4 r.length c4) ∧ W.cell? ⟨w.heap.size, 0, none⟩ = some (.slice p1 A1.length c1)) → Below W.heap.size W W' → (W'.cell? ⟨W3.heap.size, 0, none⟩ = some (.slice p3 r.length c3) ∧ W'.cell? ⟨W4.heap.size, 0, none⟩ = some (.slice p4 r.length c4) ∧ W'.cell? ⟨w.heap.size, 0, none⟩ = some (.slice p1 A1.length c1))) := Lib.hid fun W W' h hb => ⟨cell_later7 h.1 hb, cell_later7 h.2.1 hb, cell_later7 h.2.2 hb⟩
          obtain ⟨m1, m2, m3⟩ := kcells.out _ hS7.out
          clear ksel hb7 y1 hB6 hS6 hv6 kcells hI6
          go_wp2
          clear m1 m2 m3
          refine wp_region_held_drew (S := (fun W' => Hid (Below w.heap.size w W') ∧ Hid (RBs W' LL) ∧ HI W' (.slice p5 V.length c5) (V.map Int.ofNat) ∧ W'.cell? ⟨W3.heap.size, 0, none⟩ = some (.slice p3 r.length c3) ∧ W'.cell? ⟨W4.heap.size, 0, none⟩ = some (.slice p4 r.length c4) ∧ W'.cell? ⟨w.heap.size, 0, none⟩ = some (.slice p1 A1.length c1))) (by kernel_rfl) hMM (fun hHeld => ?_)
          clear hMM
          refine wpAnyH_take (i := 0) (oi := { dst := some 75, op := _, type := _, pos := _, after := _, guard := _ }) (v := ?v1) rfl (by kernel_rfl) (by kernel_rfl) (by kernel_rfl) (fun _ _ _ h => h) (Or.inl ⟨by kernel_rfl, ?y1⟩) hHeld ?r1
          case y1 =>
            intro w hSw
            try dsimp only at hSw
            try simp only [List.getElem_toArray, List.getElem_cons_zero, List.getElem_cons_succ]
            go_simp
            try with_reducible rfl
          try simp only [List.getElem_toArray, List.getElem_cons_zero, List.getElem_cons_succ, Act.put, List.setIfInBounds_toArray, List.set_cons_zero, List.set_cons_succ]
          refine wpAnyH_take (i := 1) (oi := { dst := some 76, op := _, type := _, pos := _, after := _, guard := _ }) (v := ?v2) rfl (by kernel_rfl) (by kernel_rfl) (by kernel_rfl) (fun _ _ _ h => h) (Or.inl ⟨by kernel_rfl, ?y2⟩) hHeld ?r2
          case y2 =>
            intro w hSw
            try dsimp only at hSw
            try simp only [List.getElem_toArray, List.getElem_cons_zero, List.getElem_cons_succ]
            go_simp
            try with_reducible rfl
          try simp only [List.getElem_toArray, List.getElem_cons_zero, List.getElem_cons_succ, Act.put, List.setIfInBounds_toArray, List.set_cons_zero, List.set_cons_succ]
          refine wpAnyH_take (i := 2) (oi := { dst := some 77, op := _, type := _, pos := _, after := _, guard := _ }) (v := ?v3) rfl (by kernel_rfl) (by kernel_rfl) (by kernel_rfl) (fun _ _ _ h => h) (Or.inl ⟨by kernel_rfl, ?y3⟩) hHeld ?r3
          case y3 =>
            intro w hSw
            try dsimp only at hSw
            try simp only [List.getElem_toArray, List.getElem_cons_zero, List.getElem_cons_succ]
            go_simp
            try with_reducible rfl
          try simp only [List.getElem_toArray, List.getElem_cons_zero, List.getElem_cons_succ, Act.put, List.setIfInBounds_toArray, List.set_cons_zero, List.set_cons_succ]
          refine wpAnyH_take (i := 3) (oi := { dst := some 78, op := _, type := _, pos := _, after := _, guard := _ }) (v := ?v4) rfl (by kernel_rfl) (by kernel_rfl) (by kernel_rfl) (fun _ _ _ h => h) (Or.inl ⟨by kernel_rfl, ?y4⟩) hHeld ?r4
          case y4 =>
            intro w hSw
            try dsimp only at hSw
            try simp only [List.getElem_toArray, List.getElem_cons_zero, List.getElem_cons_succ]
            go_simp
            try with_reducible rfl
          try simp only [List.getElem_toArray, List.getElem_cons_zero, List.getElem_cons_succ, Act.put, List.setIfInBounds_toArray, List.set_cons_zero, List.set_cons_succ]
          refine wpAnyH_ready (rs := [4]) (by kernel_rfl) (by simp) ?_
          refine AllReadyH.cons rfl (fun K hK => ?_) AllReadyH.nil
          try simp only [List.getElem_toArray, List.getElem_cons_zero, List.getElem_cons_succ]
          go_simp
          refine (kS.out _ hHeld.2.1.out).mono ?_
          rintro e Wn ⟨rfl, hbn⟩
          have hnew := mk_keep hCl hbn hHeld.1 hHeld.2.1 hHeld.2.2.1 hHeld.2.2.2
          refine hK.out _ _ hnew (fun hHeld' => ?_)
          clear hHeld hnew hbn hK K
          have hHeld := hHeld'
          clear hHeld'
          try simp only [List.getElem_toArray, List.getElem_cons_zero, List.getElem_cons_succ, Act.put, List.setIfInBounds_toArray, List.set_cons_zero, List.set_cons_succ]
          refine wpAnyH_take (i := 5) (oi := { dst := some 80, op := _, type := _, pos := _, after := _, guard := _ }) (v := ?v5) rfl (by kernel_rfl) (by kernel_rfl) (by kernel_rfl) (fun _ _ _ h => h) (Or.inl ⟨by kernel_rfl, ?y5⟩) hHeld ?r5
          case y5 =>
            intro w hSw
            try dsimp only at hSw
            try simp only [List.getElem_toArray, List.getElem_cons_zero, List.getElem_cons_succ]
            go_simp
            try with_reducible rfl
          try simp only [List.getElem_toArray, List.getElem_cons_zero, List.getElem_cons_succ, Act.put, List.setIfInBounds_toArray, List.set_cons_zero, List.set_cons_succ]
          refine wpAnyH_take (i := 6) (oi := { dst := some 81, op := _, type := _, pos := _, after := _, guard := _ }) (v := ?v6) rfl (by kernel_rfl) (by kernel_rfl) (by kernel_rfl) (fun _ _ _ h => h) (Or.inl ⟨by kernel_rfl, ?y6⟩) hHeld ?r6
          case y6 =>
            intro w hSw
            try dsimp only at hSw
            try simp only [List.getElem_toArray, List.getElem_cons_zero, List.getElem_cons_succ]
            go_simp
            try with_reducible rfl
          try simp only [List.getElem_toArray, List.getElem_cons_zero, List.getElem_cons_succ, Act.put, List.setIfInBounds_toArray, List.set_cons_zero, List.set_cons_succ]
          refine wpAnyH_take (i := 7) (oi := { dst := some 82, op := _, type := _, pos := _, after := _, guard := _ }) (v := ?v7) rfl (by kernel_rfl) (by kernel_rfl) (by kernel_rfl) (fun _ _ _ h => h) (Or.inl ⟨by kernel_rfl, ?y7⟩) hHeld ?r7
          case y7 =>
            intro w hSw
            try dsimp only at hSw
            try simp only [List.getElem_toArray, List.getElem_cons_zero, List.getElem_cons_succ]
            go_simp
            try with_reducible rfl
          try simp only [List.getElem_toArray, List.getElem_cons_zero, List.getElem_cons_succ, Act.put, List.setIfInBounds_toArray, List.set_cons_zero, List.set_cons_succ]
          refine wpAnyH_take (i := 8) (oi := { dst := some 83, op := _, type := _, pos := _, after := _, guard := _ }) (v := ?v8) rfl (by kernel_rfl) (by kernel_rfl) (by kernel_rfl) (fun _ _ _ h => h) (Or.inl ⟨by kernel_rfl, ?y8⟩) hHeld ?r8
          case y8 =>
            intro w hSw
            try dsimp only at hSw
            try simp only [List.getElem_toArray, List.getElem_cons_zero, List.getElem_cons_succ]
            go_simp
            try with_reducible rfl
          try simp only [List.getElem_toArray, List.getElem_cons_zero, List.getElem_cons_succ, Act.put, List.setIfInBounds_toArray, List.set_cons_zero, List.set_cons_succ]
          refine wpAnyH_take (i := 9) (oi := { dst := some 84, op := _, type := _, pos := _, after := _, guard := _ }) (v := ?v9) rfl (by kernel_rfl) (by kernel_rfl) (by kernel_rfl) (fun _ _ _ h => h) (Or.inl ⟨by kernel_rfl, ?y9⟩) hHeld ?r9
          case y9 =>
            intro w hSw
            try dsimp only at hSw
            try simp only [List.getElem_toArray, List.getElem_cons_zero, List.getElem_cons_succ]
            go_simp
            try with_reducible rfl
          try simp only [List.getElem_toArray, List.getElem_cons_zero, List.getElem_cons_succ, Act.put, List.setIfInBounds_toArray, List.set_cons_zero, List.set_cons_succ]
          refine wpAnyH_take (i := 10) (oi := { dst := some 85, op := _, type := _, pos := _, after := _, guard := _ }) (v := ?v10) rfl (by kernel_rfl) (by kernel_rfl) (by kernel_rfl) (fun _ _ _ h => h) (Or.inl ⟨by kernel_rfl, ?y10⟩) hHeld ?r10
          case y10 =>
            intro w hSw
            try dsimp only at hSw
            try simp only [List.getElem_toArray, List.getElem_cons_zero, List.getElem_cons_succ]
            go_simp
            try with_reducible rfl
          try simp only [List.getElem_toArray, List.getElem_cons_zero, List.getElem_cons_succ, Act.put, List.setIfInBounds_toArray, List.set_cons_zero, List.set_cons_succ]
          refine wpAnyH_take (i := 11) (oi := { dst := some 86, op := _, type := _, pos := _, after := _, guard := _ }) (v := ?v11) rfl (by kernel_rfl) (by kernel_rfl) (by kernel_rfl) (fun _ _ _ h => h) (Or.inl ⟨by kernel_rfl, ?y11⟩) hHeld ?r11
          case y11 =>
            intro w hSw
            try dsimp only at hSw
            try simp only [List.getElem_toArray, List.getElem_cons_zero, List.getElem_cons_succ]
            go_simp
            try with_reducible rfl
          try simp only [List.getElem_toArray, List.getElem_cons_zero, List.getElem_cons_succ, Act.put, List.setIfInBounds_toArray, List.set_cons_zero, List.set_cons_succ]
          refine wpAnyH_take (i := 12) (oi := { dst := some 87, op := _, type := _, pos := _, after := _, guard := _ }) (v := ?v12) rfl (by kernel_rfl) (by kernel_rfl) (by kernel_rfl) (fun _ _ _ h => h) (Or.inl ⟨by kernel_rfl, ?y12⟩) hHeld ?r12
          case y12 =>
            intro w hSw
            try dsimp only at hSw
            try simp only [List.getElem_toArray, List.getElem_cons_zero, List.getElem_cons_succ]
            go_simp
            try with_reducible rfl
          try simp only [List.getElem_toArray, List.getElem_cons_zero, List.getElem_cons_succ, Act.put, List.setIfInBounds_toArray, List.set_cons_zero, List.set_cons_succ]
          refine wpAnyH_take (i := 14) (oi := { dst := some 89, op := _, type := _, pos := _, after := _, guard := _ }) (v := ?v13) rfl (by kernel_rfl) (by kernel_rfl) (by kernel_rfl) (fun _ _ _ h => h) (Or.inl ⟨by kernel_rfl, ?y13⟩) hHeld ?r13
          case y13 =>
            intro w hSw
            try dsimp only at hSw
            try simp only [List.getElem_toArray, List.getElem_cons_zero, List.getElem_cons_succ]
            go_simp
            try with_reducible rfl
          try simp only [List.getElem_toArray, List.getElem_cons_zero, List.getElem_cons_succ, Act.put, List.setIfInBounds_toArray, List.set_cons_zero, List.set_cons_succ]
          refine wpAnyH_ready (rs := [13]) (by kernel_rfl) (by simp) ?_
          refine AllReadyH.cons rfl (fun K hK => ?_) AllReadyH.nil
          try simp only [List.getElem_toArray, List.getElem_cons_zero, List.getElem_cons_succ]
          go_simp
          refine (kR.out _ hHeld.2.1.out hHeld.1.out).mono ?_
          rintro e Wn ⟨rfl, hbn⟩
          have hnew := mk_keep hCl hbn hHeld.1 hHeld.2.1 hHeld.2.2.1 hHeld.2.2.2
          refine hK.out _ _ hnew (fun hHeld' => ?_)
          clear hHeld hnew hbn hK K
          have hHeld := hHeld'
          clear hHeld'
          try simp only [List.getElem_toArray, List.getElem_cons_zero, List.getElem_cons_succ, Act.put, List.setIfInBounds_toArray, List.set_cons_zero, List.set_cons_succ]
          refine wpAnyH_ready (rs := [15]) (by kernel_rfl) (by simp) ?_
          refine AllReadyH.cons rfl (fun K hK => ?_) AllReadyH.nil
          try simp only [List.getElem_toArray, List.getElem_cons_zero, List.getElem_cons_succ]
          go_simp
          refine (kRR.out _ hHeld.2.1.out).mono ?_
          rintro e Wn ⟨rfl, hbn⟩
          have hnew := mk_keep hCl hbn hHeld.1 hHeld.2.1 hHeld.2.2.1 hHeld.2.2.2
          refine hK.out _ _ hnew (fun hHeld' => ?_)
          clear hHeld hnew hbn hK K
          have hHeld := hHeld'
          clear hHeld'
          try simp only [List.getElem_toArray, List.getElem_cons_zero, List.getElem_cons_succ, Act.put, List.setIfInBounds_toArray, List.set_cons_zero, List.set_cons_succ]
          refine wpAnyH_take (i := 16) (oi := { dst := some 91, op := _, type := _, pos := _, after := _, guard := _ }) (v := ?v14) rfl (by kernel_rfl) (by kernel_rfl) (by kernel_rfl) (fun _ _ _ h => h) (Or.inl ⟨by kernel_rfl, ?y14⟩) hHeld ?r14
          case y14 =>
            intro w hSw
            try dsimp only at hSw
            try simp only [List.getElem_toArray, List.getElem_cons_zero, List.getElem_cons_succ]
            go_simp
            try with_reducible rfl
          try simp only [List.getElem_toArray, List.getElem_cons_zero, List.getElem_cons_succ, Act.put, List.setIfInBounds_toArray, List.set_cons_zero, List.set_cons_succ]
          refine wpAnyH_take (i := 17) (oi := { dst := some 92, op := _, type := _, pos := _, after := _, guard := _ }) (v := ?v15) rfl (by kernel_rfl) (by kernel_rfl) (by kernel_rfl) (fun _ _ _ h => h) (Or.inl ⟨by kernel_rfl, ?y15⟩) hHeld ?r15
          case y15 =>
            intro w hSw
            try dsimp only at hSw
            try simp only [List.getElem_toArray, List.getElem_cons_zero, List.getElem_cons_succ]
            go_simp
            try with_reducible rfl
          try simp only [List.getElem_toArray, List.getElem_cons_zero, List.getElem_cons_succ, Act.put, List.setIfInBounds_toArray, List.set_cons_zero, List.set_cons_succ]
          refine wpAnyH_take (i := 18) (oi := { dst := some 93, op := _, type := _, pos := _, after := _, guard := _ }) (v := ?v16) rfl (by kernel_rfl) (by kernel_rfl) (by kernel_rfl) (fun _ _ _ h => h) (Or.inl ⟨by kernel_rfl, ?y16⟩) hHeld ?r16
          case y16 =>
            intro w hSw
            try dsimp only at hSw
            try simp only [List.getElem_toArray, List.getElem_cons_zero, List.getElem_cons_succ]
            go_simp
            try with_reducible rfl
          try simp only [List.getElem_toArray, List.getElem_cons_zero, List.getElem_cons_succ, Act.put, List.setIfInBounds_toArray, List.set_cons_zero, List.set_cons_succ]
          refine wpAnyH_take (i := 19) (oi := { dst := some 94, op := _, type := _, pos := _, after := _, guard := _ }) (v := ?v17) rfl (by kernel_rfl) (by kernel_rfl) (by kernel_rfl) (fun _ _ _ h => h) (Or.inl ⟨by kernel_rfl, ?y17⟩) hHeld ?r17
          case y17 =>
            intro w hSw
            try dsimp only at hSw
            try simp only [List.getElem_toArray, List.getElem_cons_zero, List.getElem_cons_succ]
            go_simp
            try with_reducible rfl
          try simp only [List.getElem_toArray, List.getElem_cons_zero, List.getElem_cons_succ, Act.put, List.setIfInBounds_toArray, List.set_cons_zero, List.set_cons_succ]
          refine wpAnyH_take (i := 21) (oi := { dst := some 96, op := _, type := _, pos := _, after := _, guard := _ }) (v := ?v18) rfl (by kernel_rfl) (by kernel_rfl) (by kernel_rfl) (fun _ _ _ h => h) (Or.inl ⟨by kernel_rfl, ?y18⟩) hHeld ?r18
          case y18 =>
            intro w hSw
            try dsimp only at hSw
            try simp only [List.getElem_toArray, List.getElem_cons_zero, List.getElem_cons_succ]
            go_simp
            try with_reducible rfl
          try simp only [List.getElem_toArray, List.getElem_cons_zero, List.getElem_cons_succ, Act.put, List.setIfInBounds_toArray, List.set_cons_zero, List.set_cons_succ]
          refine wpAnyH_ready (rs := [20]) (by kernel_rfl) (by simp) ?_
          refine AllReadyH.cons rfl (fun K hK => ?_) AllReadyH.nil
          try simp only [List.getElem_toArray, List.getElem_cons_zero, List.getElem_cons_succ]
          go_simp
          refine (kV.out _ hHeld.2.1.out hHeld.1.out).mono ?_
          rintro e Wn ⟨vn, rfl, hvn, -, hbn⟩
          have hnew := mk_keep hCl hbn hHeld.1 hHeld.2.1 hHeld.2.2.1 hHeld.2.2.2
          refine hK.out _ _ hnew (fun hHeld' => ?_)
          clear hHeld hnew hbn hK K
          have hHeld := hHeld'
          clear hHeld'
          try simp only [List.getElem_toArray, List.getElem_cons_zero, List.getElem_cons_succ, Act.put, List.setIfInBounds_toArray, List.set_cons_zero, List.set_cons_succ]
          refine wpAnyH_ready (rs := [22]) (by kernel_rfl) (by simp) ?_
          refine AllReadyH.cons rfl (fun K hK => ?_) AllReadyH.nil
          try simp only [List.getElem_toArray, List.getElem_cons_zero, List.getElem_cons_succ]
          go_simp
          refine (kI.out _ _ hvn hHeld.2.2.1).mono ?_
          rintro e Wn ⟨rfl, hbn⟩
          clear hvn
          have hnew := mk_keep hCl hbn hHeld.1 hHeld.2.1 hHeld.2.2.1 hHeld.2.2.2
          refine hK.out _ _ hnew (fun hHeld' => ?_)
          clear hHeld hnew hbn hK K
          have hHeld := hHeld'
          clear hHeld'
          try simp only [List.getElem_toArray, List.getElem_cons_zero, List.getElem_cons_succ, Act.put, List.setIfInBounds_toArray, List.set_cons_zero, List.set_cons_succ]
          refine wpAnyH_take (i := 23) (oi := { dst := some 98, op := _, type := _, pos := _, after := _, guard := _ }) (v := ?v19) rfl (by kernel_rfl) (by kernel_rfl) (by kernel_rfl) (fun _ _ _ h => h) (Or.inl ⟨by kernel_rfl, ?y19⟩) hHeld ?r19
          case y19 =>
            intro w hSw
            try dsimp only at hSw
            try simp only [List.getElem_toArray, List.getElem_cons_zero, List.getElem_cons_succ]
            go_simp
            try with_reducible rfl
          try simp only [List.getElem_toArray, List.getElem_cons_zero, List.getElem_cons_succ, Act.put, List.setIfInBounds_toArray, List.set_cons_zero, List.set_cons_succ]
          refine wpAnyH_take (i := 24) (oi := { dst := some 99, op := _, type := _, pos := _, after := _, guard := _ }) (v := ?v20) rfl (by kernel_rfl) (by kernel_rfl) (by kernel_rfl) (fun _ _ _ h => h) (Or.inl ⟨by kernel_rfl, ?y20⟩) hHeld ?r20
          case y20 =>
            intro w hSw
            try dsimp only at hSw
            try simp only [List.getElem_toArray, List.getElem_cons_zero, List.getElem_cons_succ]
            go_simp
            try with_reducible rfl
          try simp only [List.getElem_toArray, List.getElem_cons_zero, List.getElem_cons_succ, Act.put, List.setIfInBounds_toArray, List.set_cons_zero, List.set_cons_succ]
          refine wpAnyH_take (i := 25) (oi := { dst := some 100, op := _, type := _, pos := _, after := _, guard := _ }) (v := ?v21) rfl (by kernel_rfl) (by kernel_rfl) (by kernel_rfl) (fun _ _ _ h => h) (Or.inl ⟨by kernel_rfl, ?y21⟩) hHeld ?r21
          case y21 =>
            intro w hSw
            try dsimp only at hSw
            try simp only [List.getElem_toArray, List.getElem_cons_zero, List.getElem_cons_succ]
            go_simp
            try with_reducible rfl
          try simp only [List.getElem_toArray, List.getElem_cons_zero, List.getElem_cons_succ, Act.put, List.setIfInBounds_toArray, List.set_cons_zero, List.set_cons_succ]
          refine wpAnyH_take (i := 27) (oi := { dst := some 102, op := _, type := _, pos := _, after := _, guard := _ }) (v := ?v22) rfl (by kernel_rfl) (by kernel_rfl) (by kernel_rfl) (fun _ _ _ h => h) (Or.inl ⟨by kernel_rfl, ?y22⟩) hHeld ?r22
          case y22 =>
            intro w hSw
            try dsimp only at hSw
            try simp only [List.getElem_toArray, List.getElem_cons_zero, List.getElem_cons_succ]
            go_simp
            try with_reducible rfl
          try simp only [List.getElem_toArray, List.getElem_cons_zero, List.getElem_cons_succ, Act.put, List.setIfInBounds_toArray, List.set_cons_zero, List.set_cons_succ]
          refine wpAnyH_take (i := 28) (oi := { dst := some 103, op := _, type := _, pos := _, after := _, guard := _ }) (v := ?v23) rfl (by kernel_rfl) (by kernel_rfl) (by kernel_rfl) (fun _ _ _ h => h) (Or.inl ⟨by kernel_rfl, ?y23⟩) hHeld ?r23
          case y23 =>
            intro w hSw
            try dsimp only at hSw
            try simp only [List.getElem_toArray, List.getElem_cons_zero, List.getElem_cons_succ]
            go_simp
            try with_reducible rfl
          try simp only [List.getElem_toArray, List.getElem_cons_zero, List.getElem_cons_succ, Act.put, List.setIfInBounds_toArray, List.set_cons_zero, List.set_cons_succ]
          refine wpAnyH_ready (rs := [26]) (by kernel_rfl) (by simp) ?_
          refine AllReadyH.cons rfl (fun K hK => ?_) AllReadyH.nil
          try simp only [List.getElem_toArray, List.getElem_cons_zero, List.getElem_cons_succ]
          go_simp
          refine (kC.out _ hHeld.2.1.out hHeld.1.out).mono ?_
          rintro e Wn ⟨rfl, hbn⟩
          have hnew := mk_keep hCl hbn hHeld.1 hHeld.2.1 hHeld.2.2.1 hHeld.2.2.2
          refine hK.out _ _ hnew (fun hHeld' => ?_)
          clear hHeld hnew hbn hK K
          have hHeld := hHeld'
          clear hHeld'
          try simp only [List.getElem_toArray, List.getElem_cons_zero, List.getElem_cons_succ, Act.put, List.setIfInBounds_toArray, List.set_cons_zero, List.set_cons_succ]
          refine wpAnyH_take (i := 29) (oi := { dst := some 104, op := _, type := _, pos := _, after := _, guard := _ }) (v := ?v24) rfl (by kernel_rfl) (by kernel_rfl) (by kernel_rfl) (fun _ _ _ h => h) (Or.inl ⟨by kernel_rfl, ?y24⟩) hHeld ?r24
          case y24 =>
            intro w hSw
            try dsimp only at hSw
            try simp only [List.getElem_toArray, List.getElem_cons_zero, List.getElem_cons_succ]
            go_simp
            try with_reducible rfl
          try simp only [List.getElem_toArray, List.getElem_cons_zero, List.getElem_cons_succ, Act.put, List.setIfInBounds_toArray, List.set_cons_zero, List.set_cons_succ]
          refine wpAnyH_take (i := 30) (oi := { dst := some 105, op := _, type := _, pos := _, after := _, guard := _ }) (v := ?v25) rfl (by kernel_rfl) (by kernel_rfl) (by kernel_rfl) (fun _ _ _ h => h) (Or.inl ⟨by kernel_rfl, ?y25⟩) hHeld ?r25
          case y25 =>
            intro w hSw
            try dsimp only at hSw
            try simp only [List.getElem_toArray, List.getElem_cons_zero, List.getElem_cons_succ]
            go_simp
            try with_reducible rfl
          try simp only [List.getElem_toArray, List.getElem_cons_zero, List.getElem_cons_succ, Act.put, List.setIfInBounds_toArray, List.set_cons_zero, List.set_cons_succ]
          refine wpAnyH_take (i := 31) (oi := { dst := some 106, op := _, type := _, pos := _, after := _, guard := _ }) (v := ?v26) rfl (by kernel_rfl) (by kernel_rfl) (by kernel_rfl) (fun _ _ _ h => h) (Or.inl ⟨by kernel_rfl, ?y26⟩) hHeld ?r26
          case y26 =>
            intro w hSw
            try dsimp only at hSw
            try simp only [List.getElem_toArray, List.getElem_cons_zero, List.getElem_cons_succ]
            go_simp
            try with_reducible rfl
          try simp only [List.getElem_toArray, List.getElem_cons_zero, List.getElem_cons_succ, Act.put, List.setIfInBounds_toArray, List.set_cons_zero, List.set_cons_succ]
          refine wpAnyH_take (i := 32) (oi := { dst := some 107, op := _, type := _, pos := _, after := _, guard := _ }) (v := ?v27) rfl (by kernel_rfl) (by kernel_rfl) (by kernel_rfl) (fun _ _ _ h => h) (Or.inl ⟨by kernel_rfl, ?y27⟩) hHeld ?r27
          case y27 =>
            intro w hSw
            try dsimp only at hSw
            try simp only [List.getElem_toArray, List.getElem_cons_zero, List.getElem_cons_succ]
            go_simp
            try with_reducible rfl
          try simp only [List.getElem_toArray, List.getElem_cons_zero, List.getElem_cons_succ, Act.put, List.setIfInBounds_toArray, List.set_cons_zero, List.set_cons_succ]
          refine wpAnyH_take (i := 33) (oi := { dst := some 108, op := _, type := _, pos := _, after := _, guard := _ }) (v := ?v28) rfl (by kernel_rfl) (by kernel_rfl) (by kernel_rfl) (fun _ _ _ h => h) (Or.inl ⟨by kernel_rfl, ?y28⟩) hHeld ?r28
          case y28 =>
            intro w hSw
            try dsimp only at hSw
            try simp only [List.getElem_toArray, List.getElem_cons_zero, List.getElem_cons_succ]
            go_simp
            try with_reducible rfl
          try simp only [List.getElem_toArray, List.getElem_cons_zero, List.getElem_cons_succ, Act.put, List.setIfInBounds_toArray, List.set_cons_zero, List.set_cons_succ]
          refine wpAnyH_take (i := 35) (oi := { dst := some 110, op := _, type := _, pos := _, after := _, guard := _ }) (v := ?v29) rfl (by kernel_rfl) (by kernel_rfl) (by kernel_rfl) (fun _ _ _ h => h) (Or.inl ⟨by kernel_rfl, ?y29⟩) hHeld ?r29
          case y29 =>
            intro w hSw
            try dsimp only at hSw
            try simp only [List.getElem_toArray, List.getElem_cons_zero, List.getElem_cons_succ]
            go_simp
            try with_reducible rfl
          try simp only [List.getElem_toArray, List.getElem_cons_zero, List.getElem_cons_succ, Act.put, List.setIfInBounds_toArray, List.set_cons_zero, List.set_cons_succ]
          refine wpAnyH_ready (rs := [34]) (by kernel_rfl) (by simp) ?_
          refine AllReadyH.cons rfl (fun K hK => ?_) AllReadyH.nil
          try simp only [List.getElem_toArray, List.getElem_cons_zero, List.getElem_cons_succ]
          go_simp
          refine (kH.out _ hHeld.2.1.out hHeld.1.out).mono ?_
          rintro e Wn ⟨rfl, hbn⟩
          have hnew := mk_keep hCl hbn hHeld.1 hHeld.2.1 hHeld.2.2.1 hHeld.2.2.2
          refine hK.out _ _ hnew (fun hHeld' => ?_)
          clear hHeld hnew hbn hK K
          have hHeld := hHeld'
          clear hHeld'
          try simp only [List.getElem_toArray, List.getElem_cons_zero, List.getElem_cons_succ, Act.put, List.setIfInBounds_toArray, List.set_cons_zero, List.set_cons_succ]
          refine wpAnyH_take (i := 36) (oi := { dst := some 111, op := _, type := _, pos := _, after := _, guard := _ }) (v := ?v30) rfl (by kernel_rfl) (by kernel_rfl) (by kernel_rfl) (fun _ _ _ h => h) (Or.inl ⟨by kernel_rfl, ?y30⟩) hHeld ?r30
          case y30 =>
            intro w hSw
            try dsimp only at hSw
            try simp only [List.getElem_toArray, List.getElem_cons_zero, List.getElem_cons_succ]
            go_simp
            try with_reducible rfl
          try simp only [List.getElem_toArray, List.getElem_cons_zero, List.getElem_cons_succ, Act.put, List.setIfInBounds_toArray, List.set_cons_zero, List.set_cons_succ]
          refine wpAnyH_take (i := 37) (oi := { dst := some 112, op := _, type := _, pos := _, after := _, guard := _ }) (v := ?v31) rfl (by kernel_rfl) (by kernel_rfl) (by kernel_rfl) (fun _ _ _ h => h) (Or.inl ⟨by kernel_rfl, ?y31⟩) hHeld ?r31
          case y31 =>
            intro w hSw
            try dsimp only at hSw
            try simp only [List.getElem_toArray, List.getElem_cons_zero, List.getElem_cons_succ]
            go_simp
            try with_reducible rfl
          try simp only [List.getElem_toArray, List.getElem_cons_zero, List.getElem_cons_succ, Act.put, List.setIfInBounds_toArray, List.set_cons_zero, List.set_cons_succ]
          refine wpAnyH_take (i := 38) (oi := { dst := some 113, op := _, type := _, pos := _, after := _, guard := _ }) (v := ?v32) rfl (by kernel_rfl) (by kernel_rfl) (by kernel_rfl) (fun _ _ _ h => h) (Or.inl ⟨by kernel_rfl, ?y32⟩) hHeld ?r32
          case y32 =>
            intro w hSw
            try dsimp only at hSw
            try simp only [List.getElem_toArray, List.getElem_cons_zero, List.getElem_cons_succ]
            go_simp
            try with_reducible rfl
          try simp only [List.getElem_toArray, List.getElem_cons_zero, List.getElem_cons_succ, Act.put, List.setIfInBounds_toArray, List.set_cons_zero, List.set_cons_succ]
          refine wpAnyH_take (i := 39) (oi := { dst := some 114, op := _, type := _, pos := _, after := _, guard := _ }) (v := ?v33) rfl (by kernel_rfl) (by kernel_rfl) (by kernel_rfl) (fun _ _ _ h => h) (Or.inl ⟨by kernel_rfl, ?y33⟩) hHeld ?r33
          case y33 =>
            intro w hSw
            try dsimp only at hSw
            try simp only [List.getElem_toArray, List.getElem_cons_zero, List.getElem_cons_succ]
            go_simp
            try with_reducible rfl
          try simp only [List.getElem_toArray, List.getElem_cons_zero, List.getElem_cons_succ, Act.put, List.setIfInBounds_toArray, List.set_cons_zero, List.set_cons_succ]
          refine wpAnyH_take (i := 40) (oi := { dst := some 115, op := _, type := _, pos := _, after := _, guard := _ }) (v := ?v34) rfl (by kernel_rfl) (by kernel_rfl) (by kernel_rfl) (fun _ _ _ h => h) (Or.inl ⟨by kernel_rfl, ?y34⟩) hHeld ?r34
          case y34 =>
            intro w hSw
            try dsimp only at hSw
            try simp only [List.getElem_toArray, List.getElem_cons_zero, List.getElem_cons_succ]
            go_simp
            try with_reducible rfl
          try simp only [List.getElem_toArray, List.getElem_cons_zero, List.getElem_cons_succ, Act.put, List.setIfInBounds_toArray, List.set_cons_zero, List.set_cons_succ]
          refine wpAnyH_take (i := 42) (oi := { dst := some 117, op := _, type := _, pos := _, after := _, guard := _ }) (v := ?v35) rfl (by kernel_rfl) (by kernel_rfl) (by kernel_rfl) (fun _ _ _ h => h) (Or.inl ⟨by kernel_rfl, ?y35⟩) hHeld ?r35
          case y35 =>
            intro w hSw
            try dsimp only at hSw
            try simp only [List.getElem_toArray, List.getElem_cons_zero, List.getElem_cons_succ]
            go_simp
            try with_reducible rfl
          try simp only [List.getElem_toArray, List.getElem_cons_zero, List.getElem_cons_succ, Act.put, List.setIfInBounds_toArray, List.set_cons_zero, List.set_cons_succ]
          refine wpAnyH_ready (rs := [41]) (by kernel_rfl) (by simp) ?_
          refine AllReadyH.cons rfl (fun K hK => ?_) AllReadyH.nil
          try simp only [List.getElem_toArray, List.getElem_cons_zero, List.getElem_cons_succ]
          go_simp
          refine (kK.out _ hHeld.2.1.out hHeld.1.out).mono ?_
          rintro e Wn ⟨rfl, hbn⟩
          have hnew := mk_keep hCl hbn hHeld.1 hHeld.2.1 hHeld.2.2.1 hHeld.2.2.2
          refine hK.out _ _ hnew (fun hHeld' => ?_)
          clear hHeld hnew hbn hK K
          have hHeld := hHeld'
          clear hHeld'
          try simp only [List.getElem_toArray, List.getElem_cons_zero, List.getElem_cons_succ, Act.put, List.setIfInBounds_toArray, List.set_cons_zero, List.set_cons_succ]
          refine wpAnyH_take (i := 43) (oi := { dst := some 118, op := _, type := _, pos := _, after := _, guard := _ }) (v := ?v36) rfl (by kernel_rfl) (by kernel_rfl) (by kernel_rfl) (fun _ _ _ h => h) (Or.inl ⟨by kernel_rfl, ?y36⟩) hHeld ?r36
          case y36 =>
            intro w hSw
            try dsimp only at hSw
            try simp only [List.getElem_toArray, List.getElem_cons_zero, List.getElem_cons_succ]
            go_simp
            try with_reducible rfl
          try simp only [List.getElem_toArray, List.getElem_cons_zero, List.getElem_cons_succ, Act.put, List.setIfInBounds_toArray, List.set_cons_zero, List.set_cons_succ]
          refine wpAnyH_take (i := 44) (oi := { dst := some 119, op := _, type := _, pos := _, after := _, guard := _ }) (v := ?v37) rfl (by kernel_rfl) (by kernel_rfl) (by kernel_rfl) (fun _ _ _ h => h) (Or.inl ⟨by kernel_rfl, ?y37⟩) hHeld ?r37
          case y37 =>
            intro w hSw
            try dsimp only at hSw
            try simp only [List.getElem_toArray, List.getElem_cons_zero, List.getElem_cons_succ]
            go_simp
            try with_reducible rfl
          try simp only [List.getElem_toArray, List.getElem_cons_zero, List.getElem_cons_succ, Act.put, List.setIfInBounds_toArray, List.set_cons_zero, List.set_cons_succ]
          refine wpAnyH_take (i := 45) (oi := { dst := some 120, op := _, type := _, pos := _, after := _, guard := _ }) (v := ?v38) rfl (by kernel_rfl) (by kernel_rfl) (by kernel_rfl) (fun _ _ _ h => h) (Or.inl ⟨by kernel_rfl, ?y38⟩) hHeld ?r38
          case y38 =>
            intro w hSw
            try dsimp only at hSw
            try simp only [List.getElem_toArray, List.getElem_cons_zero, List.getElem_cons_succ]
            go_simp
            try with_reducible rfl
          try simp only [List.getElem_toArray, List.getElem_cons_zero, List.getElem_cons_succ, Act.put, List.setIfInBounds_toArray, List.set_cons_zero, List.set_cons_succ]
          refine wpAnyH_take (i := 46) (oi := { dst := some 121, op := _, type := _, pos := _, after := _, guard := _ }) (v := ?v39) rfl (by kernel_rfl) (by kernel_rfl) (by kernel_rfl) (fun _ _ _ h => h) (Or.inl ⟨by kernel_rfl, ?y39⟩) hHeld ?r39
          case y39 =>
            intro w hSw
            try dsimp only at hSw
            try simp only [List.getElem_toArray, List.getElem_cons_zero, List.getElem_cons_succ]
            go_simp
            try with_reducible rfl
          try simp only [List.getElem_toArray, List.getElem_cons_zero, List.getElem_cons_succ, Act.put, List.setIfInBounds_toArray, List.set_cons_zero, List.set_cons_succ]
          refine wpAnyH_take (i := 47) (oi := { dst := some 122, op := _, type := _, pos := _, after := _, guard := _ }) (v := ?v40) rfl (by kernel_rfl) (by kernel_rfl) (by kernel_rfl) (fun _ _ _ h => h) (Or.inl ⟨by kernel_rfl, ?y40⟩) hHeld ?r40
          case y40 =>
            intro w hSw
            try dsimp only at hSw
            try simp only [List.getElem_toArray, List.getElem_cons_zero, List.getElem_cons_succ]
            go_simp
            try with_reducible rfl
          try simp only [List.getElem_toArray, List.getElem_cons_zero, List.getElem_cons_succ, Act.put, List.setIfInBounds_toArray, List.set_cons_zero, List.set_cons_succ]
          refine wpAnyH_take (i := 48) (oi := { dst := some 123, op := _, type := _, pos := _, after := _, guard := _ }) (v := ?v41) rfl (by kernel_rfl) (by kernel_rfl) (by kernel_rfl) (fun _ _ _ h => h) (Or.inl ⟨by kernel_rfl, ?y41⟩) hHeld ?r41
          case y41 =>
            intro w hSw
            try dsimp only at hSw
            try simp only [List.getElem_toArray, List.getElem_cons_zero, List.getElem_cons_succ]
            go_simp
            try with_reducible rfl
          try simp only [List.getElem_toArray, List.getElem_cons_zero, List.getElem_cons_succ, Act.put, List.setIfInBounds_toArray, List.set_cons_zero, List.set_cons_succ]
          refine wpAnyH_take (i := 49) (oi := { dst := some 124, op := _, type := _, pos := _, after := _, guard := _ }) (v := ?v42) rfl (by kernel_rfl) (by kernel_rfl) (by kernel_rfl) (fun _ _ _ h => h) (Or.inl ⟨by kernel_rfl, ?y42⟩) hHeld ?r42
          case y42 =>
            intro w hSw
            try dsimp only at hSw
            try simp only [List.getElem_toArray, List.getElem_cons_zero, List.getElem_cons_succ]
            go_simp
            try with_reducible rfl
          try simp only [List.getElem_toArray, List.getElem_cons_zero, List.getElem_cons_succ, Act.put, List.setIfInBounds_toArray, List.set_cons_zero, List.set_cons_succ]
          refine wpAnyH_take (i := 50) (oi := { dst := some 125, op := _, type := _, pos := _, after := _, guard := _ }) (v := ?v43) rfl (by kernel_rfl) (by kernel_rfl) (by kernel_rfl) (fun _ _ _ h => h) (Or.inl ⟨by kernel_rfl, ?y43⟩) hHeld ?r43
          case y43 =>
            intro w hSw
            try dsimp only at hSw
            try simp only [List.getElem_toArray, List.getElem_cons_zero, List.getElem_cons_succ]
            go_simp
            try with_reducible rfl
          try simp only [List.getElem_toArray, List.getElem_cons_zero, List.getElem_cons_succ, Act.put, List.setIfInBounds_toArray, List.set_cons_zero, List.set_cons_succ]
          refine wpAnyH_take (i := 51) (oi := { dst := some 126, op := _, type := _, pos := _, after := _, guard := _ }) (v := ?v44) rfl (by kernel_rfl) (by kernel_rfl) (by kernel_rfl) (fun _ _ _ h => h) (Or.inl ⟨by kernel_rfl, ?y44⟩) hHeld ?r44
          case y44 =>
            intro w hSw
            try dsimp only at hSw
            try simp only [List.getElem_toArray, List.getElem_cons_zero, List.getElem_cons_succ]
            go_simp
            try with_reducible rfl
          try simp only [List.getElem_toArray, List.getElem_cons_zero, List.getElem_cons_succ, Act.put, List.setIfInBounds_toArray, List.set_cons_zero, List.set_cons_succ]
          refine wpAnyH_take (i := 52) (oi := { dst := some 127, op := _, type := _, pos := _, after := _, guard := _ }) (v := ?v45) rfl (by kernel_rfl) (by kernel_rfl) (by kernel_rfl) (fun _ _ _ h => h) (Or.inl ⟨by kernel_rfl, ?y45⟩) hHeld ?r45
          case y45 =>
            intro w hSw
            try dsimp only at hSw
            try simp only [List.getElem_toArray, List.getElem_cons_zero, List.getElem_cons_succ]
            go_simp
            try with_reducible rfl
          try simp only [List.getElem_toArray, List.getElem_cons_zero, List.getElem_cons_succ, Act.put, List.setIfInBounds_toArray, List.set_cons_zero, List.set_cons_succ]
          refine wpAnyH_take (i := 53) (oi := { dst := some 128, op := _, type := _, pos := _, after := _, guard := _ }) (v := ?v46) rfl (by kernel_rfl) (by kernel_rfl) (by kernel_rfl) (fun _ _ _ h => h) (Or.inl ⟨by kernel_rfl, ?y46⟩) hHeld ?r46
          case y46 =>
            intro w hSw
            try dsimp only at hSw
            try simp only [List.getElem_toArray, List.getElem_cons_zero, List.getElem_cons_succ]
            go_simp
            try with_reducible rfl
          try simp only [List.getElem_toArray, List.getElem_cons_zero, List.getElem_cons_succ, Act.put, List.setIfInBounds_toArray, List.set_cons_zero, List.set_cons_succ]
          refine wpAnyH_take (i := 54) (oi := { dst := some 129, op := _, type := _, pos := _, after := _, guard := _ }) (v := undef) rfl (by kernel_rfl) (by kernel_rfl) (by kernel_rfl) (fun _ _ _ h => h) (Or.inr ⟨by kernel_rfl, rfl⟩) hHeld ?_
          try simp only [List.getElem_toArray, List.getElem_cons_zero, List.getElem_cons_succ, Act.put, List.setIfInBounds_toArray, List.set_cons_zero, List.set_cons_succ]
          refine wpAnyH_take (i := 55) (oi := { dst := some 130, op := _, type := _, pos := _, after := _, guard := _ }) (v := undef) rfl (by kernel_rfl) (by kernel_rfl) (by kernel_rfl) (fun _ _ _ h => h) (Or.inr ⟨by kernel_rfl, rfl⟩) hHeld ?_
          try simp only [List.getElem_toArray, List.getElem_cons_zero, List.getElem_cons_succ, Act.put, List.setIfInBounds_toArray, List.set_cons_zero, List.set_cons_succ]
          refine wpAnyH_take (i := 56) (oi := { dst := some 131, op := _, type := _, pos := _, after := _, guard := _ }) (v := undef) rfl (by kernel_rfl) (by kernel_rfl) (by kernel_rfl) (fun _ _ _ h => h) (Or.inr ⟨by kernel_rfl, rfl⟩) hHeld ?_
          try simp only [List.getElem_toArray, List.getElem_cons_zero, List.getElem_cons_succ, Act.put, List.setIfInBounds_toArray, List.set_cons_zero, List.set_cons_succ]
          refine wpAnyH_take (i := 57) (oi := { dst := some 132, op := _, type := _, pos := _, after := _, guard := _ }) (v := undef) rfl (by kernel_rfl) (by kernel_rfl) (by kernel_rfl) (fun _ _ _ h => h) (Or.inr ⟨by kernel_rfl, rfl⟩) hHeld ?_
          try simp only [List.getElem_toArray, List.getElem_cons_zero, List.getElem_cons_succ, Act.put, List.setIfInBounds_toArray, List.set_cons_zero, List.set_cons_succ]
          refine wpAnyH_take (i := 58) (oi := { dst := some 133, op := _, type := _, pos := _, after := _, guard := _ }) (v := undef) rfl (by kernel_rfl) (by kernel_rfl) (by kernel_rfl) (fun _ _ _ h => h) (Or.inr ⟨by kernel_rfl, rfl⟩) hHeld ?_
          try simp only [List.getElem_toArray, List.getElem_cons_zero, List.getElem_cons_succ, Act.put, List.setIfInBounds_toArray, List.set_cons_zero, List.set_cons_succ]
          refine wpAnyH_take (i := 59) (oi := { dst := some 134, op := _, type := _, pos := _, after := _, guard := _ }) (v := undef) rfl (by kernel_rfl) (by kernel_rfl) (by kernel_rfl) (fun _ _ _ h => h) (Or.inr ⟨by kernel_rfl, rfl⟩) hHeld ?_
          try simp only [List.getElem_toArray, List.getElem_cons_zero, List.getElem_cons_succ, Act.put, List.setIfInBounds_toArray, List.set_cons_zero, List.set_cons_succ]
          refine wpAnyH_take (i := 60) (oi := { dst := some 135, op := _, type := _, pos := _, after := _, guard := _ }) (v := ?v53) rfl (by kernel_rfl) (by kernel_rfl) (by kernel_rfl) (fun _ _ _ h => h) (Or.inl ⟨by kernel_rfl, ?y53⟩) hHeld ?r53
          case y53 =>
            intro w hSw
            try dsimp only at hSw
            try simp only [List.getElem_toArray, List.getElem_cons_zero, List.getElem_cons_succ]
            go_simp
            try with_reducible rfl
          try simp only [List.getElem_toArray, List.getElem_cons_zero, List.getElem_cons_succ, Act.put, List.setIfInBounds_toArray, List.set_cons_zero, List.set_cons_succ]
          refine wpAnyH_take (i := 61) (oi := { dst := some 136, op := _, type := _, pos := _, after := _, guard := _ }) (v := ?v54) rfl (by kernel_rfl) (by kernel_rfl) (by kernel_rfl) (fun _ _ _ h => h) (Or.inl ⟨by kernel_rfl, ?y54⟩) hHeld ?r54
          case y54 =>
            intro w hSw
            try dsimp only at hSw
            try simp only [List.getElem_toArray, List.getElem_cons_zero, List.getElem_cons_succ]
            go_simp
            try with_reducible rfl
          try simp only [List.getElem_toArray, List.getElem_cons_zero, List.getElem_cons_succ, Act.put, List.setIfInBounds_toArray, List.set_cons_zero, List.set_cons_succ]
          refine wpAnyH_take (i := 62) (oi := { dst := some 8, op := _, type := _, pos := _, after := _, guard := _ }) (v := ?v55) rfl (by kernel_rfl) (by kernel_rfl) (by kernel_rfl) (fun _ _ _ h => h) (Or.inl ⟨by kernel_rfl, ?y55⟩) hHeld ?r55
          case y55 =>
            intro w hSw
            try dsimp only at hSw
            try simp only [List.getElem_toArray, List.getElem_cons_zero, List.getElem_cons_succ]
            go_simp
            try with_reducible rfl
          try simp only [List.getElem_toArray, List.getElem_cons_zero, List.getElem_cons_succ, Act.put, List.setIfInBounds_toArray, List.set_cons_zero, List.set_cons_succ]
          refine wpAnyH_done (by kernel_rfl) ?_ _
          go_wp2
          exact bodyPost_ret (v := .bool true) (by simp [results, Tryd.results6, go_sem]) rfl ⟨rfl, hHeld.1.out⟩
      · have q1 : decide (place ≥ 0) = false := by simpa using h0
        rw [hso.out (.inl (by omega))] at ksel
        clear hsi hso
        go_wp2_with fail
        refine (ksel.out).mono ?_
        rintro e W7 ⟨rfl, hb7⟩
        have hB7 := Lib.hid (hB6.out.trans (hb7.mono hB6.out.size))
        have hS7 := Lib.hid (hS6.out.later hb7)
        have hv7 := hv6.later hb7
        have hMM := And.intro (Lib.hid (Below.drew hB7.out)) (And.intro (Lib.hid (hS7.out.later (Below.drew (Below.refl _ _)))) (And.intro (hv7.later (Below.drew (Below.refl _ _))) (kcells.out _ hS7.out)))
        have hCl : Hid (∀ W W' : World, (W.cell? ⟨W3.heap.size, 0, none⟩ = some (.slice p3 r.length c3) ∧ W.cell? ⟨W4.heap.size, 0, none⟩ = some (.slice p4 r.length c4) ∧ W.cell? ⟨w.heap.size, 0, none⟩ = some (.slice p1 A1.length c1)) → Below W.heap.size W W' → (W'.cell? ⟨W3.heap.size, 0, none⟩ = some (.slice p3 r.length c3) ∧ W'.cell? ⟨W4.heap.size, 0, none⟩ = some (.slice p4 r.length c4) ∧ W'.cell? ⟨w.heap.size, 0, none⟩ = some (.slice p1 A1.length c1))) := Lib.hid fun W W' h hb => ⟨cell_later7 h.1 hb, cell_later7 h.2.1 hb, cell_later7 h.2.2 hb⟩
        obtain ⟨m1, m2, m3⟩ := kcells.out _ hS7.out
        clear ksel hb7 y1 hB6 hS6 hv6 kcells hI6
        go_wp2
        clear m1 m2 m3
        refine wp_region_held_drew (S := (fun W' => Hid (Below w.heap.size w W') ∧ Hid (RBs W' LL) ∧ HI W' (.slice p5 V.length c5) (V.map Int.ofNat) ∧ W'.cell? ⟨W3.heap.size, 0, none⟩ = some (.slice p3 r.length c3) ∧ W'.cell? ⟨W4.heap.size, 0, none⟩ = some (.slice p4 r.length c4) ∧ W'.cell? ⟨w.heap.size, 0, none⟩ = some (.slice p1 A1.length c1))) (by kernel_rfl) hMM (fun hHeld => ?_)
        clear hMM
        refine wpAnyH_take (i := 0) (oi := { dst := some 75, op := _, type := _, pos := _, after := _, guard := _ }) (v := ?v56) rfl (by kernel_rfl) (by kernel_rfl) (by kernel_rfl) (fun _ _ _ h => h) (Or.inl ⟨by kernel_rfl, ?y56⟩) hHeld ?r56
        case y56 =>
          intro w hSw
          try dsimp only at hSw
          try simp only [List.getElem_toArray, List.getElem_cons_zero, List.getElem_cons_succ]
          go_simp
          try with_reducible rfl
        try simp only [List.getElem_toArray, List.getElem_cons_zero, List.getElem_cons_succ, Act.put, List.setIfInBounds_toArray, List.set_cons_zero, List.set_cons_succ]
        refine wpAnyH_take (i := 1) (oi := { dst := some 76, op := _, type := _, pos := _, after := _, guard := _ }) (v := ?v57) rfl (by kernel_rfl) (by kernel_rfl) (by kernel_rfl) (fun _ _ _ h => h) (Or.inl ⟨by kernel_rfl, ?y57⟩) hHeld ?r57
        case y57 =>
          intro w hSw
          try dsimp only at hSw
          try simp only [List.getElem_toArray, List.getElem_cons_zero, List.getElem_cons_succ]
          go_simp
          try with_reducible rfl
        try simp only [List.getElem_toArray, List.getElem_cons_zero, List.getElem_cons_succ, Act.put, List.setIfInBounds_toArray, List.set_cons_zero, List.set_cons_succ]
        refine wpAnyH_take (i := 2) (oi := { dst := some 77, op := _, type := _, pos := _, after := _, guard := _ }) (v := ?v58) rfl (by kernel_rfl) (by kernel_rfl) (by kernel_rfl) (fun _ _ _ h => h) (Or.inl ⟨by kernel_rfl, ?y58⟩) hHeld ?r58
        case y58 =>
          intro w hSw
          try dsimp only at hSw
          try simp only [List.getElem_toArray, List.getElem_cons_zero, List.getElem_cons_succ]
          go_simp
          try with_reducible rfl
        try simp only [List.getElem_toArray, List.getElem_cons_zero, List.getElem_cons_succ, Act.put, List.setIfInBounds_toArray, List.set_cons_zero, List.set_cons_succ]
        refine wpAnyH_take (i := 3) (oi := { dst := some 78, op := _, type := _, pos := _, after := _, guard := _ }) (v := ?v59) rfl (by kernel_rfl) (by kernel_rfl) (by kernel_rfl) (fun _ _ _ h => h) (Or.inl ⟨by kernel_rfl, ?y59⟩) hHeld ?r59
        case y59 =>
          intro w hSw
          try dsimp only at hSw
          try simp only [List.getElem_toArray, List.getElem_cons_zero, List.getElem_cons_succ]
          go_simp
          try with_reducible rfl
        try simp only [List.getElem_toArray, List.getElem_cons_zero, List.getElem_cons_succ, Act.put, List.setIfInBounds_toArray, List.set_cons_zero, List.set_cons_succ]
        refine wpAnyH_ready (rs := [4]) (by kernel_rfl) (by simp) ?_
        refine AllReadyH.cons rfl (fun K hK => ?_) AllReadyH.nil
        try simp only [List.getElem_toArray, List.getElem_cons_zero, List.getElem_cons_succ]
        go_simp
        refine (kS.out _ hHeld.2.1.out).mono ?_
        rintro e Wn ⟨rfl, hbn⟩
        have hnew := mk_keep hCl hbn hHeld.1 hHeld.2.1 hHeld.2.2.1 hHeld.2.2.2
        refine hK.out _ _ hnew (fun hHeld' => ?_)
        clear hHeld hnew hbn hK K
        have hHeld := hHeld'
        clear hHeld'
        try simp only [List.getElem_toArray, List.getElem_cons_zero, List.getElem_cons_succ, Act.put, List.setIfInBounds_toArray, List.set_cons_zero, List.set_cons_succ]
        refine wpAnyH_take (i := 5) (oi := { dst := some 80, op := _, type := _, pos := _, after := _, guard := _ }) (v := ?v60) rfl (by kernel_rfl) (by kernel_rfl) (by kernel_rfl) (fun _ _ _ h => h) (Or.inl ⟨by kernel_rfl, ?y60⟩) hHeld ?r60
        case y60 =>
          intro w hSw
          try dsimp only at hSw
          try simp only [List.getElem_toArray, List.getElem_cons_zero, List.getElem_cons_succ]
          go_simp
          try with_reducible rfl
        try simp only [List.getElem_toArray, List.getElem_cons_zero, List.getElem_cons_succ, Act.put, List.setIfInBounds_toArray, List.set_cons_zero, List.set_cons_succ]
        refine wpAnyH_take (i := 6) (oi := { dst := some 81, op := _, type := _, pos := _, after := _, guard := _ }) (v := ?v61) rfl (by kernel_rfl) (by kernel_rfl) (by kernel_rfl) (fun _ _ _ h => h) (Or.inl ⟨by kernel_rfl, ?y61⟩) hHeld ?r61
        case y61 =>
          intro w hSw
          try dsimp only at hSw
          try simp only [List.getElem_toArray, List.getElem_cons_zero, List.getElem_cons_succ]
          go_simp
          try with_reducible rfl
        try simp only [List.getElem_toArray, List.getElem_cons_zero, List.getElem_cons_succ, Act.put, List.setIfInBounds_toArray, List.set_cons_zero, List.set_cons_succ]
        refine wpAnyH_take (i := 7) (oi := { dst := some 82, op := _, type := _, pos := _, after := _, guard := _ }) (v := ?v62) rfl (by kernel_rfl) (by kernel_rfl) (by kernel_rfl) (fun _ _ _ h => h) (Or.inl ⟨by kernel_rfl, ?y62⟩) hHeld ?r62
        case y62 =>
          intro w hSw
          try dsimp only at hSw
          try simp only [List.getElem_toArray, List.getElem_cons_zero, List.getElem_cons_succ]
          go_simp
          try with_reducible rfl
        try simp only [List.getElem_toArray, List.getElem_cons_zero, List.getElem_cons_succ, Act.put, List.setIfInBounds_toArray, List.set_cons_zero, List.set_cons_succ]
        refine wpAnyH_take (i := 8) (oi := { dst := some 83, op := _, type := _, pos := _, after := _, guard := _ }) (v := ?v63) rfl (by kernel_rfl) (by kernel_rfl) (by kernel_rfl) (fun _ _ _ h => h) (Or.inl ⟨by kernel_rfl, ?y63⟩) hHeld ?r63
        case y63 =>
          intro w hSw
          try dsimp only at hSw
          try simp only [List.getElem_toArray, List.getElem_cons_zero, List.getElem_cons_succ]
          go_simp
          try with_reducible rfl
        try simp only [List.getElem_toArray, List.getElem_cons_zero, List.getElem_cons_succ, Act.put, List.setIfInBounds_toArray, List.set_cons_zero, List.set_cons_succ]
        refine wpAnyH_take (i := 9) (oi := { dst := some 84, op := _, type := _, pos := _, after := _, guard := _ }) (v := ?v64) rfl (by kernel_rfl) (by kernel_rfl) (by kernel_rfl) (fun _ _ _ h => h) (Or.inl ⟨by kernel_rfl, ?y64⟩) hHeld ?r64
        case y64 =>
          intro w hSw
          try dsimp only at hSw
          try simp only [List.getElem_toArray, List.getElem_cons_zero, List.getElem_cons_succ]
          go_simp
          try with_reducible rfl
        try simp only [List.getElem_toArray, List.getElem_cons_zero, List.getElem_cons_succ, Act.put, List.setIfInBounds_toArray, List.set_cons_zero, List.set_cons_succ]
        refine wpAnyH_take (i := 10) (oi := { dst := some 85, op := _, type := _, pos := _, after := _, guard := _ }) (v := ?v65) rfl (by kernel_rfl) (by kernel_rfl) (by kernel_rfl) (fun _ _ _ h => h) (Or.inl ⟨by kernel_rfl, ?y65⟩) hHeld ?r65
        case y65 =>
          intro w hSw
          try dsimp only at hSw
          try simp only [List.getElem_toArray, List.getElem_cons_zero, List.getElem_cons_succ]
          go_simp
          try with_reducible rfl
        try simp only [List.getElem_toArray, List.getElem_cons_zero, List.getElem_cons_succ, Act.put, List.setIfInBounds_toArray, List.set_cons_zero, List.set_cons_succ]
        refine wpAnyH_take (i := 11) (oi := { dst := some 86, op := _, type := _, pos := _, after := _, guard := _ }) (v := ?v66) rfl (by kernel_rfl) (by kernel_rfl) (by kernel_rfl) (fun _ _ _ h => h) (Or.inl ⟨by kernel_rfl, ?y66⟩) hHeld ?r66
        case y66 =>
          intro w hSw
          try dsimp only at hSw
          try simp only [List.getElem_toArray, List.getElem_cons_zero, List.getElem_cons_succ]
          go_simp
          try with_reducible rfl
        try simp only [List.getElem_toArray, List.getElem_cons_zero, List.getElem_cons_succ, Act.put, List.setIfInBounds_toArray, List.set_cons_zero, List.set_cons_succ]
        refine wpAnyH_take (i := 12) (oi := { dst := some 87, op := _, type := _, pos := _, after := _, guard := _ }) (v := ?v67) rfl (by kernel_rfl) (by kernel_rfl) (by kernel_rfl) (fun _ _ _ h => h) (Or.inl ⟨by kernel_rfl, ?y67⟩) hHeld ?r67
        case y67 =>
          intro w hSw
          try dsimp only at hSw
          try simp only [List.getElem_toArray, List.getElem_cons_zero, List.getElem_cons_succ]
          go_simp
          try with_reducible rfl
        try simp only [List.getElem_toArray, List.getElem_cons_zero, List.getElem_cons_succ, Act.put, List.setIfInBounds_toArray, List.set_cons_zero, List.set_cons_succ]
        refine wpAnyH_take (i := 14) (oi := { dst := some 89, op := _, type := _, pos := _, after := _, guard := _ }) (v := ?v68) rfl (by kernel_rfl) (by kernel_rfl) (by kernel_rfl) (fun _ _ _ h => h) (Or.inl ⟨by kernel_rfl, ?y68⟩) hHeld ?r68
        case y68 =>
          intro w hSw
          try dsimp only at hSw
          try simp only [List.getElem_toArray, List.getElem_cons_zero, List.getElem_cons_succ]
          go_simp
          try with_reducible rfl
        try simp only [List.getElem_toArray, List.getElem_cons_zero, List.getElem_cons_succ, Act.put, List.setIfInBounds_toArray, List.set_cons_zero, List.set_cons_succ]
        refine wpAnyH_ready (rs := [13]) (by kernel_rfl) (by simp) ?_
        refine AllReadyH.cons rfl (fun K hK => ?_) AllReadyH.nil
        try simp only [List.getElem_toArray, List.getElem_cons_zero, List.getElem_cons_succ]
        go_simp
        refine (kR.out _ hHeld.2.1.out hHeld.1.out).mono ?_
        rintro e Wn ⟨rfl, hbn⟩
        have hnew := mk_keep hCl hbn hHeld.1 hHeld.2.1 hHeld.2.2.1 hHeld.2.2.2
        refine hK.out _ _ hnew (fun hHeld' => ?_)
        clear hHeld hnew hbn hK K
        have hHeld := hHeld'
        clear hHeld'
        try simp only [List.getElem_toArray, List.getElem_cons_zero, List.getElem_cons_succ, Act.put, List.setIfInBounds_toArray, List.set_cons_zero, List.set_cons_succ]
        refine wpAnyH_ready (rs := [15]) (by kernel_rfl) (by simp) ?_
        refine AllReadyH.cons rfl (fun K hK => ?_) AllReadyH.nil
        try simp only [List.getElem_toArray, List.getElem_cons_zero, List.getElem_cons_succ]
        go_simp
        refine (kRR.out _ hHeld.2.1.out).mono ?_
        rintro e Wn ⟨rfl, hbn⟩
        have hnew := mk_keep hCl hbn hHeld.1 hHeld.2.1 hHeld.2.2.1 hHeld.2.2.2
        refine hK.out _ _ hnew (fun hHeld' => ?_)
        clear hHeld hnew hbn hK K
        have hHeld := hHeld'
        clear hHeld'
        try simp only [List.getElem_toArray, List.getElem_cons_zero, List.getElem_cons_succ, Act.put, List.setIfInBounds_toArray, List.set_cons_zero, List.set_cons_succ]
        refine wpAnyH_take (i := 16) (oi := { dst := some 91, op := _, type := _, pos := _, after := _, guard := _ }) (v := ?v69) rfl (by kernel_rfl) (by kernel_rfl) (by kernel_rfl) (fun _ _ _ h => h) (Or.inl ⟨by kernel_rfl, ?y69⟩) hHeld ?r69
        case y69 =>
          intro w hSw
          try dsimp only at hSw
          try simp only [List.getElem_toArray, List.getElem_cons_zero, List.getElem_cons_succ]
          go_simp
          try with_reducible rfl
        try simp only [List.getElem_toArray, List.getElem_cons_zero, List.getElem_cons_succ, Act.put, List.setIfInBounds_toArray, List.set_cons_zero, List.set_cons_succ]
        refine wpAnyH_take (i := 17) (oi := { dst := some 92, op := _, type := _, pos := _, after := _, guard := _ }) (v := ?v70) rfl (by kernel_rfl) (by kernel_rfl) (by kernel_rfl) (fun _ _ _ h => h) (Or.inl ⟨by kernel_rfl, ?y70⟩) hHeld ?r70
        case y70 =>
          intro w hSw
          try dsimp only at hSw
          try simp only [List.getElem_toArray, List.getElem_cons_zero, List.getElem_cons_succ]
          go_simp
          try with_reducible rfl
        try simp only [List.getElem_toArray, List.getElem_cons_zero, List.getElem_cons_succ, Act.put, List.setIfInBounds_toArray, List.set_cons_zero, List.set_cons_succ]
        refine wpAnyH_take (i := 18) (oi := { dst := some 93, op := _, type := _, pos := _, after := _, guard := _ }) (v := ?v71) rfl (by kernel_rfl) (by kernel_rfl) (by kernel_rfl) (fun _ _ _ h => h) (Or.inl ⟨by kernel_rfl, ?y71⟩) hHeld ?r71
        case y71 =>
          intro w hSw
          try dsimp only at hSw
          try simp only [List.getElem_toArray, List.getElem_cons_zero, List.getElem_cons_succ]
          go_simp
          try with_reducible rfl
        try simp only [List.getElem_toArray, List.getElem_cons_zero, List.getElem_cons_succ, Act.put, List.setIfInBounds_toArray, List.set_cons_zero, List.set_cons_succ]
        refine wpAnyH_take (i := 19) (oi := { dst := some 94, op := _, type := _, pos := _, after := _, guard := _ }) (v := ?v72) rfl (by kernel_rfl) (by kernel_rfl) (by kernel_rfl) (fun _ _ _ h => h) (Or.inl ⟨by kernel_rfl, ?y72⟩) hHeld ?r72
        case y72 =>
          intro w hSw
          try dsimp only at hSw
          try simp only [List.getElem_toArray, List.getElem_cons_zero, List.getElem_cons_succ]
          go_simp
          try with_reducible rfl
        try simp only [List.getElem_toArray, List.getElem_cons_zero, List.getElem_cons_succ, Act.put, List.setIfInBounds_toArray, List.set_cons_zero, List.set_cons_succ]
        refine wpAnyH_take (i := 21) (oi := { dst := some 96, op := _, type := _, pos := _, after := _, guard := _ }) (v := ?v73) rfl (by kernel_rfl) (by kernel_rfl) (by kernel_rfl) (fun _ _ _ h => h) (Or.inl ⟨by kernel_rfl, ?y73⟩) hHeld ?r73
        case y73 =>
          intro w hSw
          try dsimp only at hSw
          try simp only [List.getElem_toArray, List.getElem_cons_zero, List.getElem_cons_succ]
          go_simp
          try with_reducible rfl
        try simp only [List.getElem_toArray, List.getElem_cons_zero, List.getElem_cons_succ, Act.put, List.setIfInBounds_toArray, List.set_cons_zero, List.set_cons_succ]
        refine wpAnyH_ready (rs := [20]) (by kernel_rfl) (by simp) ?_
        refine AllReadyH.cons rfl (fun K hK => ?_) AllReadyH.nil
        try simp only [List.getElem_toArray, List.getElem_cons_zero, List.getElem_cons_succ]
        go_simp
        refine (kV.out _ hHeld.2.1.out hHeld.1.out).mono ?_
        rintro e Wn ⟨vn, rfl, hvn, -, hbn⟩
        have hnew := mk_keep hCl hbn hHeld.1 hHeld.2.1 hHeld.2.2.1 hHeld.2.2.2
        refine hK.out _ _ hnew (fun hHeld' => ?_)
        clear hHeld hnew hbn hK K
        have hHeld := hHeld'
        clear hHeld'
        try simp only [List.getElem_toArray, List.getElem_cons_zero, List.getElem_cons_succ, Act.put, List.setIfInBounds_toArray, List.set_cons_zero, List.set_cons_succ]
        refine wpAnyH_ready (rs := [22]) (by kernel_rfl) (by simp) ?_
        refine AllReadyH.cons rfl (fun K hK => ?_) AllReadyH.nil
        try simp only [List.getElem_toArray, List.getElem_cons_zero, List.getElem_cons_succ]
        go_simp
        refine (kI.out _ _ hvn hHeld.2.2.1).mono ?_
        rintro e Wn ⟨rfl, hbn⟩
        clear hvn
        have hnew := mk_keep hCl hbn hHeld.1 hHeld.2.1 hHeld.2.2.1 hHeld.2.2.2
        refine hK.out _ _ hnew (fun hHeld' => ?_)
        clear hHeld hnew hbn hK K
        have hHeld := hHeld'
        clear hHeld'
        try simp only [List.getElem_toArray, List.getElem_cons_zero, List.getElem_cons_succ, Act.put, List.setIfInBounds_toArray, List.set_cons_zero, List.set_cons_succ]
        refine wpAnyH_take (i := 23) (oi := { dst := some 98, op := _, type := _, pos := _, after := _, guard := _ }) (v := ?v74) rfl (by kernel_rfl) (by kernel_rfl) (by kernel_rfl) (fun _ _ _ h => h) (Or.inl ⟨by kernel_rfl, ?y74⟩) hHeld ?r74
        case y74 =>
          intro w hSw
          try dsimp only at hSw
          try simp only [List.getElem_toArray, List.getElem_cons_zero, List.getElem_cons_succ]
          go_simp
          try with_reducible rfl
        try simp only [List.getElem_toArray, List.getElem_cons_zero, List.getElem_cons_succ, Act.put, List.setIfInBounds_toArray, List.set_cons_zero, List.set_cons_succ]
        refine wpAnyH_take (i := 24) (oi := { dst := some 99, op := _, type := _, pos := _, after := _, guard := _ }) (v := ?v75) rfl (by kernel_rfl) (by kernel_rfl) (by kernel_rfl) (fun _ _ _ h => h) (Or.inl ⟨by kernel_rfl, ?y75⟩) hHeld ?r75
        case y75 =>
          intro w hSw
          try dsimp only at hSw
          try simp only [List.getElem_toArray, List.getElem_cons_zero, List.getElem_cons_succ]
          go_simp
          try with_reducible rfl
        try simp only [List.getElem_toArray, List.getElem_cons_zero, List.getElem_cons_succ, Act.put, List.setIfInBounds_toArray, List.set_cons_zero, List.set_cons_succ]
        refine wpAnyH_take (i := 25) (oi := { dst := some 100, op := _, type := _, pos := _, after := _, guard := _ }) (v := ?v76) rfl (by kernel_rfl) (by kernel_rfl) (by kernel_rfl) (fun _ _ _ h => h) (Or.inl ⟨by kernel_rfl, ?y76⟩) hHeld ?r76
        case y76 =>
          intro w hSw
          try dsimp only at hSw
          try simp only [List.getElem_toArray, List.getElem_cons_zero, List.getElem_cons_succ]
          go_simp
          try with_reducible rfl
        try simp only [List.getElem_toArray, List.getElem_cons_zero, List.getElem_cons_succ, Act.put, List.setIfInBounds_toArray, List.set_cons_zero, List.set_cons_succ]
        refine wpAnyH_take (i := 27) (oi := { dst := some 102, op := _, type := _, pos := _, after := _, guard := _ }) (v := ?v77) rfl (by kernel_rfl) (by kernel_rfl) (by kernel_rfl) (fun _ _ _ h => h) (Or.inl ⟨by kernel_rfl, ?y77⟩) hHeld ?r77
        case y77 =>
          intro w hSw
          try dsimp only at hSw
          try simp only [List.getElem_toArray, List.getElem_cons_zero, List.getElem_cons_succ]
          go_simp
          try with_reducible rfl
        try simp only [List.getElem_toArray, List.getElem_cons_zero, List.getElem_cons_succ, Act.put, List.setIfInBounds_toArray, List.set_cons_zero, List.set_cons_succ]
        refine wpAnyH_take (i := 28) (oi := { dst := some 103, op := _, type := _, pos := _, after := _, guard := _ }) (v := ?v78) rfl (by kernel_rfl) (by kernel_rfl) (by kernel_rfl) (fun _ _ _ h => h) (Or.inl ⟨by kernel_rfl, ?y78⟩) hHeld ?r78
        case y78 =>
          intro w hSw
          try dsimp only at hSw
          try simp only [List.getElem_toArray, List.getElem_cons_zero, List.getElem_cons_succ]
          go_simp
          try with_reducible rfl
        try simp only [List.getElem_toArray, List.getElem_cons_zero, List.getElem_cons_succ, Act.put, List.setIfInBounds_toArray, List.set_cons_zero, List.set_cons_succ]
        refine wpAnyH_ready (rs := [26]) (by kernel_rfl) (by simp) ?_
        refine AllReadyH.cons rfl (fun K hK => ?_) AllReadyH.nil
        try simp only [List.getElem_toArray, List.getElem_cons_zero, List.getElem_cons_succ]
        go_simp
        refine (kC.out _ hHeld.2.1.out hHeld.1.out).mono ?_
        rintro e Wn ⟨rfl, hbn⟩
        have hnew := mk_keep hCl hbn hHeld.1 hHeld.2.1 hHeld.2.2.1 hHeld.2.2.2
        refine hK.out _ _ hnew (fun hHeld' => ?_)
        clear hHeld hnew hbn hK K
        have hHeld := hHeld'
        clear hHeld'
        try simp only [List.getElem_toArray, List.getElem_cons_zero, List.getElem_cons_succ, Act.put, List.setIfInBounds_toArray, List.set_cons_zero, List.set_cons_succ]
        refine wpAnyH_take (i := 29) (oi := { dst := some 104, op := _, type := _, pos := _, after := _, guard := _ }) (v := ?v79) rfl (by kernel_rfl) (by kernel_rfl) (by kernel_rfl) (fun _ _ _ h => h) (Or.inl ⟨by kernel_rfl, ?y79⟩) hHeld ?r79
        case y79 =>
          intro w hSw
          try dsimp only at hSw
          try simp only [List.getElem_toArray, List.getElem_cons_zero, List.getElem_cons_succ]
          go_simp
          try with_reducible rfl
        try simp only [List.getElem_toArray, List.getElem_cons_zero, List.getElem_cons_succ, Act.put, List.setIfInBounds_toArray, List.set_cons_zero, List.set_cons_succ]
        refine wpAnyH_take (i := 30) (oi := { dst := some 105, op := _, type := _, pos := _, after := _, guard := _ }) (v := ?v80) rfl (by kernel_rfl) (by kernel_rfl) (by kernel_rfl) (fun _ _ _ h => h) (Or.inl ⟨by kernel_rfl, ?y80⟩) hHeld ?r80
        case y80 =>
          intro w hSw
          try dsimp only at hSw
          try simp only [List.getElem_toArray, List.getElem_cons_zero, List.getElem_cons_succ]
          go_simp
          try with_reducible rfl
        try simp only [List.getElem_toArray, List.getElem_cons_zero, List.getElem_cons_succ, Act.put, List.setIfInBounds_toArray, List.set_cons_zero, List.set_cons_succ]
        refine wpAnyH_take (i := 31) (oi := { dst := some 106, op := _, type := _, pos := _, after := _, guard := _ }) (v := ?v81) rfl (by kernel_rfl) (by kernel_rfl) (by kernel_rfl) (fun _ _ _ h => h) (Or.inl ⟨by kernel_rfl, ?y81⟩) hHeld ?r81
        case y81 =>
          intro w hSw
          try dsimp only at hSw
          try simp only [List.getElem_toArray, List.getElem_cons_zero, List.getElem_cons_succ]
          go_simp
          try with_reducible rfl
        try simp only [List.getElem_toArray, List.getElem_cons_zero, List.getElem_cons_succ, Act.put, List.setIfInBounds_toArray, List.set_cons_zero, List.set_cons_succ]
        refine wpAnyH_take (i := 32) (oi := { dst := some 107, op := _, type := _, pos := _, after := _, guard := _ }) (v := ?v82) rfl (by kernel_rfl) (by kernel_rfl) (by kernel_rfl) (fun _ _ _ h => h) (Or.inl ⟨by kernel_rfl, ?y82⟩) hHeld ?r82
        case y82 =>
          intro w hSw
          try dsimp only at hSw
          try simp only [List.getElem_toArray, List.getElem_cons_zero, List.getElem_cons_succ]
          go_simp
          try with_reducible rfl
        try simp only [List.getElem_toArray, List.getElem_cons_zero, List.getElem_cons_succ, Act.put, List.setIfInBounds_toArray, List.set_cons_zero, List.set_cons_succ]
        refine wpAnyH_take (i := 33) (oi := { dst := some 108, op := _, type := _, pos := _, after := _, guard := _ }) (v := ?v83) rfl (by kernel_rfl) (by kernel_rfl) (by kernel_rfl) (fun _ _ _ h => h) (Or.inl ⟨by kernel_rfl, ?y83⟩) hHeld ?r83
        case y83 =>
          intro w hSw
          try dsimp only at hSw
          try simp only [List.getElem_toArray, List.getElem_cons_zero, List.getElem_cons_succ]
          go_simp
          try with_reducible rfl
        try simp only [List.getElem_toArray, List.getElem_cons_zero, List.getElem_cons_succ, Act.put, List.setIfInBounds_toArray, List.set_cons_zero, List.set_cons_succ]
        refine wpAnyH_take (i := 35) (oi := { dst := some 110, op := _, type := _, pos := _, after := _, guard := _ }) (v := ?v84) rfl (by kernel_rfl) (by kernel_rfl) (by kernel_rfl) (fun _ _ _ h => h) (Or.inl ⟨by kernel_rfl, ?y84⟩) hHeld ?r84
        case y84 =>
          intro w hSw
          try dsimp only at hSw
          try simp only [List.getElem_toArray, List.getElem_cons_zero, List.getElem_cons_succ]
          go_simp
          try with_reducible rfl
        try simp only [List.getElem_toArray, List.getElem_cons_zero, List.getElem_cons_succ, Act.put, List.setIfInBounds_toArray, List.set_cons_zero, List.set_cons_succ]
        refine wpAnyH_ready (rs := [34]) (by kernel_rfl) (by simp) ?_
        refine AllReadyH.cons rfl (fun K hK => ?_) AllReadyH.nil
        try simp only [List.getElem_toArray, List.getElem_cons_zero, List.getElem_cons_succ]
        go_simp
        refine (kH.out _ hHeld.2.1.out hHeld.1.out).mono ?_
        rintro e Wn ⟨rfl, hbn⟩
        have hnew := mk_keep hCl hbn hHeld.1 hHeld.2.1 hHeld.2.2.1 hHeld.2.2.2
        refine hK.out _ _ hnew (fun hHeld' => ?_)
        clear hHeld hnew hbn hK K
        have hHeld := hHeld'
        clear hHeld'
        try simp only [List.getElem_toArray, List.getElem_cons_zero, List.getElem_cons_succ, Act.put, List.setIfInBounds_toArray, List.set_cons_zero, List.set_cons_succ]
        refine wpAnyH_take (i := 36) (oi := { dst := some 111, op := _, type := _, pos := _, after := _, guard := _ }) (v := ?v85) rfl (by kernel_rfl) (by kernel_rfl) (by kernel_rfl) (fun _ _ _ h => h) (Or.inl ⟨by kernel_rfl, ?y85⟩) hHeld ?r85
        case y85 =>
          intro w hSw
          try dsimp only at hSw
          try simp only [List.getElem_toArray, List.getElem_cons_zero, List.getElem_cons_succ]
          go_simp
          try with_reducible rfl
        try simp only [List.getElem_toArray, List.getElem_cons_zero, List.getElem_cons_succ, Act.put, List.setIfInBounds_toArray, List.set_cons_zero, List.set_cons_succ]
        refine wpAnyH_take (i := 37) (oi := { dst := some 112, op := _, type := _, pos := _, after := _, guard := _ }) (v := ?v86) rfl (by kernel_rfl) (by kernel_rfl) (by kernel_rfl) (fun _ _ _ h => h) (Or.inl ⟨by kernel_rfl, ?y86⟩) hHeld ?r86
        case y86 =>
          intro w hSw
          try dsimp only at hSw
          try simp only [List.getElem_toArray, List.getElem_cons_zero, List.getElem_cons_succ]
          go_simp
          try with_reducible rfl
        try simp only [List.getElem_toArray, List.getElem_cons_zero, List.getElem_cons_succ, Act.put, List.setIfInBounds_toArray, List.set_cons_zero, List.set_cons_succ]
        refine wpAnyH_take (i := 38) (oi := { dst := some 113, op := _, type := _, pos := _, after := _, guard := _ }) (v := ?v87) rfl (by kernel_rfl) (by kernel_rfl) (by kernel_rfl) (fun _ _ _ h => h) (Or.inl ⟨by kernel_rfl, ?y87⟩) hHeld ?r87
        case y87 =>
          intro w hSw
          try dsimp only at hSw
          try simp only [List.getElem_toArray, List.getElem_cons_zero, List.getElem_cons_succ]
          go_simp
          try with_reducible rfl
        try simp only [List.getElem_toArray, List.getElem_cons_zero, List.getElem_cons_succ, Act.put, List.setIfInBounds_toArray, List.set_cons_zero, List.set_cons_succ]
        refine wpAnyH_take (i := 39) (oi := { dst := some 114, op := _, type := _, pos := _, after := _, guard := _ }) (v := ?v88) rfl (by kernel_rfl) (by kernel_rfl) (by kernel_rfl) (fun _ _ _ h => h) (Or.inl ⟨by kernel_rfl, ?y88⟩) hHeld ?r88
        case y88 =>
          intro w hSw
          try dsimp only at hSw
          try simp only [List.getElem_toArray, List.getElem_cons_zero, List.getElem_cons_succ]
          go_simp
          try with_reducible rfl
        try simp only [List.getElem_toArray, List.getElem_cons_zero, List.getElem_cons_succ, Act.put, List.setIfInBounds_toArray, List.set_cons_zero, List.set_cons_succ]
        refine wpAnyH_take (i := 40) (oi := { dst := some 115, op := _, type := _, pos := _, after := _, guard := _ }) (v := ?v89) rfl (by kernel_rfl) (by kernel_rfl) (by kernel_rfl) (fun _ _ _ h => h) (Or.inl ⟨by kernel_rfl, ?y89⟩) hHeld ?r89
        case y89 =>
          intro w hSw
          try dsimp only at hSw
          try simp only [List.getElem_toArray, List.getElem_cons_zero, List.getElem_cons_succ]
          go_simp
          try with_reducible rfl
        try simp only [List.getElem_toArray, List.getElem_cons_zero, List.getElem_cons_succ, Act.put, List.setIfInBounds_toArray, List.set_cons_zero, List.set_cons_succ]
        refine wpAnyH_take (i := 42) (oi := { dst := some 117, op := _, type := _, pos := _, after := _, guard := _ }) (v := ?v90) rfl (by kernel_rfl) (by kernel_rfl) (by kernel_rfl) (fun _ _ _ h => h) (Or.inl ⟨by kernel_rfl, ?y90⟩) hHeld ?r90
        case y90 =>
          intro w hSw
          try dsimp only at hSw
          try simp only [List.getElem_toArray, List.getElem_cons_zero, List.getElem_cons_succ]
          go_simp
          try with_reducible rfl
        try simp only [List.getElem_toArray, List.getElem_cons_zero, List.getElem_cons_succ, Act.put, List.setIfInBounds_toArray, List.set_cons_zero, List.set_cons_succ]
        refine wpAnyH_ready (rs := [41]) (by kernel_rfl) (by simp) ?_
        refine AllReadyH.cons rfl (fun K hK => ?_) AllReadyH.nil
        try simp only [List.getElem_toArray, List.getElem_cons_zero, List.getElem_cons_succ]
        go_simp
        refine (kK.out _ hHeld.2.1.out hHeld.1.out).mono ?_
        rintro e Wn ⟨rfl, hbn⟩
        have hnew := mk_keep hCl hbn hHeld.1 hHeld.2.1 hHeld.2.2.1 hHeld.2.2.2
        refine hK.out _ _ hnew (fun hHeld' => ?_)
        clear hHeld hnew hbn hK K
        have hHeld := hHeld'
        clear hHeld'
        try simp only [List.getElem_toArray, List.getElem_cons_zero, List.getElem_cons_succ, Act.put, List.setIfInBounds_toArray, List.set_cons_zero, List.set_cons_succ]
        refine wpAnyH_take (i := 43) (oi := { dst := some 118, op := _, type := _, pos := _, after := _, guard := _ }) (v := ?v91) rfl (by kernel_rfl) (by kernel_rfl) (by kernel_rfl) (fun _ _ _ h => h) (Or.inl ⟨by kernel_rfl, ?y91⟩) hHeld ?r91
        case y91 =>
          intro w hSw
          try dsimp only at hSw
          try simp only [List.getElem_toArray, List.getElem_cons_zero, List.getElem_cons_succ]
          go_simp
          try with_reducible rfl
        try simp only [List.getElem_toArray, List.getElem_cons_zero, List.getElem_cons_succ, Act.put, List.setIfInBounds_toArray, List.set_cons_zero, List.set_cons_succ]
        refine wpAnyH_take (i := 44) (oi := { dst := some 119, op := _, type := _, pos := _, after := _, guard := _ }) (v := ?v92) rfl (by kernel_rfl) (by kernel_rfl) (by kernel_rfl) (fun _ _ _ h => h) (Or.inl ⟨by kernel_rfl, ?y92⟩) hHeld ?r92
        case y92 =>
          intro w hSw
          try dsimp only at hSw
          try simp only [List.getElem_toArray, List.getElem_cons_zero, List.getElem_cons_succ]
          go_simp
          try with_reducible rfl
        try simp only [List.getElem_toArray, List.getElem_cons_zero, List.getElem_cons_succ, Act.put, List.setIfInBounds_toArray, List.set_cons_zero, List.set_cons_succ]
        refine wpAnyH_take (i := 45) (oi := { dst := some 120, op := _, type := _, pos := _, after := _, guard := _ }) (v := ?v93) rfl (by kernel_rfl) (by kernel_rfl) (by kernel_rfl) (fun _ _ _ h => h) (Or.inl ⟨by kernel_rfl, ?y93⟩) hHeld ?r93
        case y93 =>
          intro w hSw
          try dsimp only at hSw
          try simp only [List.getElem_toArray, List.getElem_cons_zero, List.getElem_cons_succ]
          go_simp
          try with_reducible rfl
        try simp only [List.getElem_toArray, List.getElem_cons_zero, List.getElem_cons_succ, Act.put, List.setIfInBounds_toArray, List.set_cons_zero, List.set_cons_succ]
        refine wpAnyH_take (i := 46) (oi := { dst := some 121, op := _, type := _, pos := _, after := _, guard := _ }) (v := ?v94) rfl (by kernel_rfl) (by kernel_rfl) (by kernel_rfl) (fun _ _ _ h => h) (Or.inl ⟨by kernel_rfl, ?y94⟩) hHeld ?r94
        case y94 =>
          intro w hSw
          try dsimp only at hSw
          try simp only [List.getElem_toArray, List.getElem_cons_zero, List.getElem_cons_succ]
          go_simp
          try with_reducible rfl
        try simp only [List.getElem_toArray, List.getElem_cons_zero, List.getElem_cons_succ, Act.put, List.setIfInBounds_toArray, List.set_cons_zero, List.set_cons_succ]
        refine wpAnyH_take (i := 47) (oi := { dst := some 122, op := _, type := _, pos := _, after := _, guard := _ }) (v := ?v95) rfl (by kernel_rfl) (by kernel_rfl) (by kernel_rfl) (fun _ _ _ h => h) (Or.inl ⟨by kernel_rfl, ?y95⟩) hHeld ?r95
        case y95 =>
          intro w hSw
          try dsimp only at hSw
          try simp only [List.getElem_toArray, List.getElem_cons_zero, List.getElem_cons_succ]
          go_simp
          try with_reducible rfl
        try simp only [List.getElem_toArray, List.getElem_cons_zero, List.getElem_cons_succ, Act.put, List.setIfInBounds_toArray, List.set_cons_zero, List.set_cons_succ]
        refine wpAnyH_take (i := 48) (oi := { dst := some 123, op := _, type := _, pos := _, after := _, guard := _ }) (v := ?v96) rfl (by kernel_rfl) (by kernel_rfl) (by kernel_rfl) (fun _ _ _ h => h) (Or.inl ⟨by kernel_rfl, ?y96⟩) hHeld ?r96
        case y96 =>
          intro w hSw
          try dsimp only at hSw
          try simp only [List.getElem_toArray, List.getElem_cons_zero, List.getElem_cons_succ]
          go_simp
          try with_reducible rfl
        try simp only [List.getElem_toArray, List.getElem_cons_zero, List.getElem_cons_succ, Act.put, List.setIfInBounds_toArray, List.set_cons_zero, List.set_cons_succ]
        refine wpAnyH_take (i := 49) (oi := { dst := some 124, op := _, type := _, pos := _, after := _, guard := _ }) (v := ?v97) rfl (by kernel_rfl) (by kernel_rfl) (by kernel_rfl) (fun _ _ _ h => h) (Or.inl ⟨by kernel_rfl, ?y97⟩) hHeld ?r97
        case y97 =>
          intro w hSw
          try dsimp only at hSw
          try simp only [List.getElem_toArray, List.getElem_cons_zero, List.getElem_cons_succ]
          go_simp
          try with_reducible rfl
        try simp only [List.getElem_toArray, List.getElem_cons_zero, List.getElem_cons_succ, Act.put, List.setIfInBounds_toArray, List.set_cons_zero, List.set_cons_succ]
        refine wpAnyH_take (i := 50) (oi := { dst := some 125, op := _, type := _, pos := _, after := _, guard := _ }) (v := ?v98) rfl (by kernel_rfl) (by kernel_rfl) (by kernel_rfl) (fun _ _ _ h => h) (Or.inl ⟨by kernel_rfl, ?y98⟩) hHeld ?r98
        case y98 =>
          intro w hSw
          try dsimp only at hSw
          try simp only [List.getElem_toArray, List.getElem_cons_zero, List.getElem_cons_succ]
          go_simp
          try with_reducible rfl
        try simp only [List.getElem_toArray, List.getElem_cons_zero, List.getElem_cons_succ, Act.put, List.setIfInBounds_toArray, List.set_cons_zero, List.set_cons_succ]
        refine wpAnyH_take (i := 51) (oi := { dst := some 126, op := _, type := _, pos := _, after := _, guard := _ }) (v := ?v99) rfl (by kernel_rfl) (by kernel_rfl) (by kernel_rfl) (fun _ _ _ h => h) (Or.inl ⟨by kernel_rfl, ?y99⟩) hHeld ?r99
        case y99 =>
          intro w hSw
          try dsimp only at hSw
          try simp only [List.getElem_toArray, List.getElem_cons_zero, List.getElem_cons_succ]
          go_simp
          try with_reducible rfl
        try simp only [List.getElem_toArray, List.getElem_cons_zero, List.getElem_cons_succ, Act.put, List.setIfInBounds_toArray, List.set_cons_zero, List.set_cons_succ]
        refine wpAnyH_take (i := 52) (oi := { dst := some 127, op := _, type := _, pos := _, after := _, guard := _ }) (v := ?v100) rfl (by kernel_rfl) (by kernel_rfl) (by kernel_rfl) (fun _ _ _ h => h) (Or.inl ⟨by kernel_rfl, ?y100⟩) hHeld ?r100
        case y100 =>
          intro w hSw
          try dsimp only at hSw
          try simp only [List.getElem_toArray, List.getElem_cons_zero, List.getElem_cons_succ]
          go_simp
          try with_reducible rfl
        try simp only [List.getElem_toArray, List.getElem_cons_zero, List.getElem_cons_succ, Act.put, List.setIfInBounds_toArray, List.set_cons_zero, List.set_cons_succ]
        refine wpAnyH_take (i := 53) (oi := { dst := some 128, op := _, type := _, pos := _, after := _, guard := _ }) (v := ?v101) rfl (by kernel_rfl) (by kernel_rfl) (by kernel_rfl) (fun _ _ _ h => h) (Or.inl ⟨by kernel_rfl, ?y101⟩) hHeld ?r101
        case y101 =>
          intro w hSw
          try dsimp only at hSw
          try simp only [List.getElem_toArray, List.getElem_cons_zero, List.getElem_cons_succ]
          go_simp
          try with_reducible rfl
        try simp only [List.getElem_toArray, List.getElem_cons_zero, List.getElem_cons_succ, Act.put, List.setIfInBounds_toArray, List.set_cons_zero, List.set_cons_succ]
        refine wpAnyH_take (i := 54) (oi := { dst := some 129, op := _, type := _, pos := _, after := _, guard := _ }) (v := undef) rfl (by kernel_rfl) (by kernel_rfl) (by kernel_rfl) (fun _ _ _ h => h) (Or.inr ⟨by kernel_rfl, rfl⟩) hHeld ?_
        try simp only [List.getElem_toArray, List.getElem_cons_zero, List.getElem_cons_succ, Act.put, List.setIfInBounds_toArray, List.set_cons_zero, List.set_cons_succ]
        refine wpAnyH_take (i := 55) (oi := { dst := some 130, op := _, type := _, pos := _, after := _, guard := _ }) (v := undef) rfl (by kernel_rfl) (by kernel_rfl) (by kernel_rfl) (fun _ _ _ h => h) (Or.inr ⟨by kernel_rfl, rfl⟩) hHeld ?_
        try simp only [List.getElem_toArray, List.getElem_cons_zero, List.getElem_cons_succ, Act.put, List.setIfInBounds_toArray, List.set_cons_zero, List.set_cons_succ]
        refine wpAnyH_take (i := 56) (oi := { dst := some 131, op := _, type := _, pos := _, after := _, guard := _ }) (v := undef) rfl (by kernel_rfl) (by kernel_rfl) (by kernel_rfl) (fun _ _ _ h => h) (Or.inr ⟨by kernel_rfl, rfl⟩) hHeld ?_
        try simp only [List.getElem_toArray, List.getElem_cons_zero, List.getElem_cons_succ, Act.put, List.setIfInBounds_toArray, List.set_cons_zero, List.set_cons_succ]
        refine wpAnyH_take (i := 57) (oi := { dst := some 132, op := _, type := _, pos := _, after := _, guard := _ }) (v := undef) rfl (by kernel_rfl) (by kernel_rfl) (by kernel_rfl) (fun _ _ _ h => h) (Or.inr ⟨by kernel_rfl, rfl⟩) hHeld ?_
        try simp only [List.getElem_toArray, List.getElem_cons_zero, List.getElem_cons_succ, Act.put, List.setIfInBounds_toArray, List.set_cons_zero, List.set_cons_succ]
        refine wpAnyH_take (i := 58) (oi := { dst := some 133, op := _, type := _, pos := _, after := _, guard := _ }) (v := undef) rfl (by kernel_rfl) (by kernel_rfl) (by kernel_rfl) (fun _ _ _ h => h) (Or.inr ⟨by kernel_rfl, rfl⟩) hHeld ?_
        try simp only [List.getElem_toArray, List.getElem_cons_zero, List.getElem_cons_succ, Act.put, List.setIfInBounds_toArray, List.set_cons_zero, List.set_cons_succ]
        refine wpAnyH_take (i := 59) (oi := { dst := some 134, op := _, type := _, pos := _, after := _, guard := _ }) (v := undef) rfl (by kernel_rfl) (by kernel_rfl) (by kernel_rfl) (fun _ _ _ h => h) (Or.inr ⟨by kernel_rfl, rfl⟩) hHeld ?_
        try simp only [List.getElem_toArray, List.getElem_cons_zero, List.getElem_cons_succ, Act.put, List.setIfInBounds_toArray, List.set_cons_zero, List.set_cons_succ]
        refine wpAnyH_take (i := 60) (oi := { dst := some 135, op := _, type := _, pos := _, after := _, guard := _ }) (v := ?v108) rfl (by kernel_rfl) (by kernel_rfl) (by kernel_rfl) (fun _ _ _ h => h) (Or.inl ⟨by kernel_rfl, ?y108⟩) hHeld ?r108
        case y108 =>
          intro w hSw
          try dsimp only at hSw
          try simp only [List.getElem_toArray, List.getElem_cons_zero, List.getElem_cons_succ]
          go_simp
          try with_reducible rfl
        try simp only [List.getElem_toArray, List.getElem_cons_zero, List.getElem_cons_succ, Act.put, List.setIfInBounds_toArray, List.set_cons_zero, List.set_cons_succ]
        refine wpAnyH_take (i := 61) (oi := { dst := some 136, op := _, type := _, pos := _, after := _, guard := _ }) (v := ?v109) rfl (by kernel_rfl) (by kernel_rfl) (by kernel_rfl) (fun _ _ _ h => h) (Or.inl ⟨by kernel_rfl, ?y109⟩) hHeld ?r109
        case y109 =>
          intro w hSw
          try dsimp only at hSw
          try simp only [List.getElem_toArray, List.getElem_cons_zero, List.getElem_cons_succ]
          go_simp
          try with_reducible rfl
        try simp only [List.getElem_toArray, List.getElem_cons_zero, List.getElem_cons_succ, Act.put, List.setIfInBounds_toArray, List.set_cons_zero, List.set_cons_succ]
        refine wpAnyH_take (i := 62) (oi := { dst := some 8, op := _, type := _, pos := _, after := _, guard := _ }) (v := ?v110) rfl (by kernel_rfl) (by kernel_rfl) (by kernel_rfl) (fun _ _ _ h => h) (Or.inl ⟨by kernel_rfl, ?y110⟩) hHeld ?r110
        case y110 =>
          intro w hSw
          try dsimp only at hSw
          try simp only [List.getElem_toArray, List.getElem_cons_zero, List.getElem_cons_succ]
          go_simp
          try with_reducible rfl
        try simp only [List.getElem_toArray, List.getElem_cons_zero, List.getElem_cons_succ, Act.put, List.setIfInBounds_toArray, List.set_cons_zero, List.set_cons_succ]
        refine wpAnyH_done (by kernel_rfl) ?_ _
        go_wp2
        exact bodyPost_ret (v := .bool true) (by simp [results, Tryd.results6, go_sem]) rfl ⟨rfl, hHeld.1.out⟩
end Go.Proofs.YtalnfbkmlllfhaaDoor
