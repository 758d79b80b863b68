/-
  Rows by their numbers: column.less .. notLess; Compare, Between. Printed by genbsl.py.
-/
import Derived.Test.YtnigpmbpipmgfaaDoorBsK
namespace Go.Proofs.YtnigpmbpipmgfaaDoor
open Go.RowKit Tess

set_option linter.unusedSimpArgs false in
set_option maxRecDepth 100000 in
set_option maxHeartbeats 2000000 in
theorem less_any {b : Sl} {vE vB : Value} (n : Int) {w : World} (hE : HC w vE b.ex) (hB : HR w vB b.bits) (hs : SmallB b) (hc : IsCol b) (hn : -9223372036854775808 ≤ n ∧ n ≤ 9223372036854775807) (hT : Tab w) :
    Calls Tryd.prog 65 #[.agg #[.int .i64 b.n, .int .i64 b.least, vE, vB], .int .i64 n] w fun e W' => ∃ v, e = .returned (.agg #[v]) ∧ HC W' v (partB b n).1 ∧ Below w.heap.size w W' := by
  obtain ⟨pE, cE, rfl, -, -⟩ := Hid.out hE
  obtain ⟨pB, cB, rfl, -, -⟩ := Hid.out hB
  have b0 := (SBox.new w 83 b.n b.least (.slice pE b.ex.length cE) (.slice pB b.bits.length cB)).alloc (.cells #[.slice none 0 0] 28)
  have r0 := RBox.new (w.alloc (.cells #[.int .i64 b.n, .int .i64 b.least, .slice pE b.ex.length cE, .slice pB b.bits.length cB] 83)) (.slice none 0 0)
  have hR : Below w.heap.size w ((w.alloc (.cells #[.int .i64 b.n, .int .i64 b.least, .slice pE b.ex.length cE, .slice pB b.bits.length cB] 83)).alloc (.cells #[.slice none 0 0] 28)) := ((Below.refl w.heap.size w).alloc (Nat.le_refl _) _).alloc (by simp) _
  simp only [World.size_alloc] at r0
  have hk := Lib.hid (parted_any n (hE.later hR) (hB.later hR) hs hc hn (hT.below hR hT.lt))
  have c0 := b0.c0; have c1' := b0.c1; have c2' := b0.c2; have c3' := b0.c3
  clear b0 hE hB hs hT hc hn
  generalize partB b n = pb at *
  go_enter Tryd.func65, Tryd.ntmps65
  go_wp2_with (go_at_call 95; refine (hk.out).mono ?_; rintro e W2 ⟨v1, v2, v3, rfl, h1, h2, h3, hb⟩; obtain ⟨p1, c1, rfl, -, -⟩ := Hid.out h1; obtain ⟨p2, c2, rfl, -, -⟩ := Hid.out h2; obtain ⟨p3, c3, rfl, -, -⟩ := Hid.out h3; have y4 := r0.later hb; have hA : Below W2.heap.size W2 (((W2.alloc (.cells #[.slice p1 pb.1.length c1] 28)).alloc (.cells #[.slice p2 pb.2.1.length c2] 28)).alloc (.cells #[.slice p3 pb.2.2.length c3] 28)) := (((Below.refl W2.heap.size W2).alloc (Nat.le_refl _) _).alloc (by simp) _).alloc (by simp; omega) _; have y5 := y4.later hA; have f5 := y5.frozen; have e5 := y5.cell)
  have hBf := (((hR.trans (hb.mono hR.size)).trans (hA.mono (hR.trans (hb.mono hR.size)).size))).setCell (p := ⟨w.heap.size + 1, 0, none⟩) (by simp) (.slice p1 pb.1.length c1)
  have d4 := (y5.set (.slice p1 pb.1.length c1)).cell
  refine bodyPost_ret (v := .agg #[.slice p1 pb.1.length c1]) ?_ rfl ⟨_, rfl, ((h1.later hA).setR y5 _), hBf⟩
  simp [results, Tryd.results65, go_sem, d4]

set_option linter.unusedSimpArgs false in
set_option maxRecDepth 100000 in
set_option maxHeartbeats 2000000 in
theorem same_any {b : Sl} {vE vB : Value} (n : Int) {w : World} (hE : HC w vE b.ex) (hB : HR w vB b.bits) (hs : SmallB b) (hc : IsCol b) (hn : -9223372036854775808 ≤ n ∧ n ≤ 9223372036854775807) (hT : Tab w) :
    Calls Tryd.prog 63 #[.agg #[.int .i64 b.n, .int .i64 b.least, vE, vB], .int .i64 n] w fun e W' => ∃ v, e = .returned (.agg #[v]) ∧ HC W' v (partB b n).2.1 ∧ Below w.heap.size w W' := by
  obtain ⟨pE, cE, rfl, -, -⟩ := Hid.out hE
  obtain ⟨pB, cB, rfl, -, -⟩ := Hid.out hB
  have b0 := (SBox.new w 83 b.n b.least (.slice pE b.ex.length cE) (.slice pB b.bits.length cB)).alloc (.cells #[.slice none 0 0] 28)
  have r0 := RBox.new (w.alloc (.cells #[.int .i64 b.n, .int .i64 b.least, .slice pE b.ex.length cE, .slice pB b.bits.length cB] 83)) (.slice none 0 0)
  have hR : Below w.heap.size w ((w.alloc (.cells #[.int .i64 b.n, .int .i64 b.least, .slice pE b.ex.length cE, .slice pB b.bits.length cB] 83)).alloc (.cells #[.slice none 0 0] 28)) := ((Below.refl w.heap.size w).alloc (Nat.le_refl _) _).alloc (by simp) _
  simp only [World.size_alloc] at r0
  have hk := Lib.hid (parted_any n (hE.later hR) (hB.later hR) hs hc hn (hT.below hR hT.lt))
  have c0 := b0.c0; have c1' := b0.c1; have c2' := b0.c2; have c3' := b0.c3
  clear b0 hE hB hs hT hc hn
  generalize partB b n = pb at *
  go_enter Tryd.func63, Tryd.ntmps63
  go_wp2_with (go_at_call 95; refine (hk.out).mono ?_; rintro e W2 ⟨v1, v2, v3, rfl, h1, h2, h3, hb⟩; obtain ⟨p1, c1, rfl, -, -⟩ := Hid.out h1; obtain ⟨p2, c2, rfl, -, -⟩ := Hid.out h2; obtain ⟨p3, c3, rfl, -, -⟩ := Hid.out h3; have y4 := r0.later hb; have hA : Below W2.heap.size W2 (((W2.alloc (.cells #[.slice p1 pb.1.length c1] 28)).alloc (.cells #[.slice p2 pb.2.1.length c2] 28)).alloc (.cells #[.slice p3 pb.2.2.length c3] 28)) := (((Below.refl W2.heap.size W2).alloc (Nat.le_refl _) _).alloc (by simp) _).alloc (by simp; omega) _; have y5 := y4.later hA; have f5 := y5.frozen; have e5 := y5.cell)
  have hBf := (((hR.trans (hb.mono hR.size)).trans (hA.mono (hR.trans (hb.mono hR.size)).size))).setCell (p := ⟨w.heap.size + 1, 0, none⟩) (by simp) (.slice p2 pb.2.1.length c2)
  have d4 := (y5.set (.slice p2 pb.2.1.length c2)).cell
  refine bodyPost_ret (v := .agg #[.slice p2 pb.2.1.length c2]) ?_ rfl ⟨_, rfl, ((h2.later hA).setR y5 _), hBf⟩
  simp [results, Tryd.results63, go_sem, d4]

set_option linter.unusedSimpArgs false in
set_option maxRecDepth 100000 in
set_option maxHeartbeats 2000000 in
theorem greater_any {b : Sl} {vE vB : Value} (n : Int) {w : World} (hE : HC w vE b.ex) (hB : HR w vB b.bits) (hs : SmallB b) (hc : IsCol b) (hn : -9223372036854775808 ≤ n ∧ n ≤ 9223372036854775807) (hT : Tab w) :
    Calls Tryd.prog 67 #[.agg #[.int .i64 b.n, .int .i64 b.least, vE, vB], .int .i64 n] w fun e W' => ∃ v, e = .returned (.agg #[v]) ∧ HC W' v (partB b n).2.2 ∧ Below w.heap.size w W' := by
  obtain ⟨pE, cE, rfl, -, -⟩ := Hid.out hE
  obtain ⟨pB, cB, rfl, -, -⟩ := Hid.out hB
  have b0 := (SBox.new w 83 b.n b.least (.slice pE b.ex.length cE) (.slice pB b.bits.length cB)).alloc (.cells #[.slice none 0 0] 28)
  have r0 := RBox.new (w.alloc (.cells #[.int .i64 b.n, .int .i64 b.least, .slice pE b.ex.length cE, .slice pB b.bits.length cB] 83)) (.slice none 0 0)
  have hR : Below w.heap.size w ((w.alloc (.cells #[.int .i64 b.n, .int .i64 b.least, .slice pE b.ex.length cE, .slice pB b.bits.length cB] 83)).alloc (.cells #[.slice none 0 0] 28)) := ((Below.refl w.heap.size w).alloc (Nat.le_refl _) _).alloc (by simp) _
  simp only [World.size_alloc] at r0
  have hk := Lib.hid (parted_any n (hE.later hR) (hB.later hR) hs hc hn (hT.below hR hT.lt))
  have c0 := b0.c0; have c1' := b0.c1; have c2' := b0.c2; have c3' := b0.c3
  clear b0 hE hB hs hT hc hn
  generalize partB b n = pb at *
  go_enter Tryd.func67, Tryd.ntmps67
  go_wp2_with (go_at_call 95; refine (hk.out).mono ?_; rintro e W2 ⟨v1, v2, v3, rfl, h1, h2, h3, hb⟩; obtain ⟨p1, c1, rfl, -, -⟩ := Hid.out h1; obtain ⟨p2, c2, rfl, -, -⟩ := Hid.out h2; obtain ⟨p3, c3, rfl, -, -⟩ := Hid.out h3; have y4 := r0.later hb; have hA : Below W2.heap.size W2 (((W2.alloc (.cells #[.slice p1 pb.1.length c1] 28)).alloc (.cells #[.slice p2 pb.2.1.length c2] 28)).alloc (.cells #[.slice p3 pb.2.2.length c3] 28)) := (((Below.refl W2.heap.size W2).alloc (Nat.le_refl _) _).alloc (by simp) _).alloc (by simp; omega) _; have y5 := y4.later hA; have f5 := y5.frozen; have e5 := y5.cell)
  have hBf := (((hR.trans (hb.mono hR.size)).trans (hA.mono (hR.trans (hb.mono hR.size)).size))).setCell (p := ⟨w.heap.size + 1, 0, none⟩) (by simp) (.slice p3 pb.2.2.length c3)
  have d4 := (y5.set (.slice p3 pb.2.2.length c3)).cell
  refine bodyPost_ret (v := .agg #[.slice p3 pb.2.2.length c3]) ?_ rfl ⟨_, rfl, ((h3.later hA).setR y5 _), hBf⟩
  simp [results, Tryd.results67, go_sem, d4]

set_option linter.unusedSimpArgs false in
set_option maxRecDepth 100000 in
set_option maxHeartbeats 2000000 in
theorem other_any {b : Sl} {vE vB : Value} (n : Int) {w : World} (hE : HC w vE b.ex) (hB : HR w vB b.bits) (hs : SmallB b) (hc : IsCol b) (hn : -9223372036854775808 ≤ n ∧ n ≤ 9223372036854775807) (hT : Tab w) :
    Calls Tryd.prog 64 #[.agg #[.int .i64 b.n, .int .i64 b.least, vE, vB], .int .i64 n] w fun e W' => ∃ v, e = .returned (.agg #[v]) ∧ HC W' v (wiL b.ex (partB b n).2.1) ∧ Below w.heap.size w W' := by
  obtain ⟨pE, cE, rfl, -, -⟩ := Hid.out hE
  obtain ⟨pB, cB, rfl, -, -⟩ := Hid.out hB
  obtain ⟨pb, hpb⟩ : ∃ pb, partB b n = pb := ⟨_, rfl⟩
  have hsp : Hid (Small pb.2.1) := by rw [← hpb]; exact small_right (partB_spec hc n).r2
  rw [hpb]
  have hpb' := Lib.hid hpb
  clear hpb
  have b0 := (SBox.new w 83 b.n b.least (.slice pE b.ex.length cE) (.slice pB b.bits.length cB)).alloc (.cells #[.slice none 0 0] 28)
  have r0 := RBox.new (w.alloc (.cells #[.int .i64 b.n, .int .i64 b.least, .slice pE b.ex.length cE, .slice pB b.bits.length cB] 83)) (.slice none 0 0)
  have hR : Below w.heap.size w ((w.alloc (.cells #[.int .i64 b.n, .int .i64 b.least, .slice pE b.ex.length cE, .slice pB b.bits.length cB] 83)).alloc (.cells #[.slice none 0 0] 28)) := ((Below.refl w.heap.size w).alloc (Nat.le_refl _) _).alloc (by simp) _
  simp only [World.size_alloc] at r0
  go_enter Tryd.func64, Tryd.ntmps64
  go_wp2
  generalize (w.alloc (.cells #[.int .i64 b.n, .int .i64 b.least, .slice pE b.ex.length cE, .slice pB b.bits.length cB] 83)).alloc (.cells #[.slice none 0 0] 28) = W0 at *
  have hE0 := hE.later hR
  have hB0 := hB.later hR
  have hT0 := hT.below hR hT.lt
  have k1 : Hid (∀ W', Below W0.heap.size W0 W' → Calls Tryd.prog 63 #[.agg #[.int .i64 b.n, .int .i64 b.least, .slice pE b.ex.length cE, .slice pB b.bits.length cB], .int .i64 n] W' fun e W'' => ∃ v, e = .returned (.agg #[v]) ∧ HC W'' v pb.2.1 ∧ Below W'.heap.size W' W'') := fun W' h => by have := same_any n (hE0.later h) (hB0.later h) hs hc hn (hT0.below h hT0.lt); rwa [hpb'.out] at this
  have k2 : Hid (∀ W' v, Below W0.heap.size W0 W' → HC W' v pb.2.1 → Calls Tryd.prog 94 #[.agg #[.slice pE b.ex.length cE], .agg #[v]] W' fun e W'' => ∃ v', e = .returned (.agg #[v']) ∧ HC W'' v' (wiL b.ex pb.2.1) ∧ Below W'.heap.size W' W'') := fun W' v h hv => without_any (hE0.later h) hv hs.ex hsp.out (hT0.below h hT0.lt)
  have hMd : (fun W' : World => Hid (Below W0.heap.size W0 W') ∧ Hid (SBox W' 83 w.heap.size b.n b.least (.slice pE b.ex.length cE) (.slice pB b.bits.length cB)) ∧ W'.cell? ⟨w.heap.size, 0, none⟩ = some (.int .i64 b.n) ∧ W'.cell? ⟨w.heap.size, 1, none⟩ = some (.int .i64 b.least) ∧ W'.cell? ⟨w.heap.size, 2, none⟩ = some (.slice pE b.ex.length cE) ∧ W'.cell? ⟨w.heap.size, 3, none⟩ = some (.slice pB b.bits.length cB)) W0.drew := col_keep' (w := W0) (W := W0) (Below.refl _ W0).drew (Lib.hid (Below.refl _ _)) (Lib.hid b0)
  have r0' := Lib.hid r0
  have hR' := Lib.hid hR
  clear b0 hE hB hs hT hc hn hE0 hB0 hT0 hsp r0 hR hpb'
  obtain ⟨N, least, ex, bs⟩ := b
  dsimp only at *
  generalize hxl : ex.length = lE at *
  generalize hbl : bs.length = lB at *
  clear hxl hbl
  refine region_late (S := (fun W' : World => Hid (Below W0.heap.size W0 W') ∧ Hid (SBox W' 83 w.heap.size N least (.slice pE lE cE) (.slice pB lB cB)) ∧ W'.cell? ⟨w.heap.size, 0, none⟩ = some (.int .i64 N) ∧ W'.cell? ⟨w.heap.size, 1, none⟩ = some (.int .i64 least) ∧ W'.cell? ⟨w.heap.size, 2, none⟩ = some (.slice pE lE cE) ∧ W'.cell? ⟨w.heap.size, 3, none⟩ = some (.slice pB lB cB))) (fun n => n == 7) (by kernel_rfl) hMd (fun hHeld => ?_)
  clear hMd
  generalize World.drew W0 = Wd at *
  refine wpAnyL_take (i := 0) (oi := { dst := some 5, op := _, type := _, pos := _, after := _, guard := _ }) (v := ?v1) rfl (by kernel_rfl) (by kernel_rfl) (by kernel_rfl) (by kernel_rfl) (fun _ _ _ h => h) (Or.inl ⟨by kernel_rfl, ?y1⟩) hHeld ?r1
  case y1 =>
    intro w hSw
    try dsimp only at hSw
    try simp only [List.getElem_toArray, List.getElem_cons_zero, List.getElem_cons_succ]
    go_simp
    try with_reducible rfl
  try simp only [List.getElem_toArray, List.getElem_cons_zero, List.getElem_cons_succ, Act.put, List.setIfInBounds_toArray, List.set_cons_zero, List.set_cons_succ]
  refine wpAnyL_take (i := 1) (oi := { dst := some 6, op := _, type := _, pos := _, after := _, guard := _ }) (v := ?v2) rfl (by kernel_rfl) (by kernel_rfl) (by kernel_rfl) (by kernel_rfl) (fun _ _ _ h => h) (Or.inl ⟨by kernel_rfl, ?y2⟩) hHeld ?r2
  case y2 =>
    intro w hSw
    try dsimp only at hSw
    try simp only [List.getElem_toArray, List.getElem_cons_zero, List.getElem_cons_succ]
    go_simp
    try with_reducible rfl
  try simp only [List.getElem_toArray, List.getElem_cons_zero, List.getElem_cons_succ, Act.put, List.setIfInBounds_toArray, List.set_cons_zero, List.set_cons_succ]
  refine wpAnyL_take (i := 2) (oi := { dst := some 7, op := _, type := _, pos := _, after := _, guard := _ }) (v := ?v3) rfl (by kernel_rfl) (by kernel_rfl) (by kernel_rfl) (by kernel_rfl) (fun _ _ _ h => h) (Or.inl ⟨by kernel_rfl, ?y3⟩) hHeld ?r3
  case y3 =>
    intro w hSw
    try dsimp only at hSw
    try simp only [List.getElem_toArray, List.getElem_cons_zero, List.getElem_cons_succ]
    go_simp
    try with_reducible rfl
  try simp only [List.getElem_toArray, List.getElem_cons_zero, List.getElem_cons_succ, Act.put, List.setIfInBounds_toArray, List.set_cons_zero, List.set_cons_succ]
  refine wpAnyL_take (i := 3) (oi := { dst := some 8, op := _, type := _, pos := _, after := _, guard := _ }) (v := ?v4) rfl (by kernel_rfl) (by kernel_rfl) (by kernel_rfl) (by kernel_rfl) (fun _ _ _ h => h) (Or.inl ⟨by kernel_rfl, ?y4⟩) hHeld ?r4
  case y4 =>
    intro w hSw
    try dsimp only at hSw
    try simp only [List.getElem_toArray, List.getElem_cons_zero, List.getElem_cons_succ]
    go_simp
    try with_reducible rfl
  try simp only [List.getElem_toArray, List.getElem_cons_zero, List.getElem_cons_succ, Act.put, List.setIfInBounds_toArray, List.set_cons_zero, List.set_cons_succ]
  refine wpAnyL_take (i := 4) (oi := { dst := some 9, op := _, type := _, pos := _, after := _, guard := _ }) (v := ?v5) rfl (by kernel_rfl) (by kernel_rfl) (by kernel_rfl) (by kernel_rfl) (fun _ _ _ h => h) (Or.inl ⟨by kernel_rfl, ?y5⟩) hHeld ?r5
  case y5 =>
    intro w hSw
    try dsimp only at hSw
    try simp only [List.getElem_toArray, List.getElem_cons_zero, List.getElem_cons_succ]
    go_simp
    try with_reducible rfl
  try simp only [List.getElem_toArray, List.getElem_cons_zero, List.getElem_cons_succ, Act.put, List.setIfInBounds_toArray, List.set_cons_zero, List.set_cons_succ]
  refine wpAnyL_one (i := 5) (by kernel_rfl) rfl (fun K hK => ?_)
  try simp only [List.getElem_toArray, List.getElem_cons_zero, List.getElem_cons_succ]
  go_simp
  go_at_call 63
  refine (k1.out _ hHeld.1.out).mono ?_
  rintro e Wn5 ⟨v5, rfl, hv5, hbn⟩
  have hnew := Lib.hid (col_keep' hbn hHeld.1 hHeld.2.1)
  refine hK.out _ _ (fun _ => hnew.out) ?_
  have hHeld' := hnew.out
  clear hHeld hnew hK K hbn
  have hHeld := hHeld'
  clear hHeld'
  try simp only [List.getElem_toArray, List.getElem_cons_zero, List.getElem_cons_succ, Act.put, List.setIfInBounds_toArray, List.set_cons_zero, List.set_cons_succ]
  refine wpAnyL_one (i := 6) (by kernel_rfl) rfl (fun K hK => ?_)
  try simp only [List.getElem_toArray, List.getElem_cons_zero, List.getElem_cons_succ]
  go_simp
  go_at_call 94
  refine (k2.out _ _ hHeld.1.out hv5).mono ?_
  rintro e Wn6 ⟨v6, rfl, hv6, hbn⟩
  obtain ⟨p6, c6, rfl, -, -⟩ := Hid.out hv6
  have hnew := Lib.hid (col_keep' hbn hHeld.1 hHeld.2.1)
  refine hK.out _ _ (fun _ => hnew.out) ?_
  have hHeld' := hnew.out
  clear hHeld hnew hK K hbn
  have hHeld := hHeld'
  clear hHeld'
  try simp only [List.getElem_toArray, List.getElem_cons_zero, List.getElem_cons_succ, Act.put, List.setIfInBounds_toArray, List.set_cons_zero, List.set_cons_succ]
  refine wpAnyL_one (i := 7) (by kernel_rfl) rfl (fun K hK => ?_)
  have y4 := r0'.out.later hHeld.1.out
  have f4 := y4.frozen
  have e4 := y4.cell
  try simp only [List.getElem_toArray, List.getElem_cons_zero, List.getElem_cons_succ]
  go_simp
  refine hK.out _ _ (fun h => by cases h) ?_
  clear hK K
  try simp only [List.getElem_toArray, List.getElem_cons_zero, List.getElem_cons_succ, Act.put, List.setIfInBounds_toArray, List.set_cons_zero, List.set_cons_succ]
  refine wpAnyL_done (by kernel_rfl) (OnlyN.normal ?_) _
  have d4 := (y4.set (.slice p6 (wiL ex pb.2.1).length c6)).cell
  have hBf := (hR'.out.trans (hHeld.1.out.mono hR'.out.size)).setCell (p := ⟨w.heap.size + 1, 0, none⟩) (by simp) (.slice p6 (wiL ex pb.2.1).length c6)
  clear f4 e4 hHeld
  go_wp2
  refine bodyPost_ret (v := .agg #[.slice p6 (wiL ex pb.2.1).length c6]) ?_ rfl ⟨_, rfl, hv6.setR y4 _, hBf⟩
  simp [results, Tryd.results64, go_sem, d4]

set_option linter.unusedSimpArgs false in
set_option maxRecDepth 100000 in
set_option maxHeartbeats 2000000 in
theorem notGreater_any {b : Sl} {vE vB : Value} (n : Int) {w : World} (hE : HC w vE b.ex) (hB : HR w vB b.bits) (hs : SmallB b) (hc : IsCol b) (hn : -9223372036854775808 ≤ n ∧ n ≤ 9223372036854775807) (hT : Tab w) :
    Calls Tryd.prog 66 #[.agg #[.int .i64 b.n, .int .i64 b.least, vE, vB], .int .i64 n] w fun e W' => ∃ v, e = .returned (.agg #[v]) ∧ HC W' v (wiL b.ex (partB b n).2.2) ∧ Below w.heap.size w W' := by
  obtain ⟨pE, cE, rfl, -, -⟩ := Hid.out hE
  obtain ⟨pB, cB, rfl, -, -⟩ := Hid.out hB
  obtain ⟨pb, hpb⟩ : ∃ pb, partB b n = pb := ⟨_, rfl⟩
  have hsp : Hid (Small pb.2.2) := by rw [← hpb]; exact small_right (partB_spec hc n).r3
  rw [hpb]
  have hpb' := Lib.hid hpb
  clear hpb
  have b0 := (SBox.new w 83 b.n b.least (.slice pE b.ex.length cE) (.slice pB b.bits.length cB)).alloc (.cells #[.slice none 0 0] 28)
  have r0 := RBox.new (w.alloc (.cells #[.int .i64 b.n, .int .i64 b.least, .slice pE b.ex.length cE, .slice pB b.bits.length cB] 83)) (.slice none 0 0)
  have hR : Below w.heap.size w ((w.alloc (.cells #[.int .i64 b.n, .int .i64 b.least, .slice pE b.ex.length cE, .slice pB b.bits.length cB] 83)).alloc (.cells #[.slice none 0 0] 28)) := ((Below.refl w.heap.size w).alloc (Nat.le_refl _) _).alloc (by simp) _
  simp only [World.size_alloc] at r0
  go_enter Tryd.func66, Tryd.ntmps66
  go_wp2
  generalize (w.alloc (.cells #[.int .i64 b.n, .int .i64 b.least, .slice pE b.ex.length cE, .slice pB b.bits.length cB] 83)).alloc (.cells #[.slice none 0 0] 28) = W0 at *
  have hE0 := hE.later hR
  have hB0 := hB.later hR
  have hT0 := hT.below hR hT.lt
  have k1 : Hid (∀ W', Below W0.heap.size W0 W' → Calls Tryd.prog 67 #[.agg #[.int .i64 b.n, .int .i64 b.least, .slice pE b.ex.length cE, .slice pB b.bits.length cB], .int .i64 n] W' fun e W'' => ∃ v, e = .returned (.agg #[v]) ∧ HC W'' v pb.2.2 ∧ Below W'.heap.size W' W'') := fun W' h => by have := greater_any n (hE0.later h) (hB0.later h) hs hc hn (hT0.below h hT0.lt); rwa [hpb'.out] at this
  have k2 : Hid (∀ W' v, Below W0.heap.size W0 W' → HC W' v pb.2.2 → Calls Tryd.prog 94 #[.agg #[.slice pE b.ex.length cE], .agg #[v]] W' fun e W'' => ∃ v', e = .returned (.agg #[v']) ∧ HC W'' v' (wiL b.ex pb.2.2) ∧ Below W'.heap.size W' W'') := fun W' v h hv => without_any (hE0.later h) hv hs.ex hsp.out (hT0.below h hT0.lt)
  have hMd : (fun W' : World => Hid (Below W0.heap.size W0 W') ∧ Hid (SBox W' 83 w.heap.size b.n b.least (.slice pE b.ex.length cE) (.slice pB b.bits.length cB)) ∧ W'.cell? ⟨w.heap.size, 0, none⟩ = some (.int .i64 b.n) ∧ W'.cell? ⟨w.heap.size, 1, none⟩ = some (.int .i64 b.least) ∧ W'.cell? ⟨w.heap.size, 2, none⟩ = some (.slice pE b.ex.length cE) ∧ W'.cell? ⟨w.heap.size, 3, none⟩ = some (.slice pB b.bits.length cB)) W0.drew := col_keep' (w := W0) (W := W0) (Below.refl _ W0).drew (Lib.hid (Below.refl _ _)) (Lib.hid b0)
  have r0' := Lib.hid r0
  have hR' := Lib.hid hR
  clear b0 hE hB hs hT hc hn hE0 hB0 hT0 hsp r0 hR hpb'
  obtain ⟨N, least, ex, bs⟩ := b
  dsimp only at *
  generalize hxl : ex.length = lE at *
  generalize hbl : bs.length = lB at *
  clear hxl hbl
  refine region_late (S := (fun W' : World => Hid (Below W0.heap.size W0 W') ∧ Hid (SBox W' 83 w.heap.size N least (.slice pE lE cE) (.slice pB lB cB)) ∧ W'.cell? ⟨w.heap.size, 0, none⟩ = some (.int .i64 N) ∧ W'.cell? ⟨w.heap.size, 1, none⟩ = some (.int .i64 least) ∧ W'.cell? ⟨w.heap.size, 2, none⟩ = some (.slice pE lE cE) ∧ W'.cell? ⟨w.heap.size, 3, none⟩ = some (.slice pB lB cB))) (fun n => n == 7) (by kernel_rfl) hMd (fun hHeld => ?_)
  clear hMd
  generalize World.drew W0 = Wd at *
  refine wpAnyL_take (i := 0) (oi := { dst := some 5, op := _, type := _, pos := _, after := _, guard := _ }) (v := ?v6) rfl (by kernel_rfl) (by kernel_rfl) (by kernel_rfl) (by kernel_rfl) (fun _ _ _ h => h) (Or.inl ⟨by kernel_rfl, ?y6⟩) hHeld ?r6
  case y6 =>
    intro w hSw
    try dsimp only at hSw
    try simp only [List.getElem_toArray, List.getElem_cons_zero, List.getElem_cons_succ]
    go_simp
    try with_reducible rfl
  try simp only [List.getElem_toArray, List.getElem_cons_zero, List.getElem_cons_succ, Act.put, List.setIfInBounds_toArray, List.set_cons_zero, List.set_cons_succ]
  refine wpAnyL_take (i := 1) (oi := { dst := some 6, op := _, type := _, pos := _, after := _, guard := _ }) (v := ?v7) rfl (by kernel_rfl) (by kernel_rfl) (by kernel_rfl) (by kernel_rfl) (fun _ _ _ h => h) (Or.inl ⟨by kernel_rfl, ?y7⟩) hHeld ?r7
  case y7 =>
    intro w hSw
    try dsimp only at hSw
    try simp only [List.getElem_toArray, List.getElem_cons_zero, List.getElem_cons_succ]
    go_simp
    try with_reducible rfl
  try simp only [List.getElem_toArray, List.getElem_cons_zero, List.getElem_cons_succ, Act.put, List.setIfInBounds_toArray, List.set_cons_zero, List.set_cons_succ]
  refine wpAnyL_take (i := 2) (oi := { dst := some 7, op := _, type := _, pos := _, after := _, guard := _ }) (v := ?v8) rfl (by kernel_rfl) (by kernel_rfl) (by kernel_rfl) (by kernel_rfl) (fun _ _ _ h => h) (Or.inl ⟨by kernel_rfl, ?y8⟩) hHeld ?r8
  case y8 =>
    intro w hSw
    try dsimp only at hSw
    try simp only [List.getElem_toArray, List.getElem_cons_zero, List.getElem_cons_succ]
    go_simp
    try with_reducible rfl
  try simp only [List.getElem_toArray, List.getElem_cons_zero, List.getElem_cons_succ, Act.put, List.setIfInBounds_toArray, List.set_cons_zero, List.set_cons_succ]
  refine wpAnyL_take (i := 3) (oi := { dst := some 8, op := _, type := _, pos := _, after := _, guard := _ }) (v := ?v9) rfl (by kernel_rfl) (by kernel_rfl) (by kernel_rfl) (by kernel_rfl) (fun _ _ _ h => h) (Or.inl ⟨by kernel_rfl, ?y9⟩) hHeld ?r9
  case y9 =>
    intro w hSw
    try dsimp only at hSw
    try simp only [List.getElem_toArray, List.getElem_cons_zero, List.getElem_cons_succ]
    go_simp
    try with_reducible rfl
  try simp only [List.getElem_toArray, List.getElem_cons_zero, List.getElem_cons_succ, Act.put, List.setIfInBounds_toArray, List.set_cons_zero, List.set_cons_succ]
  refine wpAnyL_take (i := 4) (oi := { dst := some 9, op := _, type := _, pos := _, after := _, guard := _ }) (v := ?v10) rfl (by kernel_rfl) (by kernel_rfl) (by kernel_rfl) (by kernel_rfl) (fun _ _ _ h => h) (Or.inl ⟨by kernel_rfl, ?y10⟩) hHeld ?r10
  case y10 =>
    intro w hSw
    try dsimp only at hSw
    try simp only [List.getElem_toArray, List.getElem_cons_zero, List.getElem_cons_succ]
    go_simp
    try with_reducible rfl
  try simp only [List.getElem_toArray, List.getElem_cons_zero, List.getElem_cons_succ, Act.put, List.setIfInBounds_toArray, List.set_cons_zero, List.set_cons_succ]
  refine wpAnyL_one (i := 5) (by kernel_rfl) rfl (fun K hK => ?_)
  try simp only [List.getElem_toArray, List.getElem_cons_zero, List.getElem_cons_succ]
  go_simp
  go_at_call 67
  refine (k1.out _ hHeld.1.out).mono ?_
  rintro e Wn5 ⟨v5, rfl, hv5, hbn⟩
  have hnew := Lib.hid (col_keep' hbn hHeld.1 hHeld.2.1)
  refine hK.out _ _ (fun _ => hnew.out) ?_
  have hHeld' := hnew.out
  clear hHeld hnew hK K hbn
  have hHeld := hHeld'
  clear hHeld'
  try simp only [List.getElem_toArray, List.getElem_cons_zero, List.getElem_cons_succ, Act.put, List.setIfInBounds_toArray, List.set_cons_zero, List.set_cons_succ]
  refine wpAnyL_one (i := 6) (by kernel_rfl) rfl (fun K hK => ?_)
  try simp only [List.getElem_toArray, List.getElem_cons_zero, List.getElem_cons_succ]
  go_simp
  go_at_call 94
  refine (k2.out _ _ hHeld.1.out hv5).mono ?_
  rintro e Wn6 ⟨v6, rfl, hv6, hbn⟩
  obtain ⟨p6, c6, rfl, -, -⟩ := Hid.out hv6
  have hnew := Lib.hid (col_keep' hbn hHeld.1 hHeld.2.1)
  refine hK.out _ _ (fun _ => hnew.out) ?_
  have hHeld' := hnew.out
  clear hHeld hnew hK K hbn
  have hHeld := hHeld'
  clear hHeld'
  try simp only [List.getElem_toArray, List.getElem_cons_zero, List.getElem_cons_succ, Act.put, List.setIfInBounds_toArray, List.set_cons_zero, List.set_cons_succ]
  refine wpAnyL_one (i := 7) (by kernel_rfl) rfl (fun K hK => ?_)
  have y4 := r0'.out.later hHeld.1.out
  have f4 := y4.frozen
  have e4 := y4.cell
  try simp only [List.getElem_toArray, List.getElem_cons_zero, List.getElem_cons_succ]
  go_simp
  refine hK.out _ _ (fun h => by cases h) ?_
  clear hK K
  try simp only [List.getElem_toArray, List.getElem_cons_zero, List.getElem_cons_succ, Act.put, List.setIfInBounds_toArray, List.set_cons_zero, List.set_cons_succ]
  refine wpAnyL_done (by kernel_rfl) (OnlyN.normal ?_) _
  have d4 := (y4.set (.slice p6 (wiL ex pb.2.2).length c6)).cell
  have hBf := (hR'.out.trans (hHeld.1.out.mono hR'.out.size)).setCell (p := ⟨w.heap.size + 1, 0, none⟩) (by simp) (.slice p6 (wiL ex pb.2.2).length c6)
  clear f4 e4 hHeld
  go_wp2
  refine bodyPost_ret (v := .agg #[.slice p6 (wiL ex pb.2.2).length c6]) ?_ rfl ⟨_, rfl, hv6.setR y4 _, hBf⟩
  simp [results, Tryd.results66, go_sem, d4]

set_option linter.unusedSimpArgs false in
set_option maxRecDepth 100000 in
set_option maxHeartbeats 2000000 in
theorem notLess_any {b : Sl} {vE vB : Value} (n : Int) {w : World} (hE : HC w vE b.ex) (hB : HR w vB b.bits) (hs : SmallB b) (hc : IsCol b) (hn : -9223372036854775808 ≤ n ∧ n ≤ 9223372036854775807) (hT : Tab w) :
    Calls Tryd.prog 68 #[.agg #[.int .i64 b.n, .int .i64 b.least, vE, vB], .int .i64 n] w fun e W' => ∃ v, e = .returned (.agg #[v]) ∧ HC W' v (wiL b.ex (partB b n).1) ∧ Below w.heap.size w W' := by
  obtain ⟨pE, cE, rfl, -, -⟩ := Hid.out hE
  obtain ⟨pB, cB, rfl, -, -⟩ := Hid.out hB
  obtain ⟨pb, hpb⟩ : ∃ pb, partB b n = pb := ⟨_, rfl⟩
  have hsp : Hid (Small pb.1) := by rw [← hpb]; exact small_right (partB_spec hc n).r1
  rw [hpb]
  have hpb' := Lib.hid hpb
  clear hpb
  have b0 := (SBox.new w 83 b.n b.least (.slice pE b.ex.length cE) (.slice pB b.bits.length cB)).alloc (.cells #[.slice none 0 0] 28)
  have r0 := RBox.new (w.alloc (.cells #[.int .i64 b.n, .int .i64 b.least, .slice pE b.ex.length cE, .slice pB b.bits.length cB] 83)) (.slice none 0 0)
  have hR : Below w.heap.size w ((w.alloc (.cells #[.int .i64 b.n, .int .i64 b.least, .slice pE b.ex.length cE, .slice pB b.bits.length cB] 83)).alloc (.cells #[.slice none 0 0] 28)) := ((Below.refl w.heap.size w).alloc (Nat.le_refl _) _).alloc (by simp) _
  simp only [World.size_alloc] at r0
  go_enter Tryd.func68, Tryd.ntmps68
  go_wp2
  generalize (w.alloc (.cells #[.int .i64 b.n, .int .i64 b.least, .slice pE b.ex.length cE, .slice pB b.bits.length cB] 83)).alloc (.cells #[.slice none 0 0] 28) = W0 at *
  have hE0 := hE.later hR
  have hB0 := hB.later hR
  have hT0 := hT.below hR hT.lt
  have k1 : Hid (∀ W', Below W0.heap.size W0 W' → Calls Tryd.prog 65 #[.agg #[.int .i64 b.n, .int .i64 b.least, .slice pE b.ex.length cE, .slice pB b.bits.length cB], .int .i64 n] W' fun e W'' => ∃ v, e = .returned (.agg #[v]) ∧ HC W'' v pb.1 ∧ Below W'.heap.size W' W'') := fun W' h => by have := less_any n (hE0.later h) (hB0.later h) hs hc hn (hT0.below h hT0.lt); rwa [hpb'.out] at this
  have k2 : Hid (∀ W' v, Below W0.heap.size W0 W' → HC W' v pb.1 → Calls Tryd.prog 94 #[.agg #[.slice pE b.ex.length cE], .agg #[v]] W' fun e W'' => ∃ v', e = .returned (.agg #[v']) ∧ HC W'' v' (wiL b.ex pb.1) ∧ Below W'.heap.size W' W'') := fun W' v h hv => without_any (hE0.later h) hv hs.ex hsp.out (hT0.below h hT0.lt)
  have hMd : (fun W' : World => Hid (Below W0.heap.size W0 W') ∧ Hid (SBox W' 83 w.heap.size b.n b.least (.slice pE b.ex.length cE) (.slice pB b.bits.length cB)) ∧ W'.cell? ⟨w.heap.size, 0, none⟩ = some (.int .i64 b.n) ∧ W'.cell? ⟨w.heap.size, 1, none⟩ = some (.int .i64 b.least) ∧ W'.cell? ⟨w.heap.size, 2, none⟩ = some (.slice pE b.ex.length cE) ∧ W'.cell? ⟨w.heap.size, 3, none⟩ = some (.slice pB b.bits.length cB)) W0.drew := col_keep' (w := W0) (W := W0) (Below.refl _ W0).drew (Lib.hid (Below.refl _ _)) (Lib.hid b0)
  have r0' := Lib.hid r0
  have hR' := Lib.hid hR
  clear b0 hE hB hs hT hc hn hE0 hB0 hT0 hsp r0 hR hpb'
  obtain ⟨N, least, ex, bs⟩ := b
  dsimp only at *
  generalize hxl : ex.length = lE at *
  generalize hbl : bs.length = lB at *
  clear hxl hbl
  refine region_late (S := (fun W' : World => Hid (Below W0.heap.size W0 W') ∧ Hid (SBox W' 83 w.heap.size N least (.slice pE lE cE) (.slice pB lB cB)) ∧ W'.cell? ⟨w.heap.size, 0, none⟩ = some (.int .i64 N) ∧ W'.cell? ⟨w.heap.size, 1, none⟩ = some (.int .i64 least) ∧ W'.cell? ⟨w.heap.size, 2, none⟩ = some (.slice pE lE cE) ∧ W'.cell? ⟨w.heap.size, 3, none⟩ = some (.slice pB lB cB))) (fun n => n == 7) (by kernel_rfl) hMd (fun hHeld => ?_)
  clear hMd
  generalize World.drew W0 = Wd at *
  refine wpAnyL_take (i := 0) (oi := { dst := some 5, op := _, type := _, pos := _, after := _, guard := _ }) (v := ?v11) rfl (by kernel_rfl) (by kernel_rfl) (by kernel_rfl) (by kernel_rfl) (fun _ _ _ h => h) (Or.inl ⟨by kernel_rfl, ?y11⟩) hHeld ?r11
  case y11 =>
    intro w hSw
    try dsimp only at hSw
    try simp only [List.getElem_toArray, List.getElem_cons_zero, List.getElem_cons_succ]
    go_simp
    try with_reducible rfl
  try simp only [List.getElem_toArray, List.getElem_cons_zero, List.getElem_cons_succ, Act.put, List.setIfInBounds_toArray, List.set_cons_zero, List.set_cons_succ]
  refine wpAnyL_take (i := 1) (oi := { dst := some 6, op := _, type := _, pos := _, after := _, guard := _ }) (v := ?v12) rfl (by kernel_rfl) (by kernel_rfl) (by kernel_rfl) (by kernel_rfl) (fun _ _ _ h => h) (Or.inl ⟨by kernel_rfl, ?y12⟩) hHeld ?r12
  case y12 =>
    intro w hSw
    try dsimp only at hSw
    try simp only [List.getElem_toArray, List.getElem_cons_zero, List.getElem_cons_succ]
    go_simp
    try with_reducible rfl
  try simp only [List.getElem_toArray, List.getElem_cons_zero, List.getElem_cons_succ, Act.put, List.setIfInBounds_toArray, List.set_cons_zero, List.set_cons_succ]
  refine wpAnyL_take (i := 2) (oi := { dst := some 7, op := _, type := _, pos := _, after := _, guard := _ }) (v := ?v13) rfl (by kernel_rfl) (by kernel_rfl) (by kernel_rfl) (by kernel_rfl) (fun _ _ _ h => h) (Or.inl ⟨by kernel_rfl, ?y13⟩) hHeld ?r13
  case y13 =>
    intro w hSw
    try dsimp only at hSw
    try simp only [List.getElem_toArray, List.getElem_cons_zero, List.getElem_cons_succ]
    go_simp
    try with_reducible rfl
  try simp only [List.getElem_toArray, List.getElem_cons_zero, List.getElem_cons_succ, Act.put, List.setIfInBounds_toArray, List.set_cons_zero, List.set_cons_succ]
  refine wpAnyL_take (i := 3) (oi := { dst := some 8, op := _, type := _, pos := _, after := _, guard := _ }) (v := ?v14) rfl (by kernel_rfl) (by kernel_rfl) (by kernel_rfl) (by kernel_rfl) (fun _ _ _ h => h) (Or.inl ⟨by kernel_rfl, ?y14⟩) hHeld ?r14
  case y14 =>
    intro w hSw
    try dsimp only at hSw
    try simp only [List.getElem_toArray, List.getElem_cons_zero, List.getElem_cons_succ]
    go_simp
    try with_reducible rfl
  try simp only [List.getElem_toArray, List.getElem_cons_zero, List.getElem_cons_succ, Act.put, List.setIfInBounds_toArray, List.set_cons_zero, List.set_cons_succ]
  refine wpAnyL_take (i := 4) (oi := { dst := some 9, op := _, type := _, pos := _, after := _, guard := _ }) (v := ?v15) rfl (by kernel_rfl) (by kernel_rfl) (by kernel_rfl) (by kernel_rfl) (fun _ _ _ h => h) (Or.inl ⟨by kernel_rfl, ?y15⟩) hHeld ?r15
  case y15 =>
    intro w hSw
    try dsimp only at hSw
    try simp only [List.getElem_toArray, List.getElem_cons_zero, List.getElem_cons_succ]
    go_simp
    try with_reducible rfl
  try simp only [List.getElem_toArray, List.getElem_cons_zero, List.getElem_cons_succ, Act.put, List.setIfInBounds_toArray, List.set_cons_zero, List.set_cons_succ]
  refine wpAnyL_one (i := 5) (by kernel_rfl) rfl (fun K hK => ?_)
  try simp only [List.getElem_toArray, List.getElem_cons_zero, List.getElem_cons_succ]
  go_simp
  go_at_call 65
  refine (k1.out _ hHeld.1.out).mono ?_
  rintro e Wn5 ⟨v5, rfl, hv5, hbn⟩
  have hnew := Lib.hid (col_keep' hbn hHeld.1 hHeld.2.1)
  refine hK.out _ _ (fun _ => hnew.out) ?_
  have hHeld' := hnew.out
  clear hHeld hnew hK K hbn
  have hHeld := hHeld'
  clear hHeld'
  try simp only [List.getElem_toArray, List.getElem_cons_zero, List.getElem_cons_succ, Act.put, List.setIfInBounds_toArray, List.set_cons_zero, List.set_cons_succ]
  refine wpAnyL_one (i := 6) (by kernel_rfl) rfl (fun K hK => ?_)
  try simp only [List.getElem_toArray, List.getElem_cons_zero, List.getElem_cons_succ]
  go_simp
  go_at_call 94
  refine (k2.out _ _ hHeld.1.out hv5).mono ?_
  rintro e Wn6 ⟨v6, rfl, hv6, hbn⟩
  obtain ⟨p6, c6, rfl, -, -⟩ := Hid.out hv6
  have hnew := Lib.hid (col_keep' hbn hHeld.1 hHeld.2.1)
  refine hK.out _ _ (fun _ => hnew.out) ?_
  have hHeld' := hnew.out
  clear hHeld hnew hK K hbn
  have hHeld := hHeld'
  clear hHeld'
  try simp only [List.getElem_toArray, List.getElem_cons_zero, List.getElem_cons_succ, Act.put, List.setIfInBounds_toArray, List.set_cons_zero, List.set_cons_succ]
  refine wpAnyL_one (i := 7) (by kernel_rfl) rfl (fun K hK => ?_)
  have y4 := r0'.out.later hHeld.1.out
  have f4 := y4.frozen
  have e4 := y4.cell
  try simp only [List.getElem_toArray, List.getElem_cons_zero, List.getElem_cons_succ]
  go_simp
  refine hK.out _ _ (fun h => by cases h) ?_
  clear hK K
  try simp only [List.getElem_toArray, List.getElem_cons_zero, List.getElem_cons_succ, Act.put, List.setIfInBounds_toArray, List.set_cons_zero, List.set_cons_succ]
  refine wpAnyL_done (by kernel_rfl) (OnlyN.normal ?_) _
  have d4 := (y4.set (.slice p6 (wiL ex pb.1).length c6)).cell
  have hBf := (hR'.out.trans (hHeld.1.out.mono hR'.out.size)).setCell (p := ⟨w.heap.size + 1, 0, none⟩) (by simp) (.slice p6 (wiL ex pb.1).length c6)
  clear f4 e4 hHeld
  go_wp2
  refine bodyPost_ret (v := .agg #[.slice p6 (wiL ex pb.1).length c6]) ?_ rfl ⟨_, rfl, hv6.setR y4 _, hBf⟩
  simp [results, Tryd.results68, go_sem, d4]

end Go.Proofs.YtnigpmbpipmgfaaDoor
