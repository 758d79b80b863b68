/-
  roar's Op. (Printed by genop7.py out of XOp7.in.)
-/
import Derived.ScopeJumps
import Derived.Deep.RegionHeld3
import Derived.Test.YtnigpmbpipmgfaaDoorAtB
namespace Go.Proofs.YtnigpmbpipmgfaaDoor
open Go.RowKit Go.MapKept Tess

/-- What Op answers: the chunks, and the fault. -/
def opL (op : Int) (la lb : List Ch) : List Ch × Int :=
  if (rightL la && rightL lb) = true ∧ 1 ≤ op ∧ op ≤ 4 then (canon (fun k => opOf op (setAt la k) (setAt lb k)), 0) else ([], 70)
theorem opL_no {op : Int} {la lb : List Ch} (h : (rightL la && rightL lb) = false ∨ ¬ (1 ≤ op ∧ op ≤ 4)) : opL op la lb = ([], 70) := by
  unfold opL
  rw [if_neg]
  rintro ⟨h1, h2⟩
  rcases h with h | h
  · rw [h1] at h; cases h
  · exact h h2
theorem opL_yes {op : Int} {la lb : List Ch} (h : (rightL la && rightL lb) = true) (h2 : 1 ≤ op ∧ op ≤ 4) : opL op la lb = (canon (fun k => opOf op (setAt la k) (setAt lb k)), 0) := by
  unfold opL; rw [if_pos ⟨h, h2⟩]
/-- The containers of the first n keys. -/
def upF (M : Nat → Nat) (n : Nat) : Nat → Option (Int × ByteArray) := fun j => if j < n then some ((best (M j)).form, bs (best (M j)).data) else none
theorem upF_put (M : Nat → Nat) (n : Nat) : putF (upF M n) n ((best (M n)).form, bs (best (M n)).data) = upF M (n + 1) := by
  funext j
  unfold putF upF
  by_cases h : j = n
  · subst h; simp
  · rw [if_neg h]
    by_cases h2 : j < n
    · rw [if_pos h2, if_pos (by omega)]
    · rw [if_neg h2, if_neg (by omega)]
theorem upF_at (M : Nat → Nat) (n : Nat) : upF M n n = none := by unfold upF; rw [if_neg (by omega)]
theorem upF_zero (M : Nat → Nat) : upF M 0 = fun _ => none := by funext j; unfold upF; rw [if_neg (by omega)]
theorem upF_size (M : Nat → Nat) (n : Nat) : ∀ k p, upF M n k = some p → p.2.size ≤ 1000000 := by
  intro k p h
  unfold upF at h
  split at h
  · cases h
    show (bs (best (M k)).data).size ≤ _
    rw [bs_size]; exact Nat.le_trans (best_length_le _) (by decide)
  · cases h
theorem ofTo_up {M : Nat → Nat} (hM : ∀ k, k < 256 → M k < big) : ofTo (upF M 256) 256 = canon M :=
  ofTo_canon hM fun k hk => .inl (by unfold upF; rw [if_pos hk])

/-- What lies in memory while Op works: the two bitmaps, the result. -/
structure Op7At (w W : World) (va vb : Value) (la lb : List Ch) : Prop where
  fst : RBox W w.heap.size va
  snd : RBox W (w.heap.size + 1) vb
  res : RBox W (w.heap.size + 2) (.slice none 0 0)
  ha : HC W va la
  hb : HC W vb lb
  below : Below w.heap.size w W
theorem Op7At.later {w wr W : World} {va vb : Value} {la lb : List Ch} (h : Op7At w wr va vb la lb) (hb : Below wr.heap.size wr W) : Op7At w W va vb la lb :=
  ⟨h.fst.later hb, h.snd.later hb, h.res.later hb, h.ha.later hb, h.hb.later hb, h.below.trans (hb.mono h.below.size)⟩
theorem Op7At.alloc {w wr : World} {va vb : Value} {la lb : List Ch} (h : Op7At w wr va vb la lb) (o : Obj) : Op7At w (wr.alloc o) va vb la lb := h.later ((Below.refl _ wr).alloc (Nat.le_refl _) _)
theorem Op7At.drew {w wr : World} {va vb : Value} {la lb : List Ch} (h : Op7At w wr va vb la lb) : Op7At w wr.drew va vb la lb := h.later (Below.refl _ wr).drew
theorem Op7At.start {w : World} {va vb : Value} {la lb : List Ch} (ha : HC w va la) (hb : HC w vb lb) : Op7At w (((w.alloc (.cells #[va] 28)).alloc (.cells #[vb] 28)).alloc (.cells #[.slice none 0 0] 28)) va vb la lb := by
  have h2 := RBox.new (w.alloc (.cells #[va] 28)) vb
  have h3 := RBox.new ((w.alloc (.cells #[va] 28)).alloc (.cells #[vb] 28)) (.slice none 0 0)
  rw [World.size_alloc] at h2
  rw [World.size_alloc, World.size_alloc] at h3
  exact ⟨((RBox.new w _).alloc _).alloc _, h2.alloc _, h3, ((ha.alloc _).alloc _).alloc _, ((hb.alloc _).alloc _).alloc _, (((Below.refl _ w).alloc (Nat.le_refl _) _).alloc (by simp) _).alloc (by simp; omega) _⟩
theorem HC.putObj {n₀ : Nat} {W : World} {v : Value} {l : List Ch} (h : HC W v l) {r : Nat} {es : Array MapEntry} {c : Nat} (hr : W.heap[r]? = some (.map es c)) (_hn : n₀ ≤ r) (o : Obj) : HC (W.putObj r o) v l := by
  obtain ⟨p, cap, hv, hc, hh⟩ := Hid.out h
  refine Lib.hid ⟨p, cap, hv, hc, fun j hj => ?_⟩
  obtain ⟨b, off, hp, hb1, h1, h2, h3⟩ := hh j hj
  have hne : b ≠ r := by
    rintro rfl
    simp [World.cell?, hr] at h1
  have hg := grown_putObj W r o
  have hsz : (W.putObj r o).heap.size = W.heap.size := by simp [World.putObj]
  exact ⟨b, off, hp, by rw [hsz]; exact hb1, (hg.cell h1 (by simpa using hne)), (hg.cell h2 (by simpa using hne)), (hg.cell h3 (by simpa using hne))⟩
theorem Op7At.putObj {w W : World} {va vb : Value} {la lb : List Ch} (h : Op7At w W va vb la lb) {r : Nat} {F : Nat → Option (Int × ByteArray)} (hm : MapC W r F) (hr : w.heap.size + 3 ≤ r) (o : Obj) : Op7At w (W.putObj r o) va vb la lb := by
  obtain ⟨es, c, hr1, -⟩ := hm
  have hg := grown_putObj W r o
  exact ⟨h.fst.grown hg (by simp; omega), h.snd.grown hg (by simp; omega), h.res.grown hg (by simp; omega), h.ha.putObj hr1 hr o, h.hb.putObj hr1 hr o, below_putObj h.below (by omega) o⟩

theorem at_k {l : List Ch} {v : Value} {key : Int} {f : Int} {D : ByteArray} (hq : Hid (atC l key = (f, D))) {w : World} (h : HC w v l) (hl : l.length ≤ 4611686018427387904) :
    Calls Tryd.prog 46 #[.agg #[v], .int .i64 key] w fun e W' => e = .returned (.agg #[.int .i64 f, .string D]) ∧ Below w.heap.size w W' := by
  have := at_any key h hl
  rw [hq.out] at this
  exact this

/-- What is kept while a round's calls are made: all that lay there when the round began. -/
def RoundS (w wr : World) (va vb : Value) (W : World) : Prop := Hid (Below wr.heap.size wr W) ∧ W.cell? ⟨w.heap.size, 0, none⟩ = some va ∧ W.cell? ⟨w.heap.size + 1, 0, none⟩ = some vb
theorem keepOp {w wr W W' : World} {va vb : Value} {la lb : List Ch} (hA : Hid (Op7At w wr va vb la lb)) (s : Hid (Below wr.heap.size wr W)) (hb : Below W.heap.size W W') :
    Hid (Below wr.heap.size wr W') ∧ W'.cell? ⟨w.heap.size, 0, none⟩ = some va ∧ W'.cell? ⟨w.heap.size + 1, 0, none⟩ = some vb := by
  have h := s.out.trans (hb.mono s.out.size)
  have h2 := hA.out.later h
  exact ⟨Lib.hid h, h2.fst.cell, h2.snd.cell⟩
/-- A variable that the round has made, its container not yet laid in. -/
structure FBox (n₀ : Nat) (W : World) (b : Nat) : Prop where
  box : CBox W b 0 ⟨#[]⟩
  le : n₀ ≤ b
theorem FBox.new {wr W W' : World} (s : Hid (Below wr.heap.size wr W)) (hb : Below (W.alloc (.cells #[.int .i64 0, .string ⟨#[]⟩] 75)).heap.size (W.alloc (.cells #[.int .i64 0, .string ⟨#[]⟩] 75)) W') : FBox wr.heap.size W' W.heap.size :=
  ⟨(CBox.new W 0 ⟨#[]⟩).later hb, s.out.size⟩
theorem FBox.drawn {wr W' : World} (hb : Below (wr.alloc (.cells #[.int .i64 0, .string ⟨#[]⟩] 75)).drew.heap.size (wr.alloc (.cells #[.int .i64 0, .string ⟨#[]⟩] 75)).drew W') : FBox wr.heap.size W' wr.heap.size :=
  ⟨CBox.later (W := (wr.alloc (.cells #[.int .i64 0, .string ⟨#[]⟩] 75)).drew) (CBox.new wr 0 ⟨#[]⟩) hb, Nat.le_refl _⟩
theorem FBox.later {n₀ b : Nat} {W W' : World} (h : FBox n₀ W b) (hb : Below W.heap.size W W') : FBox n₀ W' b := ⟨h.box.later hb, h.le⟩
theorem keepSet {w wr W : World} {va vb : Value} {la lb : List Ch} {b : Nat} (hA : Hid (Op7At w wr va vb la lb)) (s : Hid (Below wr.heap.size wr W)) (hf : Hid (FBox wr.heap.size W b)) (x y : Value) :
    Hid (Below wr.heap.size wr ((W.setCell ⟨b, 0, none⟩ x).setCell ⟨b, 1, none⟩ y)) ∧ ((W.setCell ⟨b, 0, none⟩ x).setCell ⟨b, 1, none⟩ y).cell? ⟨w.heap.size, 0, none⟩ = some va ∧ ((W.setCell ⟨b, 0, none⟩ x).setCell ⟨b, 1, none⟩ y).cell? ⟨w.heap.size + 1, 0, none⟩ = some vb := by
  have h : Below wr.heap.size wr ((W.setCell ⟨b, 0, none⟩ x).setCell ⟨b, 1, none⟩ y) := (s.out.setCell (p := ⟨b, 0, none⟩) hf.out.le x).setCell (p := ⟨b, 1, none⟩) hf.out.le y
  have h2 := hA.out.later h
  exact ⟨Lib.hid h, h2.fst.cell, h2.snd.cell⟩
theorem keepAlloc {w wr W : World} {va vb : Value} {la lb : List Ch} (hA : Hid (Op7At w wr va vb la lb)) (s : Hid (Below wr.heap.size wr W)) (o : Obj) :
    Hid (Below wr.heap.size wr (W.alloc o)) ∧ (W.alloc o).cell? ⟨w.heap.size, 0, none⟩ = some va ∧ (W.alloc o).cell? ⟨w.heap.size + 1, 0, none⟩ = some vb := keepOp hA s ((Below.refl _ W).alloc (Nat.le_refl _) o)

set_option maxRecDepth 100000 in
set_option maxHeartbeats 16000000 in
theorem op7_any (op : Int) {la lb : List Ch} {va vb : Value} {w : World} (h1 : HC w va la) (h2 : HC w vb lb) (hs1 : Small la) (hs2 : Small lb) (hT : Tab w) :
    Calls Tryd.prog 33 #[.int .i64 op, .agg #[va], .agg #[vb]] w fun e W' => ∃ v, e = .returned (.tuple #[.agg #[v], .int .i64 (opL op la lb).2]) ∧ HC W' v (opL op la lb).1 ∧ Below w.heap.size w W' := by
  have hmm := @run_makeMap Tryd.prog
  have hA0 := Lib.hid (Op7At.start h1 h2)
  have hs1' := Lib.hid hs1
  have hs2' := Lib.hid hs2
  have hT' := Lib.hid hT
  clear h1 h2 hs1 hs2 hT
  obtain ⟨w0, hw0⟩ : ∃ w0, w0 = (((w.alloc (.cells #[va] 28)).alloc (.cells #[vb] 28)).alloc (.cells #[.slice none 0 0] 28)) := ⟨_, rfl⟩
  have hsz0 : w0.heap.size = w.heap.size + 3 := by rw [hw0]; simp
  rw [← hw0] at hA0
  have hMm := MapC.made w0
  have hA1 := hA0.out.alloc (.map #[] 0)
  have hA2 := Lib.hid (hA1.alloc (.cells #[va, vb] 28))
  have hM2 := Lib.hid (hMm.alloc (.cells #[va, vb] 28))
  have hr0 := heap_alloc_new (w0.alloc (.map #[] 0)) (.cells #[va, vb] 28)
  have hia := isAll2 (b := (w0.alloc (.map #[] 0)).heap.size) (w := (w0.alloc (.map #[] 0)).alloc (.cells #[va, vb] 28)) (by simp) (by rw [cell_of_row _ _ 0 _ _ (0, 0) hr0]; rfl) (by rw [cell_of_row _ _ 1 _ _ (0, 0) hr0]; rfl) hA2.out.ha hA2.out.hb hs1'.out hs2'.out (hT'.out.below hA2.out.below hT'.out.lt)
  rw [World.size_alloc] at hia
  have hia' := Lib.hid hia
  have hca := hA1.fst.cell
  have hcb := hA1.snd.cell
  have hsz0' := Lib.hid hsz0
  clear hA0 hA1 hMm hia hr0 hsz0
  go_enter Tryd.func33, Tryd.ntmps33
  go_wp2
  rw [← hw0]
  clear hw0
  refine wp_scope_jumps 0 (fun a' w' => Hid (Op7At w w' va vb la lb) ∧ Hid (opL op la lb = ([], 70)) ∧ ∃ u0 u1 u2 u3 u4 u5 u7 u8 u9 u10 u11 u12 u13 u14 u15 u16 u17 u18 u19 u20 u21 u22 u23 u24 u25 u26 u27 u28 u29 u30 u31 u32 u33 u34 u35 u36 u37 u38 u39 u40 : Value, a' = { tmps := #[u0, u1, u2, u3, u4, u5, .pointer (some ⟨w.heap.size + 2, 0, none⟩), u7, u8, u9, u10, u11, u12, u13, u14, u15, u16, u17, u18, u19, u20, u21, u22, u23, u24, u25, u26, u27, u28, u29, u30, u31, u32, u33, u34, u35, u36, u37, u38, u39, u40], defers := [] }) (fun _ _ => 0) rfl ?first ?pass
  case pass =>
    clear hA2 hM2 hia' hca hcb
    rintro a' w' ⟨hM, hop, u0, u1, u2, u3, u4, u5, u7, u8, u9, u10, u11, u12, u13, u14, u15, u16, u17, u18, u19, u20, u21, u22, u23, u24, u25, u26, u27, u28, u29, u30, u31, u32, u33, u34, u35, u36, u37, u38, u39, u40, rfl⟩
    have rc := hM.out.res.cell
    have rf := hM.out.res.frozen
    dsimp only
    go_wp2
    simp only [Exit.jump]
    have hrs := (hM.out.res.set (.slice none 0 0)).cell
    refine bodyPost_ret (v := .tuple #[.agg #[.slice none 0 0], .int .i64 70]) ?_ rfl ⟨_, by rw [hop.out], by rw [hop.out]; exact HC.nil _ _ _, hM.out.below.setCell (p := ⟨w.heap.size + 2, 0, none⟩) (Nat.le_add_right _ _) _⟩
    simp [results, Tryd.results33, go_sem, hrs]
  case first =>
    go_wp2_with fail
    refine (hia'.out).mono ?_
    rintro e W1 ⟨rfl, hb1⟩
    have hA3 := Lib.hid (hA2.out.later hb1)
    have hM3 := Lib.hid (hM2.out.later hb1)
    clear hA2 hM2 hia' hb1 hca hcb hmm
    cases hrr : (rightL la && rightL lb) with
    | false =>
      have hno := Lib.hid (opL_no (op := op) (.inl hrr))
      clear hrr
      go_wp2
      go_step3
      exact ⟨rfl, hA3, hno, _, _, _, _, _, _, _, _, _, _, _, _, _, _, _, _, _, _, _, _, _, _, _, _, _, _, _, _, _, _, _, _, _, _, _, _, _, _, _, _, rfl⟩
    | true =>
      have hra : Hid (rightL la = true) := by show _ = _; simp only [Bool.and_eq_true] at hrr; exact hrr.1
      have hrb : Hid (rightL lb = true) := by show _ = _; simp only [Bool.and_eq_true] at hrr; exact hrr.2
      by_cases hop : 1 ≤ op ∧ op ≤ 4
      · have hyes := Lib.hid (opL_yes hrr hop)
        have hop' := Lib.hid hop
        clear hrr hop
        have hMb : Hid (∀ k, k < 256 → opOf op (setAt la k) (setAt lb k) < big) := fun k _ => opOf_lt (setAt_lt _ _) (setAt_lt _ _)
        have hstep : Hid (∀ k : Nat, opRes op (atC la k).1 (atC la k).2 (atC lb k).1 (atC lb k).2 = (best (opOf op (setAt la k) (setAt lb k)), 0)) := fun k => by
          have e1 := atC_ok hra.out k
          have e2 := atC_ok hrb.out k
          rw [opRes_yes (by rw [e1]) (by rw [e2]) hop'.out, e1, e2]
        obtain ⟨M, hMdef⟩ : ∃ M : Nat → Nat, (fun k => opOf op (setAt la k) (setAt lb k)) = M := ⟨_, rfl⟩
        have hMk : Hid (∀ k : Nat, opRes op (atC la k).1 (atC la k).2 (atC lb k).1 (atC lb k).2 = (best (M k), 0)) := fun k => by rw [hstep.out, ← hMdef]
        have hMb' : Hid (∀ k, k < 256 → M k < big) := fun k hk => by rw [← hMdef]; exact hMb.out k hk
        rw [hMdef] at hyes
        clear hMb hstep hMdef
        have hM4 : Hid (MapC W1 w0.heap.size (upF M 0)) := by rw [upF_zero]; exact hM3
        clear hM3
        go_wp2
        go_loopw [18] (fun i wr => ∃ (k : Nat), k ≤ 256 ∧ i = .int .i64 k ∧ Hid (Op7At w wr va vb la lb) ∧ Hid (MapC wr w0.heap.size (upF M k)))
          (fun i _ => 256 - (intOf i).toNat)
        case atStart => exact ⟨0, Nat.zero_le _, rfl, hA3, hM4⟩
        case round =>
          obtain ⟨k, hk, rfl, hA, hMp⟩ := hrel
          clear hA3 hM4
          by_cases hlt : k < 256
          · have hkd : decide ((k : Int) < 256) = true := by simp; omega
            obtain ⟨pa, hpa⟩ : ∃ p, atC la k = p := ⟨_, rfl⟩
            obtain ⟨pb, hpb⟩ : ∃ p, atC lb k = p := ⟨_, rfl⟩
            obtain ⟨fa, Da⟩ := pa
            obtain ⟨fb, Db⟩ := pb
            have hDa : Da.size ≤ 1000000 := by have := atC_size hs1'.out.2 k; rw [hpa] at this; exact this
            have hDb : Db.size ≤ 1000000 := by have := atC_size hs2'.out.2 k; rw [hpb] at this; exact this
            have hres := hMk.out k
            rw [hpa, hpb] at hres
            have qa := Lib.hid hpa
            have qb := Lib.hid hpb
            have hres' := Lib.hid hres
            have hput := Lib.hid (upF_put M k)
            have hl1 : Hid (la.length ≤ 4611686018427387904) := hs1'.out.1
            have hl2 : Hid (lb.length ≤ 4611686018427387904) := hs2'.out.1
            have hat := Lib.hid (upF_at M k)
            clear hpa hpb hres
            generalize best (M k) = c at hres' hput
            have hB0 := hA.out.below
            have ca := hA.out.fst.cell
            have cb := hA.out.snd.cell
            have hop7 : Hid (∀ W, Tab W → Calls Tryd.prog 70 #[.int .i64 op, .agg #[.int .i64 fa, .string Da], .agg #[.int .i64 fb, .string Db]] W fun e W' => e = .returned (.tuple #[.agg #[.int .i64 c.form, .string (bs c.data)], .int .i64 0]) ∧ Below W.heap.size W W') := by
              intro W hTW
              have := Op_any op fa Da fb Db W hDa hDb hTW
              rw [hres'.out] at this
              exact this
            have hS0 := keepOp hA (Lib.hid (Below.refl wr.heap.size wr)) (Below.refl wr.heap.size wr).drew
            clear hB0 hDa hDb
            go_wp2
            go_region_held3 (fun W' => Hid (Below wr.heap.size wr W') ∧ W'.cell? ⟨w.heap.size, 0, none⟩ = some va ∧ W'.cell? ⟨w.heap.size + 1, 0, none⟩ = some vb)
              (first | exact hS0 | assumption | exact keepAlloc hA (And.left (by assumption)) _ | exact keepSet hA (And.left (by assumption)) (by assumption) _ _)
              (first
                | (go_at_call 46
                   obtain ⟨s1, _⟩ : Hid (Below wr.heap.size wr _) ∧ _ ∧ _ := by assumption
                   first
                     | ((with_reducible refine (at_k qa (hA.out.later s1.out).ha hl1.out).mono ?_)
                        rintro e W5 ⟨rfl, hb5⟩
                        have hnew := keepOp hA s1 hb5
                        first
                          | (have hbx := Lib.hid (FBox.later (n₀ := wr.heap.size) (Hid.out (by assumption)) hb5); obtain ⟨d0, d1, f0, f1⟩ := blk2_cells hbx.out.box)
                          | (have hbx := Lib.hid (FBox.drawn (wr := wr) hb5); obtain ⟨d0, d1, f0, f1⟩ := blk2_cells hbx.out.box)
                          | (have hbx := Lib.hid (FBox.new (wr := wr) (And.left (by assumption)) hb5); obtain ⟨d0, d1, f0, f1⟩ := blk2_cells hbx.out.box)
                          | skip
                        clear hb5 s1)
                     | ((with_reducible refine (at_k qb (hA.out.later s1.out).hb hl2.out).mono ?_)
                        rintro e W5 ⟨rfl, hb5⟩
                        have hnew := keepOp hA s1 hb5
                        first
                          | (have hbx := Lib.hid (FBox.later (n₀ := wr.heap.size) (Hid.out (by assumption)) hb5); obtain ⟨d0, d1, f0, f1⟩ := blk2_cells hbx.out.box)
                          | (have hbx := Lib.hid (FBox.drawn (wr := wr) hb5); obtain ⟨d0, d1, f0, f1⟩ := blk2_cells hbx.out.box)
                          | (have hbx := Lib.hid (FBox.new (wr := wr) (And.left (by assumption)) hb5); obtain ⟨d0, d1, f0, f1⟩ := blk2_cells hbx.out.box)
                          | skip
                        clear hb5 s1))
                | (go_at_call 70
                   obtain ⟨s1, _⟩ : Hid (Below wr.heap.size wr _) ∧ _ ∧ _ := by assumption
                   refine (hop7.out _ (hT'.out.below (hA.out.later s1.out).below hT'.out.lt)).mono ?_
                   rintro e W5 ⟨rfl, hb5⟩
                   have hnew := keepOp hA s1 hb5
                   first
                     | (have hbx := Lib.hid (FBox.later (n₀ := wr.heap.size) (Hid.out (by assumption)) hb5); obtain ⟨d0, d1, f0, f1⟩ := blk2_cells hbx.out.box)
                     | (have hbx := Lib.hid (FBox.drawn (wr := wr) hb5); obtain ⟨d0, d1, f0, f1⟩ := blk2_cells hbx.out.box)
                     | (have hbx := Lib.hid (FBox.new (wr := wr) (And.left (by assumption)) hb5); obtain ⟨d0, d1, f0, f1⟩ := blk2_cells hbx.out.box)
                     | skip
                   clear hb5 s1))

            all_goals
              obtain ⟨hSr, -⟩ : Hid (Below wr.heap.size wr _) ∧ _ ∧ _ := by assumption
              have hmr := hMp.out.later hSr.out
              obtain ⟨o, hrun, hm2⟩ := hmr.insert Tryd.underlying73 Tryd.underlying3 c.form (bs c.data) hat.out
              have hA2 := Lib.hid ((hA.out.later hSr.out).putObj hmr (by rw [hsz0'.out]; exact Nat.le_refl _) o)
              have hm3 := Lib.hid hm2
              clear hmr hm2
              go_wp2
              go_roundw
              case rel => exact ⟨k + 1, by omega, by go_num, hA2, by rw [← hput.out]; exact hm3⟩
              case measure => simp [intOf]; omega
          · have hkd : decide ((k : Int) < 256) = false := by simp; omega
            obtain rfl : k = 256 := by omega
            have hof := Lib.hid (of7_any hMp.out (upF_size M 256) (hT'.out.below hA.out.below hT'.out.lt))
            rw [ofTo_up hMb'.out] at hof
            go_wp2_with fail
            refine (hof.out).mono ?_
            rintro e W2 ⟨v, rfl, hv, hb2⟩
            have hA2 := hA.out.later hb2
            have rc := hA2.res.cell
            have rf := hA2.res.frozen
            have hB2 := Lib.hid hA2.below
            obtain ⟨p, cap, rfl, -, -⟩ := Hid.out hv
            have hv2 := Lib.hid (hv.setR hA2.res (.slice p (canon M).length cap))
            have hrs := (hA2.res.set (.slice p (canon M).length cap)).cell
            clear hv hb2 hA2 hof
            go_wp2
            simp only [Exit.jump]
            refine bodyPost_ret (v := .tuple #[.agg #[.slice p (canon M).length cap], .int .i64 0]) ?_ rfl ⟨_, by rw [hyes.out], by rw [hyes.out]; exact hv2.out, hB2.out.setCell (p := ⟨w.heap.size + 2, 0, none⟩) (Nat.le_add_right _ _) _⟩
            simp [results, Tryd.results33, go_sem, hrs]
      · have hno := Lib.hid (opL_no (la := la) (lb := lb) (.inr hop))
        have hne : Hid (∀ k : Nat, opRes op (atC la k).1 (atC la k).2 (atC lb k).1 (atC lb k).2 = (⟨0, []⟩, 60)) := fun k => opRes_no (.inr (.inr hop))
        clear hrr hop
        go_wp2
        go_loopw [18] (fun i wr => i = .int .i64 0 ∧ Hid (Op7At w wr va vb la lb))
          (fun _ _ => 0)
        case atStart => exact ⟨rfl, hA3⟩
        case round =>
          obtain ⟨rfl, hA⟩ := hrel
          clear hA3 hM3
          obtain ⟨pa, hpa⟩ : ∃ p, atC la ((0 : Nat) : Int) = p := ⟨_, rfl⟩
          obtain ⟨pb, hpb⟩ : ∃ p, atC lb ((0 : Nat) : Int) = p := ⟨_, rfl⟩
          obtain ⟨fa, Da⟩ := pa
          obtain ⟨fb, Db⟩ := pb
          have hDa : Da.size ≤ 1000000 := by have := atC_size hs1'.out.2 ((0 : Nat) : Int); rw [hpa] at this; exact this
          have hDb : Db.size ≤ 1000000 := by have := atC_size hs2'.out.2 ((0 : Nat) : Int); rw [hpb] at this; exact this
          have hres := hne.out 0
          rw [hpa, hpb] at hres
          have qa : Hid (atC la 0 = (fa, Da)) := hpa
          have qb : Hid (atC lb 0 = (fb, Db)) := hpb
          have hres' := Lib.hid hres
          have hl1 : Hid (la.length ≤ 4611686018427387904) := hs1'.out.1
          have hl2 : Hid (lb.length ≤ 4611686018427387904) := hs2'.out.1
          clear hpa hpb hres
          have hop7 : Hid (∀ W, Tab W → Calls Tryd.prog 70 #[.int .i64 op, .agg #[.int .i64 fa, .string Da], .agg #[.int .i64 fb, .string Db]] W fun e W' => e = .returned (.tuple #[.agg #[.int .i64 0, .string (bs [])], .int .i64 60]) ∧ Below W.heap.size W W') := by
            intro W hTW
            have := Op_any op fa Da fb Db W hDa hDb hTW
            rw [hres'.out] at this
            exact this
          have hS0 := keepOp hA (Lib.hid (Below.refl wr.heap.size wr)) (Below.refl wr.heap.size wr).drew
          clear hDa hDb
          go_wp2
          go_region_held3 (fun W' => Hid (Below wr.heap.size wr W') ∧ W'.cell? ⟨w.heap.size, 0, none⟩ = some va ∧ W'.cell? ⟨w.heap.size + 1, 0, none⟩ = some vb)
            (first | exact hS0 | assumption | exact keepAlloc hA (And.left (by assumption)) _ | exact keepSet hA (And.left (by assumption)) (by assumption) _ _)
            (first
              | (go_at_call 46
                 obtain ⟨s1, _⟩ : Hid (Below wr.heap.size wr _) ∧ _ ∧ _ := by assumption
                 first
                   | ((with_reducible refine (at_k qa (hA.out.later s1.out).ha hl1.out).mono ?_)
                      rintro e W5 ⟨rfl, hb5⟩
                      have hnew := keepOp hA s1 hb5
                      first
                        | (have hbx := Lib.hid (FBox.later (n₀ := wr.heap.size) (Hid.out (by assumption)) hb5); obtain ⟨d0, d1, f0, f1⟩ := blk2_cells hbx.out.box)
                        | (have hbx := Lib.hid (FBox.drawn (wr := wr) hb5); obtain ⟨d0, d1, f0, f1⟩ := blk2_cells hbx.out.box)
                        | (have hbx := Lib.hid (FBox.new (wr := wr) (And.left (by assumption)) hb5); obtain ⟨d0, d1, f0, f1⟩ := blk2_cells hbx.out.box)
                        | skip
                      clear hb5 s1)
                   | ((with_reducible refine (at_k qb (hA.out.later s1.out).hb hl2.out).mono ?_)
                      rintro e W5 ⟨rfl, hb5⟩
                      have hnew := keepOp hA s1 hb5
                      first
                        | (have hbx := Lib.hid (FBox.later (n₀ := wr.heap.size) (Hid.out (by assumption)) hb5); obtain ⟨d0, d1, f0, f1⟩ := blk2_cells hbx.out.box)
                        | (have hbx := Lib.hid (FBox.drawn (wr := wr) hb5); obtain ⟨d0, d1, f0, f1⟩ := blk2_cells hbx.out.box)
                        | (have hbx := Lib.hid (FBox.new (wr := wr) (And.left (by assumption)) hb5); obtain ⟨d0, d1, f0, f1⟩ := blk2_cells hbx.out.box)
                        | skip
                      clear hb5 s1))
              | (go_at_call 70
                 obtain ⟨s1, _⟩ : Hid (Below wr.heap.size wr _) ∧ _ ∧ _ := by assumption
                 refine (hop7.out _ (hT'.out.below (hA.out.later s1.out).below hT'.out.lt)).mono ?_
                 rintro e W5 ⟨rfl, hb5⟩
                 have hnew := keepOp hA s1 hb5
                 first
                   | (have hbx := Lib.hid (FBox.later (n₀ := wr.heap.size) (Hid.out (by assumption)) hb5); obtain ⟨d0, d1, f0, f1⟩ := blk2_cells hbx.out.box)
                   | (have hbx := Lib.hid (FBox.drawn (wr := wr) hb5); obtain ⟨d0, d1, f0, f1⟩ := blk2_cells hbx.out.box)
                   | (have hbx := Lib.hid (FBox.new (wr := wr) (And.left (by assumption)) hb5); obtain ⟨d0, d1, f0, f1⟩ := blk2_cells hbx.out.box)
                   | skip
                 clear hb5 s1))

          all_goals
            obtain ⟨hSr, -⟩ : Hid (Below wr.heap.size wr _) ∧ _ ∧ _ := by assumption
            have hA2 := Lib.hid (hA.out.later hSr.out)
            go_wp2
            go_step3
            exact ⟨rfl, hA2, hno, _, _, _, _, _, _, _, _, _, _, _, _, _, _, _, _, _, _, _, _, _, _, _, _, _, _, _, _, _, _, _, _, _, _, _, _, _, _, _, _, rfl⟩
end Go.Proofs.YtnigpmbpipmgfaaDoor
