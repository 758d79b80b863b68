/-
  Groups, Make7: several texts in one (merge.py).
-/
import Derived.Maps.OwnRows
import Derived.Maps.RangeWalk
import Derived.Test.YtnigpmbpipmgfaaDoorFlip7

/-
  Numbers parted by their keys: the plain side of roar's Make.
-/
namespace Go.Proofs.YtnigpmbpipmgfaaDoor
open Go.RowKit Go.Maps Go.ChangeShapes Tess

theorem i64_and255 (n : Int) : bits .and .i64 n 255 = n % 256 := by
  have h255 : (BitVec.ofInt 64 255).toNat = 2 ^ 8 - 1 := by decide
  have key : (BitVec.ofInt 64 n &&& BitVec.ofInt 64 255).toNat = (n % ((2 ^ 64 : Nat) : Int)).toNat % 2 ^ 8 := by
    rw [BitVec.toNat_and, BitVec.toNat_ofInt, h255, Nat.and_two_pow_sub_one_eq_mod]
  show IntKind.i64.wrap ((BitVec.ofInt 64 n &&& BitVec.ofInt 64 255).toNat : Nat) = n % 256
  rw [key, IntKind.wrap_i64]
  omega

/-- The numbers of a key, their low bytes. -/
def G (l : List Int) (m : Int) : List Int := (l.filter fun z => z / 256 == m).map (· % 256)
theorem G_yes {l : List Int} {z m : Int} (h : z / 256 = m) : G (l ++ [z]) m = G l m ++ [z % 256] := by
  unfold G; rw [List.filter_append, List.map_append]; simp [h]
theorem G_no {l : List Int} {z m : Int} (h : z / 256 ≠ m) : G (l ++ [z]) m = G l m := by
  unfold G; rw [List.filter_append]; simp [h]
theorem G_range {l : List Int} {m : Int} : ∀ x ∈ G l m, 0 ≤ x ∧ x < 256 := by
  intro x hx
  obtain ⟨z, _, rfl⟩ := List.mem_map.1 hx
  omega
theorem G_len (l : List Int) (m : Int) : (G l m).length ≤ l.length := by
  unfold G; rw [List.length_map]; exact List.length_filter_le _ _
theorem G_good (l : List Int) (m : Int) : (G l m).any badI = false := by
  rw [List.any_eq_false]
  intro x hx
  have := G_range x hx
  unfold badI; simp; omega
theorem mkRes_G (l : List Int) (m : Int) : mkRes (G l m) = (best (mkSet (G l m)), 0) := by unfold mkRes; rw [G_good]; rfl
/-- Is a number out of range? -/
def badR (n : Int) : Bool := decide (n < 0) || decide (65535 < n)
/-- The sets of numbers. -/
def mkM (zs : List Int) (k : Nat) : Nat := mkSet (G zs k)
theorem mkM_lt (zs : List Int) (k : Nat) : mkM zs k < big := mkSet_lt (G_good zs k)
/-- What Make answers. -/
def mkL (zs : List Int) : List Ch × Int := if zs.any badR = true then ([], 70) else (canon (mkM zs), 0)
theorem mkL_bad {zs : List Int} (h : zs.any badR = true) : mkL zs = ([], 70) := by unfold mkL; rw [if_pos h]
theorem mkL_good {zs : List Int} (h : zs.any badR = false) : mkL zs = (canon (mkM zs), 0) := by unfold mkL; rw [h]; rfl
theorem badR_step {zs : List Int} {k : Nat} (h : k < zs.length) : (zs.take (k + 1)).any badR = ((zs.take k).any badR || badR (zs[k]?.getD 0)) := by
  rw [List.take_succ_eq_append_getElem h, List.any_append]; simp [h]

theorem lits_inj {H : Type} {a b : List Int} (h : lits (H := H) .i64 a = lits .i64 b) : a = b := (List.map_inj_right (fun x y hxy => by cases hxy; rfl)).1 h
/-- D HOLDS THE PARTS OF l. -/
structure GD (D : DataW Unit) (l : List Int) : Prop where
  isMap : IsMap D
  there : ∀ m : Int, Maps.has D (.int .i64 m) = true → D.atKey (.int .i64 m) .nil = .slice (lits .i64 (G l m)) [] ∧ 0 ≤ m ∧ m < 256
  none : ∀ m : Int, Maps.has D (.int .i64 m) = false → G l m = []
theorem GD.start : GD (.map []) [] := ⟨isMap_empty, fun m h => by simp [Maps.has] at h, fun m _ => rfl⟩
theorem isKey_int (m : Int) : WideAt.IsKeyLit (.int .i64 m) := by simp [WideAt.IsKeyLit]
/-- What a look-up has handed over. -/
theorem GD.at_ {D : DataW Unit} {l : List Int} (h : GD D l) {w : World} {base : Nat} {e : TypeId} {m : Int} {v : Value} {zs : List Int} (hat : D.atKey (.int .i64 m) .nil = rowDatum .i64 v zs) (hoi : w.ownsInts base e .i64 v zs) : zs = G l m := by
  cases hh : Maps.has D (.int .i64 m) with
  | true =>
    rw [(h.there m hh).1] at hat
    rcases hoi.datum (H := Unit) with ⟨h1, _⟩ | h1
    · rw [h1] at hat; cases hat
    · rw [h1] at hat
      simp only [DataW.slice.injEq] at hat
      exact (lits_inj hat.1).symm
  | false =>
    rw [h.none m hh]
    rw [atKey_of_not_has hh] at hat
    rcases hoi.datum (H := Unit) with ⟨_, h2⟩ | h1
    · exact h2
    · rw [h1] at hat; cases hat
theorem GD.step {D : DataW Unit} {l : List Int} (h : GD D l) {z : Int} (hz : 0 ≤ z ∧ z ≤ 65535) : GD (D.put (.int .i64 (z / 256)) (.slice (lits .i64 (G l (z / 256) ++ [z % 256])) [])) (l ++ [z]) := by
  refine ⟨h.isMap.put _ _, fun m hm => ?_, fun m hm => ?_⟩
  · by_cases he : z / 256 = m
    · subst he
      rw [atKey_put_same h.isMap (isKey_int _), G_yes rfl]
      exact ⟨rfl, by omega, by omega⟩
    · have hne : Lit.int .i64 m ≠ Lit.int .i64 (z / 256) := by intro e; simp at e; exact he e.symm
      rw [has_put_other hne] at hm
      rw [atKey_put_other hne, G_no he]
      exact h.there m hm
  · by_cases he : z / 256 = m
    · subst he
      rw [has_put_same h.isMap (isKey_int _)] at hm; cases hm
    · have hne : Lit.int .i64 m ≠ Lit.int .i64 (z / 256) := by intro e; simp at e; exact he e.symm
      rw [has_put_other hne] at hm
      rw [G_no he]
      exact h.none m hm

/-- The containers that have been made: of the keys that are there, and no longer to come. -/
def madeF (D : DataW Unit) (zs : List Int) (left : Lit → Bool) : Nat → Option (Int × ByteArray) := fun k =>
  if Maps.has D (.int .i64 (k : Int)) = true ∧ left (.int .i64 (k : Int)) = false then some ((best (mkM zs k)).form, bs (best (mkM zs k)).data) else none
theorem madeF_start (D : DataW Unit) (zs : List Int) : madeF D zs (Maps.has D) = fun _ => none := by
  funext k; unfold madeF; rw [if_neg]; rintro ⟨h1, h2⟩; rw [h1] at h2; cases h2
theorem madeF_at {D : DataW Unit} {zs : List Int} {left : Lit → Bool} {k : Nat} (h : left (.int .i64 (k : Int)) = true) : madeF D zs left k = none := by
  unfold madeF; rw [if_neg]; rintro ⟨_, h2⟩; rw [h] at h2; cases h2
theorem madeF_put {D : DataW Unit} {zs : List Int} {left : Lit → Bool} {k : Nat} (hh : Maps.has D (.int .i64 (k : Int)) = true) :
    putF (madeF D zs left) k ((best (mkM zs k)).form, bs (best (mkM zs k)).data) = madeF D zs (fun z => left z && !z.sameKey (.int .i64 (k : Int))) := by
  funext j
  unfold putF madeF
  by_cases h : j = k
  · subst h
    rw [if_pos rfl, if_pos]
    refine ⟨hh, ?_⟩
    have : (Lit.int .i64 (j : Int)).sameKey (.int .i64 (j : Int)) = true := WideAt.sameKey_self (isKey_int _)
    show (left _ && !(Lit.int .i64 (j : Int)).sameKey (.int .i64 (j : Int))) = false
    rw [this]; simp
  · rw [if_neg h]
    have hne : Lit.int .i64 (j : Int) ≠ Lit.int .i64 (k : Int) := by intro e; simp at e; omega
    have : (Lit.int .i64 (j : Int)).sameKey (.int .i64 (k : Int)) = false := sameKey_ne hne
    simp only [this, Bool.not_false, Bool.and_true]
theorem madeF_end {D : DataW Unit} {zs : List Int} (h : GD D zs) {left : Lit → Bool} (hl : ∀ kl, left kl = false) : ofTo (madeF D zs left) 256 = canon (mkM zs) := by
  refine ofTo_canon (fun k _ => mkM_lt zs k) fun k _ => ?_
  unfold madeF
  cases hh : Maps.has D (.int .i64 (k : Int)) with
  | true => left; rw [if_pos ⟨rfl, hl _⟩]
  | false =>
    right
    refine ⟨(by rw [if_neg]; rintro ⟨h1, _⟩; cases h1), ?_⟩
    unfold mkM
    rw [h.none _ hh]; rfl
theorem madeF_size (D : DataW Unit) (zs : List Int) (left : Lit → Bool) : ∀ k p, madeF D zs left k = some p → p.2.size ≤ 1000000 := by
  intro k p h
  unfold madeF at h
  split at h
  · cases h
    show (bs (best (mkM zs k)).data).size ≤ _
    rw [bs_size]; exact Nat.le_trans (best_length_le _) (by decide)
  · cases h
end Go.Proofs.YtnigpmbpipmgfaaDoor

/-
  roar's Make.
-/
namespace Go.Proofs.YtnigpmbpipmgfaaDoor
open Go.RowKit Go.MapKept Go.Maps Go.ChangeShapes Tess

theorem zero_ints (w : World) : (zeroValue 24).run Tryd.prog w = .ok (.slice none 0 0) w := by kernel_rfl
theorem int_law : Keyed Tryd.prog 3 := int_keyed Tryd.underlying3
theorem ints_one (x : Int) : ∀ u ∈ [Value.int .i64 x], u.oneCell' = true := by simp [Value.oneCell']

set_option maxRecDepth 100000 in
set_option maxHeartbeats 8000000 in
theorem make7_fr {zs : List Int} {sv : Value} {w : World} (h : Ints w.heap.size w sv zs) (hl : zs.length ≤ 1000000) (hT : Tab w) :
    Calls Tryd.prog 13 #[sv] w fun e W' => ∃ v', e = .returned (.tuple #[.agg #[v'], .int .i64 (mkL zs).2]) ∧ HC W' v' (mkL zs).1 ∧ Below w.heap.size w W' ∧ Fr w.heap.size v' := by
  have hmm := @run_makeMap Tryd.prog
  obtain ⟨i0, hi, hz0, hz1, hz2⟩ := info_parts info_int
  obtain ⟨p, cap, rfl, hcell⟩ : ∃ p cap, sv = .slice p zs.length cap ∧ ∀ j, j < zs.length → ∃ b off, p = some ⟨b, off, none⟩ ∧ b < w.heap.size ∧ w.cell? ⟨b, off + j, none⟩ = some (.int .i64 (zs[j]?.getD 0)) := by
    rcases h with ⟨⟨p, rfl⟩, rfl⟩ | ⟨b, off, cap, rfl, hb, hc⟩
    · exact ⟨p, 0, rfl, fun j hj => by simp at hj⟩
    · exact ⟨_, _, rfl, fun j hj => ⟨b, off, rfl, hb, hc j hj⟩⟩
  have hc := Lib.hid hcell
  clear h hcell
  have hG0 : Hid (World.ownsGroups (H := Unit) ((w.alloc (.cells #[.slice none 0 0] 28)).alloc (.map #[] 0)) Tryd.prog 3 (w.heap.size + 1 + 1) 3 .i64 (w.heap.size + 1) 0 (.map [])) := by
    have := World.ownsGroups_made (H := Unit) (w.alloc (.cells #[.slice none 0 0] 28)) Tryd.prog 3 3 .i64
    rw [World.size_alloc] at this; exact this
  have hB0 : Hid (Below w.heap.size w ((w.alloc (.cells #[.slice none 0 0] 28)).alloc (.map #[] 0))) := ((Below.refl _ w).alloc (Nat.le_refl _) _).alloc (by simp) _
  have hX0 : Hid (RBox ((w.alloc (.cells #[.slice none 0 0] 28)).alloc (.map #[] 0)) w.heap.size (.slice none 0 0)) := (RBox.new w _).alloc _
  go_enter Tryd.func13, Tryd.ntmps13
  go_wp2
  go_loopw [13] (fun i wr => ∃ (k : Nat) (D : DataW Unit), k ≤ zs.length ∧ i = .int .i64 k ∧ Hid (World.ownsGroups (H := Unit) wr Tryd.prog 3 (w.heap.size + 1 + 1) 3 .i64 (w.heap.size + 1) k D) ∧ Hid (GD D (zs.take k)) ∧ Hid ((zs.take k).any badR = false) ∧ Hid (Below w.heap.size w wr) ∧ Hid (RBox wr w.heap.size (.slice none 0 0)) ∧ w.heap.size + 1 + 1 ≤ wr.heap.size)
    (fun i _ => zs.length - (intOf i).toNat)
  case atStart => exact ⟨0, .map [], Nat.zero_le _, rfl, hG0, GD.start, by show _ = _; simp, hB0, hX0, by simp⟩
  case round =>
    obtain ⟨k, D, hk, rfl, hown, hgd, hgood, hB, hX, hws⟩ := hrel
    clear hG0 hB0 hX0
    by_cases hlt : k < zs.length
    · obtain ⟨b1, o1, rfl, hb1, hx1⟩ := hc.out k hlt
      have hy1 := (hB.out.cell (p := ⟨b1, o1 + k, none⟩) hb1).trans hx1
      have hkd : decide (k < zs.length) = true := by simpa using hlt
      have hk0 : (0 : Int) ≤ (k : Int) := by omega
      have hk1 : (k : Int) < (zs.length : Int) := by omega
      have hbs := Lib.hid (badR_step hlt)
      have htk : Hid (zs.take (k + 1) = zs.take k ++ [zs[k]?.getD 0]) := by
        show _ = _
        rw [List.take_succ_eq_append_getElem hlt]; simp [hlt]
      have hin : Hid (badR (zs[k]?.getD 0) = true → zs.any badR = true) := by
        show _ → _
        intro h
        exact List.any_eq_true.2 ⟨zs[k], List.getElem_mem hlt, by simpa [hlt] using h⟩
      clear hx1
      generalize zs[k]?.getD 0 = z at hy1 hbs htk hin
      have rc := hX.out.cell
      have rf := hX.out.frozen
      by_cases h1 : z < 0
      · have g1 : decide (z < 0) = true := decide_eq_true h1
        have hre := Lib.hid (mkL_bad (hin.out (by unfold badR; rw [g1]; rfl)))
        have hrs := (hX.out.set (.slice none 0 0)).cell
        clear hin hbs
        go_wp2
        refine bodyPost_ret (v := .tuple #[.agg #[.slice none 0 0], .int .i64 70]) ?_ rfl ⟨_, by rw [hre.out], by rw [hre.out]; exact HC.nil _ _ _, hB.out.setCell (p := ⟨w.heap.size, 0, none⟩) (Nat.le_refl _) _, fun g hg => by cases hg⟩
        simp [results, Tryd.results13, go_sem, hrs]
      · by_cases h2 : 65535 < z
        · have g1 : decide (z < 0) = false := decide_eq_false h1
          have g2 : decide (65535 < z) = true := decide_eq_true h2
          have hre := Lib.hid (mkL_bad (hin.out (by unfold badR; rw [g1, g2]; rfl)))
          have hrs := (hX.out.set (.slice none 0 0)).cell
          clear hin hbs
          go_wp2
          refine bodyPost_ret (v := .tuple #[.agg #[.slice none 0 0], .int .i64 70]) ?_ rfl ⟨_, by rw [hre.out], by rw [hre.out]; exact HC.nil _ _ _, hB.out.setCell (p := ⟨w.heap.size, 0, none⟩) (Nat.le_refl _) _, fun g hg => by cases hg⟩
          simp [results, Tryd.results13, go_sem, hrs]
        · have hz0' : 0 ≤ z := by omega
          have hz1' : z ≤ 65535 := by omega
          have g1 : decide (z < 0) = false := decide_eq_false h1
          have g2 : decide (65535 < z) = false := decide_eq_false h2
          have hb' : Hid ((zs.take (k + 1)).any badR = false) := by
            show _ = _
            rw [hbs.out, hgood.out]; unfold badR; rw [g1, g2]; rfl
          have hand := i64_and255 z
          clear hbs hin h1 h2
          have hown' := hown.out
          have hkey : keyOf Tryd.prog 3 (.int .i64 (z / 256)) = some (.int .i64 (z / 256)) := keyOf_int_mk Tryd.underlying3 (WalkArith.wf_i64 (by omega))
          have hkey' := Lib.hid hkey
          clear hkey
          go_wp2_with (first
            | (at_lookup; refine wpList_lookup_groups _ rfl _ _ 71 rfl 3 24 3 .i64 int_law Tryd.underlying71 (zero_ints _) (w.heap.size + 1 + 1) (w.heap.size + 1) k _ rfl hown' (by unfold maxLen; omega) (.int .i64 (z / 256)) (.int .i64 (z / 256)) rfl hkey'.out ?_; intro v ys hat hoi hzl hback)
            | (at_builtin; refine wpList_append_own_at _ rfl _ _ 24 rfl (w.heap.size + 1 + 1) 3 i0 (.int .i64 0) 1 8 Tryd.underlying24 hi hz0 hz1 hz2 rfl (by decide) _ _ _ rfl (hoi.1.alloc _) ⟨wr.heap.size, 0, none⟩ 1 1 [.int .i64 (z % 256)] rfl rfl (cell_one_new _ _ _) (ints_one _) (by unfold maxLen; omega) (by omega) (by simp; omega) ?_; intro v' w1 hown1 hgrow hnil hloc)
            | (at_mapUpdate; refine wpList_mapUpdate_back _ rfl _ _ _ 71 rfl hback rfl rfl rfl ((World.grownBy_alloc _ _ _).trans hgrow) (hoi.appended hown1 (WalkArith.wf_i64 (by omega))) (by simp; omega) (hloc.imp id (fun h => ⟨_, h, by simp⟩)) ?_; intro w2 hown2 hgrow2))
          have hzz := hgd.out.at_ hat hoi
          subst hzz
          have hall := (World.grownBy_alloc wr _ _).trans hgrow
          have hB2 := Lib.hid (hB.out.groups hoi hall hgrow2 hB.out.size (by omega) (by omega))
          have hlt1 := fun g hg => (hoi.1.lt g hg).1
          have hX2 := Lib.hid ((hX.out.grown hall (fun e => by have := hlt1 _ e.symm; omega)).grown hgrow2 (by simp))
          have hdat : Hid (rowDatum (H := Unit) .i64 v' (G (zs.take k) (z / 256) ++ [z % 256]) = .slice (lits .i64 (G (zs.take k) (z / 256) ++ [z % 256])) []) := (hoi.appended hown1 (WalkArith.wf_i64 (by omega))).datum_pos (by simp)
          have hgd2 := Lib.hid (hgd.out.step ⟨hz0', hz1'⟩)
          rw [← htk.out] at hgd2
          have hown3 : Hid (World.ownsGroups (H := Unit) w2 Tryd.prog 3 (w.heap.size + 1 + 1) 3 .i64 (w.heap.size + 1) (k + 1) (D.put (.int .i64 (z / 256)) (.slice (lits .i64 (G (zs.take k) (z / 256) ++ [z % 256])) []))) := by rw [← hdat.out]; exact hown2
          have hws2 : w.heap.size + 1 + 1 ≤ w2.heap.size := Nat.le_trans hws (Nat.le_trans hall.size hgrow2.size)
          clear hown2 hback hat hlt1 hdat hnil hloc hall hgrow hgrow2
          go_roundw
          case rel => exact ⟨k + 1, _, by omega, by go_num, hown3, hgd2, hb', hB2, hX2, hws2⟩
          case measure => simp [intOf]; omega
    · have hkd : decide (k < zs.length) = false := by simpa using hlt
      obtain rfl : k = zs.length := by omega
      rw [List.take_length] at hgd hgood
      have hre := Lib.hid (mkL_good hgood.out)
      have hmap0 : World.ownsMap wr Tryd.prog 3 (rowElem (H := Unit) wr (w.heap.size + 1 + 1) 3 .i64) (w.heap.size + 1) zs.length D := by
        obtain ⟨es, clock, hb, F, hs, hD, _⟩ := hown.out
        exact ⟨es, clock, hb, F, hs, hD⟩
      have hmap := hmap0.alloc (.map #[] 0)
      have hmap' := Lib.hid hmap0
      have hM0 : Hid (MapC (wr.alloc (.map #[] 0)) wr.heap.size (madeF D zs (Maps.has D))) := by rw [madeF_start]; exact MapC.made wr
      clear hmap0 hgood hlt hown hc hi hz0 hz1 hz2
      go_wp2_with (first
        | (at_range; refine wpList_range_own _ rfl _ 71 rfl 3 24 int_law Tryd.underlying71 _ (w.heap.size + 1) zs.length D rfl hmap ?_; intro w0 hrg0 hg0 hs0))
      go_frame
      have hbl : Hid (Below wr.heap.size wr w0) := by
        have h1 : Below wr.heap.size wr (wr.alloc (.map #[] 0)) := (Below.refl _ wr).alloc (Nat.le_refl _) _
        exact h1.trans ((⟨hg0.os, hg0.tape, hg0.output, hg0.size, fun k hk => hg0.block k (by simp; omega) (by simp)⟩ : Below wr.heap.size (wr.alloc (.map #[] 0)) w0))
      have hM1 := Lib.hid (hM0.out.grown hg0 (by simp))
      simp only [World.size_alloc] at hrg0 ⊢
      have hrg0' := Lib.hid hrg0
      have hlA : Hid (w.heap.size + 1 < wr.heap.size) := hmap'.out.lt
      have hgd' := hgd
      clear hrg0 hM0 hg0 hs0 hmap hgd hmm hkd hk
      obtain ⟨wo, rfl⟩ : ∃ wo : World, wo = wr := ⟨_, rfl⟩
      go_loopw [8] (fun _ wq => ∃ (left : Lit → Bool) (cnt : Nat), Hid (World.ranges wq Tryd.prog 3 (rowElem (H := Unit) wo (w.heap.size + 1 + 1) 3 .i64) (w.heap.size + 1) (wo.heap.size + 1) zs.length D left cnt) ∧ Hid (MapC wq wo.heap.size (madeF D zs left)) ∧ Hid (Below wo.heap.size wo wq))
        (fun _ wq => wq.rangeLeft (w.heap.size + 1) (wo.heap.size + 1))
      case atStart => exact ⟨_, _, hrg0', hM1, hbl⟩
      case round =>
        obtain ⟨left, cnt, hrg, hMq, hBq⟩ := hrel
        clear hrg0' hM1 hbl
        have hrg' := hrg.out
        go_wp2_with (first
          | (at_next; refine wpList_next_ranges _ rfl _ rfl 3 int_law _ (Value.int .i64) (fun v : Value => v) (fun key kl h => by obtain ⟨x, rfl, _⟩ := Maps.keyOf_int_inv Tryd.underlying3 h; exact ⟨x, rfl⟩) (fun v y _ => ⟨v, rfl⟩) (w.heap.size + 1) (wo.heap.size + 1) zs.length D left cnt rfl hrg' ?_ ?_))
        · intro _ hl0
          have hfin := Lib.hid (madeF_end hgd'.out hl0)
          have hBw := Lib.hid (hB.out.trans (hBq.out.mono hB.out.size))
          have hXw := Lib.hid (hX.out.later hBq.out)
          have hof := of7_fr hMq.out (madeF_size D zs left) (hT.below hBw.out hT.lt)
          rw [hfin.out] at hof
          have hof' := Lib.hid hof
          clear hof hl0 hrg' hrg hfin hMq hBq
          go_wp2_with fail
          refine (hof'.out).mono ?_
          rintro e W2 ⟨v', rfl, hv, hb2, hfr⟩
          have hX2 := hXw.out.later hb2
          have rc := hX2.cell
          have rf := hX2.frozen
          have hB2 := Lib.hid (hBw.out.trans (hb2.mono hBw.out.size))
          obtain ⟨p', cap', rfl, -, -⟩ := Hid.out hv
          have hv2 := Lib.hid (hv.setR hX2 (.slice p' (canon (mkM zs)).length cap'))
          have hrs := (hX2.set (.slice p' (canon (mkM zs)).length cap')).cell
          clear hv hb2 hX2 hof'
          go_wp2
          refine bodyPost_ret (v := .tuple #[.agg #[.slice p' (canon (mkM zs)).length cap'], .int .i64 0]) ?_ rfl ⟨_, by rw [hre.out], by rw [hre.out]; exact hv2.out, hB2.out.setCell (p := ⟨w.heap.size, 0, none⟩) (Nat.le_refl _) _, fun g hg => Nat.le_trans hBw.out.size (hfr g hg)⟩
          simp [results, Tryd.results13, go_sem, hrs]
        · intro x c kl ya yb w1 cnt1 hkl hlk hy hat hrg1 hlt1 hg1 hs1 hen
          obtain ⟨x', hx', rfl, -⟩ := Maps.keyOf_int_inv Tryd.underlying3 hkl
          obtain rfl : x = x' := by simpa using hx'
          obtain ⟨ys, hoi, hyy⟩ := rowElem_inv hy
          have hya : ya = rowDatum .i64 c ys := congrArg Prod.fst hyy
          have hyg := hgd'.out.at_ ((hat .nil).trans hya) hoi
          subst hyg
          have hhas := Maps.has_true_of_atKey (D := D) (k := .int .i64 x) hat
          obtain ⟨-, hx0, hx1⟩ := hgd'.out.there x hhas
          obtain ⟨m, rfl⟩ : ∃ m : Nat, x = m := ⟨x.toNat, by omega⟩
          have hb1 : Below wo.heap.size wo w1 := hBq.out.grown hg1 hBq.out.size (fun g hg => by cases hg; omega)
          have hI := ints_of_row (own_later hoi.1 hb1) rfl
          have hBw := Lib.hid (hB.out.trans (hb1.mono hB.out.size))
          have hk1 := make_any hI (by have := G_len zs m; omega) (hT.below hBw.out hT.lt)
          rw [mkRes_G] at hk1
          have hk1' := Lib.hid hk1
          have hM1 := Lib.hid (hMq.out.grown hg1 (by simp))
          have hat' := Lib.hid (madeF_at (D := D) (zs := zs) hlk)
          have hput := Lib.hid (madeF_put (D := D) (zs := zs) (left := left) hhas)
          have hrg1' := Lib.hid hrg1
          have hb1' := Lib.hid hb1
          have hle : Hid (wr.rangeLeft (w.heap.size + 1) (wo.heap.size + 1) = cnt) := hrg'.left_eq
          have hlt1' := Lib.hid hlt1
          change Hid (putF _ _ ((best (mkSet (G zs m))).form, bs (best (mkSet (G zs m))).data) = _) at hput
          generalize best (mkSet (G zs m)) = cc at hk1' hput
          clear hk1 hI hhas hx0 hx1 hoi hyy hy hat hrg1 hg1 hs1 hb1 hrg' hrg hMq hBq hlk hkl hx' hlt1
          go_wp2_with fail
          refine (hk1'.out).mono ?_
          rintro e W3 ⟨rfl, hb3⟩
          have hM3 := hM1.out.later hb3
          obtain ⟨o, hrun, hm2⟩ := hM3.insert Tryd.underlying73 Tryd.underlying3 cc.form (bs cc.data) hat'.out
          have hrg3 := Lib.hid ((hrg1'.out.kept (grown_of_below hb3) (by simp) (by simp)).kept (grown_putObj W3 wo.heap.size o) (by have := hlA.out; simp; omega) (by simp))
          have hm4 := Lib.hid hm2
          have hb4 := Lib.hid (below_putObj (hb1'.out.trans (hb3.mono hb1'.out.size)) (Nat.le_refl _) o)
          clear hM3 hm2 hk1' hM1 hrg1' hb3 hb1'
          simp only [cv]
          go_wp2
          go_roundw
          case rel => exact ⟨_, _, hrg3, by rw [← hput.out]; exact hm4, hb4⟩
          case measure => rw [hle.out, hrg3.out.left_eq]; exact hlt1'.out
theorem make7_any {zs : List Int} {sv : Value} {w : World} (h : Ints w.heap.size w sv zs) (hl : zs.length ≤ 1000000) (hT : Tab w) :
    Calls Tryd.prog 13 #[sv] w fun e W' => ∃ v', e = .returned (.tuple #[.agg #[v'], .int .i64 (mkL zs).2]) ∧ HC W' v' (mkL zs).1 ∧ Below w.heap.size w W' :=
  (make7_fr h hl hT).mono fun _ _ ⟨v, h1, h2, h3, _⟩ => ⟨v, h1, h2, h3⟩
end Go.Proofs.YtnigpmbpipmgfaaDoor
