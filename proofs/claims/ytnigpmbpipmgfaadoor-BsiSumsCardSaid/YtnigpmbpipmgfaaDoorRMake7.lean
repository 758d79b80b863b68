/-
  The reference's Make of a bitmap.
-/
import Derived.Test.YtnigpmbpipmgfaaDoorRefM
namespace Go.Proofs.YtnigpmbpipmgfaaDoor
open Go.RowKit Tess

/-- Is the number n among these? -/
def memB (zs : List Int) (n : Nat) : Bool := zs.any fun z => z == (n : Int)
theorem memB_nil (n : Nat) : memB [] n = false := rfl
theorem memB_step {zs : List Int} {k : Nat} (h : k < zs.length) (n : Nat) : memB (zs.take (k + 1)) n = (memB (zs.take k) n || (zs[k]?.getD 0 == (n : Int))) := by
  unfold memB
  rw [List.take_succ_eq_append_getElem h, List.any_append]; simp [h]
theorem mkSet_bit (zs : List Int) (i : Nat) : (mkSet zs).testBit i = decide (i ∈ zs.map Int.toNat) := by
  unfold mkSet
  rw [testBit_putAll, Nat.zero_testBit, Bool.false_or]
theorem ofB_mem {zs : List Int} (h : zs.any badR = false) : ofB (memB zs) = canon (mkM zs) := by
  unfold ofB
  refine canon_congr fun k hk => set_bits (setB_lt _ k) (mkM_lt zs k) fun i hi => ?_
  rw [setB_bit hi]
  unfold mkM
  rw [mkSet_bit]
  have hgood : ∀ z ∈ zs, 0 ≤ z ∧ z ≤ 65535 := fun z hz => by
    have := List.any_eq_false.1 h z hz
    unfold badR at this
    simp at this
    exact this
  have key : memB zs (256 * k + i) = true ↔ i ∈ (G zs k).map Int.toNat := by
    unfold memB G
    rw [List.any_eq_true, List.map_map, List.mem_map]
    constructor
    · rintro ⟨z, hz, he⟩
      have he' : z = ((256 * k + i : Nat) : Int) := by simpa using he
      refine ⟨z, List.mem_filter.2 ⟨hz, by simp; omega⟩, ?_⟩
      simp only [Function.comp]
      omega
    · rintro ⟨z, hz, he⟩
      obtain ⟨h1, h2⟩ := List.mem_filter.1 hz
      have h3 : z / 256 = (k : Int) := by simpa using h2
      have h4 := hgood z h1
      simp only [Function.comp] at he
      exact ⟨z, h1, by simp; omega⟩
  cases hb : memB zs (256 * k + i)
  · exact (decide_eq_false fun hm => by have := key.2 hm; rw [hb] at this; cases this).symm
  · exact (decide_eq_true (key.1 hb)).symm

/-- What lies in memory while Make works. -/
structure MkAt7 (w W : World) (B : Nat → Bool) : Prop where
  res : RBox W w.heap.size (.slice none 0 0)
  bo : Bo W (w.heap.size + 1) B
  below : Below w.heap.size w W
theorem MkAt7.later {w wr W : World} {B : Nat → Bool} (h : MkAt7 w wr B) (hb : Below wr.heap.size wr W) : MkAt7 w W B :=
  ⟨h.res.later hb, h.bo.later hb, h.below.trans (hb.mono h.below.size)⟩
theorem MkAt7.start (w : World) : MkAt7 w ((w.alloc (.cells #[.slice none 0 0] 28)).alloc (.cells (madeCells #[.bool false] 65536) 4)) (fun _ => false) := by
  have h2 := Bo.new (w.alloc (.cells #[.slice none 0 0] 28))
  rw [World.size_alloc] at h2
  exact ⟨(RBox.new w _).alloc _, h2, ((Below.refl _ w).alloc (Nat.le_refl _) _).alloc (by simp) _⟩
theorem MkAt7.congr {w wr : World} {B B' : Nat → Bool} (h : MkAt7 w wr B) (hB : ∀ n, n < 65536 → B n = B' n) : MkAt7 w wr B' := ⟨h.res, h.bo.congr hB, h.below⟩
theorem MkAt7.put {w wr : World} {B : Nat → Bool} (h : MkAt7 w wr B) {i : Nat} (hi : i < 65536) (u : Bool) : MkAt7 w (wr.setCell ⟨w.heap.size + 1, i, none⟩ (.bool u)) (fun j => if j = i then u else B j) :=
  ⟨h.res.far (by show w.heap.size ≠ w.heap.size + 1; omega) _, h.bo.set hi u, h.below.setCell (p := ⟨w.heap.size + 1, i, none⟩) (by show w.heap.size ≤ w.heap.size + 1; omega) _⟩

set_option maxRecDepth 100000 in
set_option maxHeartbeats 8000000 in
theorem rmake7_fr {zs : List Int} {sv : Value} {w : World} (h : Ints w.heap.size w sv zs) (hl : zs.length ≤ 1000000) :
    Calls Tryd.prog 54 #[sv] w fun e W' => ∃ v', e = .returned (.tuple #[.agg #[v'], .int .i64 (mkL zs).2]) ∧ HC W' v' (mkL zs).1 ∧ Below w.heap.size w W' ∧ Fr w.heap.size v' := by
  have hmk := mkBools
  have hA0 := Lib.hid (MkAt7.start w)
  obtain ⟨p, cap, rfl, hcell⟩ := h.slice
  have hc := Lib.hid hcell
  clear h hcell
  go_enter Tryd.func54, Tryd.ntmps54
  go_wp2
  go_loopw [5] (fun i wr => ∃ k : Nat, k ≤ zs.length ∧ i = .int .i64 k ∧ Hid ((zs.take k).any badR = false) ∧ Hid (MkAt7 w wr (memB (zs.take k))))
    (fun i _ => zs.length - (intOf i).toNat)
  case atStart => exact ⟨0, Nat.zero_le _, rfl, by show _ = _; simp, Lib.hid (hA0.out.congr fun n _ => (memB_nil n).symm)⟩
  case round =>
    obtain ⟨k, hk, rfl, hgood, hM⟩ := hrel
    clear hA0
    have rc := hM.out.res.cell
    have rf := hM.out.res.frozen
    by_cases hlt : k < zs.length
    · obtain ⟨b1, o1, rfl, hb1, hx1⟩ := hc.out k hlt
      have hy1 := (hM.out.below.cell (p := ⟨b1, o1 + k, none⟩) hb1).trans hx1
      have hkd : decide (k < zs.length) = true := by simpa using hlt
      have hk0 : (0 : Int) ≤ (k : Int) := by omega
      have hk1 : (k : Int) < (zs.length : Int) := by omega
      have hbs := Lib.hid (badR_step hlt)
      have hms := Lib.hid (fun n => memB_step hlt n)
      have hin : Hid (badR (zs[k]?.getD 0) = true → zs.any badR = true) := by
        show _ → _
        intro h
        exact List.any_eq_true.2 ⟨zs[k], List.getElem_mem hlt, by simpa [hlt] using h⟩
      clear hx1
      generalize zs[k]?.getD 0 = z at hy1 hbs hms hin
      by_cases h1 : z < 0
      · have g1 : decide (z < 0) = true := decide_eq_true h1
        have hre := Lib.hid (mkL_bad (hin.out (by unfold badR; rw [g1]; rfl)))
        go_wp2
        have hrs := (hM.out.res.set (.slice none 0 0)).cell
        refine bodyPost_ret (v := .tuple #[.agg #[.slice none 0 0], .int .i64 70]) ?_ rfl ⟨_, by rw [hre.out], by rw [hre.out]; exact HC.nil _ _ _, hM.out.below.setCell (p := ⟨w.heap.size, 0, none⟩) (Nat.le_refl _) _, fun g hg => by cases hg⟩
        simp [results, Tryd.results54, go_sem, hrs]
      · have g1 : decide (z < 0) = false := decide_eq_false h1
        by_cases h2 : 65535 < z
        · have g2 : decide (65535 < z) = true := decide_eq_true h2
          have hre := Lib.hid (mkL_bad (hin.out (by unfold badR; rw [g1, g2]; rfl)))
          go_wp2
          have hrs := (hM.out.res.set (.slice none 0 0)).cell
          refine bodyPost_ret (v := .tuple #[.agg #[.slice none 0 0], .int .i64 70]) ?_ rfl ⟨_, by rw [hre.out], by rw [hre.out]; exact HC.nil _ _ _, hM.out.below.setCell (p := ⟨w.heap.size, 0, none⟩) (Nat.le_refl _) _, fun g hg => by cases hg⟩
          simp [results, Tryd.results54, go_sem, hrs]
        · obtain ⟨m, rfl⟩ : ∃ m : Nat, z = m := ⟨z.toNat, by omega⟩
          have g2 : decide (65535 < (m : Int)) = false := decide_eq_false h2
          have g1' : decide ((m : Int) < 0) = false := g1
          have hm : m < 65536 := by omega
          have hm' := Lib.hid hm
          have hm0 : (0 : Int) ≤ (m : Int) := by omega
          have hm1 : (m : Int) < 65536 := by omega
          have hb' : Hid ((zs.take (k + 1)).any badR = false) := by
            show _ = _
            rw [hbs.out, hgood.out]; unfold badR; simp; omega
          have hct := hM.out.bo.cell hm
          have hft := hM.out.bo.frozen m
          have hput : Hid (MkAt7 w (wr.setCell ⟨w.heap.size + 1, m, none⟩ (.bool true)) (memB (zs.take (k + 1)))) := Lib.hid ((hM.out.put hm true).congr fun n _ => by
            show (if n = m then true else memB (zs.take k) n) = _
            rw [hms.out]
            by_cases e : n = m
            · subst e; rw [if_pos rfl]; simp
            · rw [if_neg e]
              have : ((m : Int) == (n : Int)) = false := by simp; omega
              rw [this, Bool.or_false])
          clear hbs hin g1 hms
          go_wp2
          go_roundw
          case rel => exact ⟨k + 1, by omega, by go_num, hb', hput⟩
          case measure => simp [intOf]; omega
    · have hkd : decide (k < zs.length) = false := by simpa using hlt
      have htk : zs.take k = zs := List.take_of_length_le (by omega)
      rw [htk] at hgood hM
      have hre := Lib.hid (mkL_good hgood.out)
      have hof := Lib.hid (ofB_mem hgood.out)
      have hkb := Lib.hid (rof_fr hM.out.bo)
      clear htk
      go_wp2_with fail
      refine (hkb.out).mono ?_
      rintro e W3 ⟨v3, rfl, hv3, hb3, hfr⟩
      obtain ⟨p3, c3, rfl, -, -⟩ := Hid.out hv3
      have hM3 := Lib.hid (hM.out.later hb3)
      have rc3 := hM3.out.res.cell
      have rf3 := hM3.out.res.frozen
      clear hkb hb3 rc rf
      go_wp2
      have hrs := (hM3.out.res.set (.slice p3 (ofB (memB zs)).length c3)).cell
      refine bodyPost_ret (v := .tuple #[.agg #[.slice p3 (ofB (memB zs)).length c3], .int .i64 0]) ?_ rfl ⟨_, by rw [hre.out], by rw [hre.out, ← hof.out]; exact hv3.setR hM3.out.res _, hM3.out.below.setCell (p := ⟨w.heap.size, 0, none⟩) (Nat.le_refl _) _, fun g hg => Nat.le_trans hM.out.below.size (hfr g hg)⟩
      simp [results, Tryd.results54, go_sem, hrs]
theorem rmake7_any {zs : List Int} {sv : Value} {w : World} (h : Ints w.heap.size w sv zs) (hl : zs.length ≤ 1000000) :
    Calls Tryd.prog 54 #[sv] w fun e W' => ∃ v', e = .returned (.tuple #[.agg #[v'], .int .i64 (mkL zs).2]) ∧ HC W' v' (mkL zs).1 ∧ Below w.heap.size w W' :=
  (rmake7_fr h hl).mono fun _ _ ⟨v, h1, h2, h3, _⟩ => ⟨v, h1, h2, h3⟩
end Go.Proofs.YtnigpmbpipmgfaaDoor
