/-
  Frame7, Frame9: several texts in one (merge.py).
-/
import Derived.Test.YtnigpmbpipmgfaaDoorRows
import Derived.ProofKit
import Derived.OpenShut
import Derived.LaidMore
import Derived.Deep.DeepHandedRow
import Derived.Lib.LaidTab
import Derived.Test.YtnigpmbpipmgfaaDoorBIter
import Derived.Test.YtnigpmbpipmgfaaDoorBsU
import Derived.Deep.Grids

/-
  What every row of this seat needs: the table's premise; the witness's world; a slice of ints opened.
-/
namespace Go.Proofs.YtnigpmbpipmgfaaDoor
open Go.ChangeShapes Go.WideShapes Go.ChangeAt Go.RowKit Tess

theorem own : ownKnob Tryd.prog.godebug = none := by kernel_rfl
theorem laidOut : laidOutB Tryd.prog = true := by kernel_rfl
theorem gTab : Tryd.prog.globalNamed "math/bits.deBruijn64tab" = some 0 := by kernel_rfl
theorem gTabType : (Tryd.prog.globals[0]?).map (·.type) = some 154 := by kernel_rfl
theorem cellsTab : Tryd.prog.cellsOf 154 = 64 := by kernel_rfl
theorem cellsU8 : Tryd.prog.cellsOf 5 = 1 := by kernel_rfl
/-- The one variable that the rows list. -/
def oneLaid : List (String × DataW Unit) := [("math/bits.deBruijn64tab", Rows.laid_math_bits_deBruijn64tab)]
/-- WHAT THE ROW's LIST GIVES. -/
theorem tab_of_laid {W : World} (h : laidMetH Tryd.prog oneLaid W) : Tab W := by
  intro j hj
  have h1 := (Lib.tabIs_of_head (rest := []) (zs := Lib.deBruijn64tab.map Int.ofNat) gTab gTabType Tryd.underlying154 Tryd.underlying5 cellsU8 cellsTab h).cell gTab j (by simpa using hj)
  rw [h1]
  simp [List.getD, hj]

/-- A slice of ints that came in, as the walks want it. -/
theorem ints_open {H : Type} {enc : TypeId × Value → H} {W : World} {a0 : Option Addr} {len0 cap0 : Nat} {d0 : DataW H} {p0 : List MemPlace}
    (h0 : DataW.Trod enc Tryd.prog W 0 (fun _ => true) true 24 (.slice a0 len0 cap0) d0 p0) :
    (∃ zs, Ints W.heap.size W (.slice a0 len0 cap0) zs ∧ ∀ z ∈ zs, (Lit.int .i64 z).wf = true) ∧ ∀ p n c, Value.slice a0 len0 cap0 = .slice p n c → n ≤ c ∧ c ≤ maxLen := by
  obtain ⟨fuel, hf⟩ := h0
  rcases open_ints Tryd.underlying24 Tryd.underlying3 (by kernel_rfl) hf with ⟨hcs, _⟩ | ⟨x, l, c, zs, hcs, _, hl, hm, hz, _, hcell, hwz⟩
  · simp [Value.cells] at hcs
    obtain ⟨rfl, rfl, rfl⟩ := hcs
    refine ⟨⟨[], .inl ⟨⟨_, rfl⟩, rfl⟩, by simp⟩, ?_⟩
    intro p n c e; cases e; exact ⟨Nat.le_refl _, Nat.zero_le _⟩
  · simp [Value.cells] at hcs
    obtain ⟨rfl, rfl, rfl⟩ := hcs
    have hz' : zs.length = cap0 := by simpa using hz
    refine ⟨⟨zs.take len0, ?_, fun z hz => hwz z (List.mem_of_mem_take hz)⟩, fun p n c e => by cases e; exact ⟨hl, hm⟩⟩
    have hlen : (zs.take len0).length = len0 := by rw [List.length_take]; omega
    by_cases h0 : len0 = 0 ∧ cap0 = 0
    · left
      obtain ⟨rfl, rfl⟩ := h0
      exact ⟨⟨_, rfl⟩, by simp⟩
    · right
      have h1 : W.cell? (x.add 0) = some (.int .i64 (zs.getD 0 0)) := hcell 0 (by omega)
      have hsp : x.spot = none := World.cell?_spot (by simpa [Addr.add] using h1)
      obtain ⟨b, off, sp⟩ := x
      obtain rfl : sp = none := hsp
      refine ⟨b, off, cap0, by rw [hlen], World.block_lt_of_cell? W _ (by simpa [Addr.add] using h1), fun j hj => ?_⟩
      rw [hlen] at hj
      have h2 := hcell j (by omega)
      have e : ((⟨b, off, none⟩ : Addr).add j) = ⟨b, off + j, none⟩ := by
        cases j <;> simp [Addr.add]
      rw [e] at h2
      rw [h2, List.getElem?_take_of_lt hj]
      rfl

/-- The world of the witnesses: the variables as start-up lays them. -/
theorem door_met (os : Os) (args : Array Value) : laidMet Tryd.prog oneLaid ((World.doorLaid Tryd.prog 400 os).forCall (fun _ _ => 0) ⟨#[], args, []⟩).memory :=
  laidMet_of_run' 8 (by kernel_rfl) (by kernel_rfl)
theorem top_of {n : Int} (h : (Lit.int .i64 n).wf = true) : n ≤ 9223372036854775807 := by
  simp only [Lit.wf, Bool.and_eq_true, decide_eq_true_eq] at h
  have e : IntKind.i64.max = 9223372036854775807 := by decide +kernel
  have := h.2
  rw [e] at this
  exact this
theorem bot_of {n : Int} (h : (Lit.int .i64 n).wf = true) : -9223372036854775808 ≤ n := by
  simp only [Lit.wf, Bool.and_eq_true, decide_eq_true_eq] at h
  have e : IntKind.i64.min = -9223372036854775808 := by decide +kernel
  have := h.1
  rw [e] at this
  exact this
end Go.Proofs.YtnigpmbpipmgfaaDoor

/-
  What the rows of the seat Bsi need besides: slices of ints of any such type, of truths.
-/
namespace Go.Proofs.YtnigpmbpipmgfaaDoor
open Go.ChangeShapes Go.WideShapes Go.ChangeAt Go.RowKit Tess

theorem add_flat (b off j : Nat) : ((⟨b, off, none⟩ : Addr).add j) = ⟨b, off + j, none⟩ := by cases j <;> simp [Addr.add]
theorem ints_full {H : Type} {enc : TypeId × Value → H} {W : World} {t e : TypeId} (ht : Tryd.prog.underlying t = some (.slice e)) (he : Tryd.prog.underlying e = some (.int .i64)) (hc : Tryd.prog.cellsOf e = 1) {a0 : Option Addr} {len0 cap0 : Nat} {d0 : DataW H} {p0 : List MemPlace}
    (h0 : DataW.Trod enc Tryd.prog W 0 (fun _ => true) true t (.slice a0 len0 cap0) d0 p0) :
    ∃ zs, len0 = zs.length ∧ Ints W.heap.size W (.slice a0 zs.length cap0) zs ∧ (∀ z ∈ zs, (Lit.int .i64 z).wf = true) ∧ zs.length ≤ cap0 ∧ (a0 = none → zs.length = 0 ∧ cap0 = 0) := by
  obtain ⟨fuel, hf⟩ := h0
  rcases open_ints ht he hc hf with ⟨hcs, _⟩ | ⟨x, l, c, zs, hcs, _, hl, hm, hz, _, hcell, hwz⟩
  · simp [Value.cells] at hcs
    obtain ⟨rfl, rfl, rfl⟩ := hcs
    exact ⟨[], rfl, .inl ⟨⟨_, rfl⟩, rfl⟩, by simp, Nat.le_refl _, fun _ => ⟨rfl, rfl⟩⟩
  · simp [Value.cells] at hcs
    obtain ⟨rfl, rfl, rfl⟩ := hcs
    have hz' : zs.length = cap0 := by simpa using hz
    have hlen : (zs.take len0).length = len0 := by rw [List.length_take]; omega
    refine ⟨zs.take len0, hlen.symm, ?_, fun z hz => hwz z (List.mem_of_mem_take hz), by omega, fun h => by cases h⟩
    by_cases h0 : len0 = 0 ∧ cap0 = 0
    · left
      obtain ⟨rfl, rfl⟩ := h0
      exact ⟨⟨_, rfl⟩, by simp⟩
    · right
      have h1 : W.cell? (x.add 0) = some (.int .i64 (zs.getD 0 0)) := hcell 0 (by omega)
      have hsp : x.spot = none := World.cell?_spot (by simpa [Addr.add] using h1)
      obtain ⟨b, off, sp⟩ := x
      obtain rfl : sp = none := hsp
      refine ⟨b, off, cap0, rfl, World.block_lt_of_cell? W _ (by simpa [Addr.add] using h1), fun j hj => ?_⟩
      rw [hlen] at hj
      have h2 := hcell j (by omega)
      rw [add_flat] at h2
      rw [h2, List.getElem?_take_of_lt hj]
      rfl
theorem bools_full {H : Type} {enc : TypeId × Value → H} {W : World} {t e : TypeId} (ht : Tryd.prog.underlying t = some (.slice e)) (he : Tryd.prog.underlying e = some .bool) (hc : Tryd.prog.cellsOf e = 1) {a0 : Option Addr} {len0 cap0 : Nat} {d0 : DataW H} {p0 : List MemPlace}
    (h0 : DataW.Trod enc Tryd.prog W 0 (fun _ => true) true t (.slice a0 len0 cap0) d0 p0) :
    ∃ hs, len0 = hs.length ∧ BoolsAt W.heap.size W (.slice a0 hs.length cap0) hs ∧ hs.length ≤ cap0 ∧ (a0 = none → hs.length = 0 ∧ cap0 = 0) := by
  obtain ⟨fuel, hf⟩ := h0
  rcases Go.Deep.open_bools ht he hc hf with ⟨hcs, _⟩ | ⟨x, l, c, B, hcs, _, hl, hm, _, hcell⟩
  · simp [Value.cells] at hcs
    obtain ⟨rfl, rfl, rfl⟩ := hcs
    exact ⟨[], rfl, ⟨_, _, rfl, fun j hj => by simp at hj⟩, Nat.le_refl _, fun _ => ⟨rfl, rfl⟩⟩
  · simp [Value.cells] at hcs
    obtain ⟨rfl, rfl, rfl⟩ := hcs
    have hlen : ((List.range len0).map B).length = len0 := by simp
    refine ⟨(List.range len0).map B, hlen.symm, ⟨_, _, rfl, fun j hj => ?_⟩, by omega, fun h => by cases h⟩
    rw [hlen] at hj
    have h1 : W.cell? (x.add 0) = some (.bool (B 0)) := hcell 0 (by omega)
    have hsp : x.spot = none := World.cell?_spot (by simpa [Addr.add] using h1)
    obtain ⟨b, off, sp⟩ := x
    obtain rfl : sp = none := hsp
    refine ⟨b, off, rfl, World.block_lt_of_cell? W _ (by simpa [Addr.add] using h1), ?_⟩
    have h2 := hcell j (by omega)
    rw [add_flat] at h2
    rw [h2]
    simp [hj]
theorem rg_of {zs : List Int} (h : ∀ z ∈ zs, (Lit.int .i64 z).wf = true) : ∀ i, -9223372036854775808 ≤ vI zs i ∧ vI zs i ≤ 9223372036854775807 := by
  intro i
  unfold vI
  by_cases hi : i < zs.length
  · rw [List.getElem?_eq_getElem hi]
    have := h _ (List.getElem_mem hi)
    exact ⟨bot_of this, top_of this⟩
  · rw [List.getElem?_eq_none (by omega)]
    exact ⟨by decide, by decide⟩
end Go.Proofs.YtnigpmbpipmgfaaDoor
