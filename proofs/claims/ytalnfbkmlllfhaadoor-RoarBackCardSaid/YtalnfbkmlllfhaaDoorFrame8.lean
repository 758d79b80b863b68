/-
  What a row that lists the four errors gives: the table, two pairs of errors; the witness's world.
-/
import Derived.Test.YtalnfbkmlllfhaaDoorFrame7
import Derived.Test.YtalnfbkmlllfhaaDoorGetR
namespace Go.Proofs.YtalnfbkmlllfhaaDoor
open Go.ChangeShapes Go.WideShapes Go.ChangeAt Go.RowKit Tess

theorem gVMore : Tryd.prog.globalNamed "tesserae/varint.errMore" = some 2 := by kernel_rfl
theorem gVNone : Tryd.prog.globalNamed "tesserae/varint.errNone" = some 3 := by kernel_rfl
theorem gRMore : Tryd.prog.globalNamed "tesserae/roar.errMore" = some 1 := by kernel_rfl
theorem gRNone : Tryd.prog.globalNamed "tesserae/roar.errNone" = some 0 := by kernel_rfl
theorem gVMoreT : (Tryd.prog.globals[2]?).map (·.type) = some 89 := by kernel_rfl
theorem gVNoneT : (Tryd.prog.globals[3]?).map (·.type) = some 89 := by kernel_rfl
theorem gRMoreT : (Tryd.prog.globals[1]?).map (·.type) = some 89 := by kernel_rfl
theorem gRNoneT : (Tryd.prog.globals[0]?).map (·.type) = some 89 := by kernel_rfl
theorem cellsEs : Tryd.prog.cellsOf 198 = 1 := by kernel_rfl
theorem cellsStr : Tryd.prog.cellsOf 9 = 1 := by kernel_rfl
theorem starE : "*" ++ "errors.errorString" = "*errors.errorString" := by decide
theorem rowE (u : TypeId) (h : Tryd.prog.typeName? 3 u = some "*errors.errorString") : u = 175 :=
  typeName_ptr_named (nm := "errors.errorString") (by rw [starE]; kernel_rfl) (by kernel_rfl) (by decide) u (by rw [starE]; exact h)
/-- The five variables that the rows list. -/
def fiveLaid : List (String × DataW Unit) := [("math/bits.deBruijn64tab", Rows.laid_math_bits_deBruijn64tab), ("tesserae/varint.errMore", Rows.laid_tesserae_varint_errMore), ("tesserae/varint.errNone", Rows.laid_tesserae_varint_errNone), ("tesserae/roar.errMore", Rows.laid_tesserae_roar_errMore), ("tesserae/roar.errNone", Rows.laid_tesserae_roar_errNone)]
theorem five_tab {W : World} (h : laidMet Tryd.prog fiveLaid W) : Tab W := by
  intro j hj
  have h1 := (Lib.tabIs_of_head (zs := Lib.deBruijn64tab.map Int.ofNat) gTab gTabType Tryd.underlying162 Tryd.underlying5 cellsU8 cellsTab h).cell gTab j (by simpa using hj)
  rw [h1]
  simp [List.getD, hj]
theorem five_varint {W : World} (h : laidMet Tryd.prog fiveLaid W) : ∃ am an, Sent W 2 3 am an := by
  obtain ⟨a0, a1, s0, s1, c0, c1, t0, t1, hv0, hv1, -, -, -, -, -, -, hne, hb0, hb1⟩ := laid_sentinels2 h.tail gVMore gVMoreT gVNone gVNoneT Tryd.underlying89 rowE Tryd.underlying175 Tryd.underlying198 rfl rfl Tryd.underlying9 cellsEs cellsStr
  exact ⟨a0, a1, Lib.hid ⟨by simpa using World.var?_cell gVMore hv0 0, by simpa using World.var?_cell gVNone hv1 0, hne, ⟨_, _, hb0⟩, ⟨_, _, hb1⟩⟩⟩
theorem five_roar {W : World} (h : laidMet Tryd.prog fiveLaid W) : ∃ am an, Sent W 1 0 am an := by
  obtain ⟨a0, a1, s0, s1, c0, c1, t0, t1, hv0, hv1, -, -, -, -, -, -, hne, hb0, hb1⟩ := laid_sentinels2 h.tail.tail.tail gRMore gRMoreT gRNone gRNoneT Tryd.underlying89 rowE Tryd.underlying175 Tryd.underlying198 rfl rfl Tryd.underlying9 cellsEs cellsStr
  exact ⟨a0, a1, Lib.hid ⟨by simpa using World.var?_cell gRMore hv0 0, by simpa using World.var?_cell gRNone hv1 0, hne, ⟨_, _, hb0⟩, ⟨_, _, hb1⟩⟩⟩
/-- The world of the witnesses. -/
theorem door_met5 (os : Os) (args : Array Value) : laidMet Tryd.prog fiveLaid ((World.doorLaid Tryd.prog 400 os).forCall (fun _ _ => 0) ⟨#[], args, []⟩).memory :=
  laidMet_of_run' 8 (by kernel_rfl) (by kernel_rfl)
theorem five_of {W : World} (h : laidMetH Tryd.prog fiveLaid W) : laidMet Tryd.prog fiveLaid W := h
end Go.Proofs.YtalnfbkmlllfhaaDoor
