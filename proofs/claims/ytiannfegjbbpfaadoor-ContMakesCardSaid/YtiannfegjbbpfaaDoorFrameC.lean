/-
  A container that came in, opened.
-/
import Derived.Lib.SmallJoins
import Derived.Test.YtiannfegjbbpfaaDoorFrame
namespace Go.Proofs.YtiannfegjbbpfaaDoor
open Go.ChangeShapes Go.WideShapes Go.ChangeAt Go.RowKit Tess Go.Joins

theorem cont_open {H : Type} {enc : TypeId × Value → H} {W : World} {r : Reach} {b0 : Nat} {v : Value} {d : DataW H} {p : List MemPlace} (hv : Value.okWide Tryd.prog W r b0 25 v)
    (h : DataW.Trod enc Tryd.prog W 0 (fun _ => true) true 25 v d p) : ∃ (f : Int) (D : ByteArray), v = .agg #[.int .i64 f, .string D] := by
  obtain ⟨v0, v1, y0, y1, n, rfl, _, _, h0, h1⟩ := open_agg2 Tryd.underlying25 (by kernel_rfl) (by kernel_rfl) hv h
  obtain ⟨f, hf, _, _⟩ := DataW.trod_int Tryd.underlying3 h0
  obtain ⟨D, hD, _, _⟩ := DataW.trod_string Tryd.underlying9 h1
  simp only [List.cons.injEq, and_true] at hf hD
  subst hf; subst hD
  exact ⟨f, D, rfl⟩
end Go.Proofs.YtiannfegjbbpfaaDoor
