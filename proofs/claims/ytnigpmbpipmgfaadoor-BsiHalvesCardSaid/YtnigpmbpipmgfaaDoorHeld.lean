/-
  For the regions that draw: Rank, Count, Has, Right, Values by names that no tactic looks into; what is kept of one container's box.
-/
import Derived.Deep.RegionHeld3
import Derived.Test.YtnigpmbpipmgfaaDoorCBase
import Derived.Test.YtnigpmbpipmgfaaDoorVals
namespace Go.Proofs.YtnigpmbpipmgfaaDoor
open Go.RowKit Tess

def rk (f : Int) (D : ByteArray) (n : Int) : Int := (rank (ofRes f D).1 n : Int)
def ci (f : Int) (D : ByteArray) : Int := (count (ofRes f D).1 : Int)
def hi (f : Int) (D : ByteArray) (n : Int) : Bool := hasI (ofRes f D).1 n
theorem Count_ci (f : Int) (D : ByteArray) (w : World) (hD : D.size ≤ 1000000) (hT : Tab w) :
    Calls Tryd.prog 53 #[.agg #[.int .i64 f, .string D]] w fun e W' => e = .returned (.int .i64 (ci f D)) ∧ Below w.heap.size w W' := Count_any f D w hD hT
theorem Has_hi (f : Int) (D : ByteArray) (n : Int) (w : World) (hD : D.size ≤ 1000000) (hT : Tab w) :
    Calls Tryd.prog 88 #[.agg #[.int .i64 f, .string D], .int .i64 n] w fun e W' => e = .returned (.bool (hi f D n)) ∧ Below w.heap.size w W' := Has_any f D n w hD hT
theorem rk_range (f : Int) (D : ByteArray) (n : Int) : 0 ≤ rk f D n ∧ rk f D n ≤ 256 := by
  have := rank_le (ofRes f D).1 n
  unfold rk; omega
theorem ci_range (f : Int) (D : ByteArray) : 0 ≤ ci f D ∧ ci f D ≤ 256 := by
  have := count_le (ofRes f D).1
  unfold ci; omega

/-- One container's box is kept. -/
theorem keep1 {w W W' : World} {b2 : Nat} {f2 : Int} {D2 : ByteArray} (hb : Below W.heap.size W W')
    (s1 : Hid (Below w.heap.size w W)) (s2 : Hid (CBox W b2 f2 D2)) :
    Hid (Below w.heap.size w W') ∧ Hid (CBox W' b2 f2 D2) ∧ W'.cell? ⟨b2, 0, none⟩ = some (.int .i64 f2) ∧ W'.cell? ⟨b2, 1, none⟩ = some (.string D2) := by
  have h2 := s2.out.later hb
  have c2 := blk2_cells h2
  exact ⟨Lib.hid (s1.out.trans (hb.mono s1.out.size)), Lib.hid h2, c2.1, c2.2.1⟩
end Go.Proofs.YtnigpmbpipmgfaaDoor
