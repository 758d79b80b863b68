/-
  ContMakes: the walk.
-/
import Derived.Test.YtiannfegjbbpfaaDoorMktT
import Derived.Test.YtiannfegjbbpfaaDoorMktF
import Derived.Test.YtiannfegjbbpfaaDoorMktG
import Derived.Test.YtiannfegjbbpfaaDoorMkfT
import Derived.Test.YtiannfegjbbpfaaDoorMkfF
import Derived.Test.YtiannfegjbbpfaaDoorMkfG
namespace Go.Proofs.YtiannfegjbbpfaaDoor
open Go.RowKit Tess

theorem contMakes_walk (f : Int) (D : ByteArray) (n place : Int) {zs : List Int} {sv : Value} {w : World} (hn : n ≤ 9223372036854775807) (h : Ints w.heap.size w sv zs) (hcap : ∀ p n c, sv = .slice p n c → n ≤ c) (hT : Tab w) :
    Calls Tryd.prog 10 #[.agg #[.int .i64 f, .string D], sv, .int .i64 n, .int .i64 place] w fun e W' => e = .returned (.bool true) ∧ Below w.heap.size w W' := by
  cases hx : hi f (cutD D) n with
  | true =>
    by_cases hp : 0 ≤ place ∧ place < ((numsI f (cutD D)).length : Int)
    · exact contMakes_tT f D n place hn hx hp h hcap hT
    · by_cases hp0 : 0 ≤ place
      · exact contMakes_tF f D n place hn hx hp hp0 h hcap hT
      · exact contMakes_tG f D n place hn hx hp hp0 h hcap hT
  | false =>
    by_cases hp : 0 ≤ place ∧ place < ((numsI f (cutD D)).length : Int)
    · exact contMakes_fT f D n place hn hx hp h hcap hT
    · by_cases hp0 : 0 ≤ place
      · exact contMakes_fF f D n place hn hx hp hp0 h hcap hT
      · exact contMakes_fG f D n place hn hx hp hp0 h hcap hT
end Go.Proofs.YtiannfegjbbpfaaDoor
