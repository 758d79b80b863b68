/-
  NARROWER THAN 'FOR EVERY INPUT', by the rows' own cells (each row's printed sentence says how): BsiHalves: laid · BsiBuilds: laid · BsiBack: laid · BsiSums: laid · BsiParts: laid · BsiCompares: laid · BsiOrders: laid.
  DERIVED. THE GIVEN ROWS OF THIS SEAT. 7 by the template 'for every input the law returns true; each argument reads behind the call as it read before'; 0 by the template 'total and deterministic' (their statements: YtnigpmbpipmgfaaDoorTotals.lean).
  GIVEN WITH THE SEED: the statements are not yours to turn. If you find one false, say at which input.
  Laid BY PROGRAM, IN A SANDBOX (cutbox-rows.mjs): the forced cells as the released guide's own fill.sh prints them over the translation ddafb80e449129a8… (all of the seat's roots in one cut). By AI agents, Wed Nov 11 2026. No macro, syntax, notation, axiom, sorry.
-/
import Derived.Test.YtnigpmbpipmgfaaDoorChecked
import GoSem.Claim
import GoSem.ClaimJoined
import GoSem.ClaimMapViews
import Derived.JoinedTies
import Derived.KernelRfl
namespace Go.Proofs.YtnigpmbpipmgfaaDoor
/- THE CELL 'sum', in the pinned program and in every row, IS THE sha256 OF THE DUMP (.gsa) THAT YtnigpmbpipmgfaaDoorProg.lean LOADS. Nothing in Lean hashes anything: it is a label: what it is worth is what the hold of that sum in a sandbox is worth. -/
noncomputable def Tryd.pinned : Pinned := { name := "ytnigpmbpipmgfaadoor", sum := "ddafb80e449129a800be2a8be0ef19cae948c593a636c0ac82ecf6f9e7c1ca87", checked := Tryd.checked }
namespace Rows
def none {H : Type} : Left H := { results := [], args := [] }

/- WHAT THE LISTED PACKAGE-LEVEL VARIABLES READ AS WHEN THE CALL BEGINS. Each datum BY PROGRAM (the guide's laid-datum.mjs) off the statement by which the dump's own 'gosem.cut.vars' lays the variable. In a bare row this is a premise. The card (YtnigpmbpipmgfaaDoorCards.lean) ties it to the program's text. -/
def laid_math_bits_deBruijn64tab {H : Type} : DataW H := .agg [.lit (.int .u8 0), .lit (.int .u8 1), .lit (.int .u8 56), .lit (.int .u8 2), .lit (.int .u8 57), .lit (.int .u8 49), .lit (.int .u8 28), .lit (.int .u8 3), .lit (.int .u8 61), .lit (.int .u8 58), .lit (.int .u8 42), .lit (.int .u8 50), .lit (.int .u8 38), .lit (.int .u8 29), .lit (.int .u8 17), .lit (.int .u8 4), .lit (.int .u8 62), .lit (.int .u8 47), .lit (.int .u8 59), .lit (.int .u8 36), .lit (.int .u8 45), .lit (.int .u8 43), .lit (.int .u8 51), .lit (.int .u8 22), .lit (.int .u8 53), .lit (.int .u8 39), .lit (.int .u8 33), .lit (.int .u8 30), .lit (.int .u8 24), .lit (.int .u8 18), .lit (.int .u8 12), .lit (.int .u8 5), .lit (.int .u8 63), .lit (.int .u8 55), .lit (.int .u8 48), .lit (.int .u8 27), .lit (.int .u8 60), .lit (.int .u8 41), .lit (.int .u8 37), .lit (.int .u8 16), .lit (.int .u8 46), .lit (.int .u8 35), .lit (.int .u8 44), .lit (.int .u8 21), .lit (.int .u8 52), .lit (.int .u8 32), .lit (.int .u8 23), .lit (.int .u8 11), .lit (.int .u8 54), .lit (.int .u8 26), .lit (.int .u8 40), .lit (.int .u8 15), .lit (.int .u8 34), .lit (.int .u8 20), .lit (.int .u8 31), .lit (.int .u8 10), .lit (.int .u8 25), .lit (.int .u8 14), .lit (.int .u8 19), .lit (.int .u8 9), .lit (.int .u8 13), .lit (.int .u8 8), .lit (.int .u8 7), .lit (.int .u8 6)]

/-- 'tesseraelaw08.BsiHalves': WHATEVER THE INPUT: true; the input reads as it did. -/
def bsiHalvesSpec : ChangeSpec := { name := "bsiHalves", fn := fun _ => fun
  | [d1, d2, d3] => { results := [.lit (.bool true)], args := [d1, d2, d3] }
  | _ => none }
def bsiHalvesRow : OpenClaim := { program := "ytnigpmbpipmgfaadoor", sum := "ddafb80e449129a800be2a8be0ef19cae948c593a636c0ac82ecf6f9e7c1ca87", func := "tesserae/tesseraelaw08.BsiHalves", spec := "bsiHalves", inPlace := ["math/bits.Add64"], unfollowed := true, recurses := true, named := ["math/bits.deBruijn64tab"], apart := false, laid := [("math/bits.deBruijn64tab", laid_math_bits_deBruijn64tab)] }
def BsiHalvesSaid : Prop := bsiHalvesRow.holds Tryd.pinned (OpenSpec.ofChange bsiHalvesSpec)

/-- ITS FALSE NEIGHBOUR: 'it returns false'. Refute it at one input. -/
def bsiHalvesWrong : ChangeSpec := { name := "bsiHalves", fn := fun _ => fun
  | [d1, d2, d3] => { results := [.lit (.bool false)], args := [d1, d2, d3] }
  | _ => none }
def BsiHalvesWrongFalsely : Prop := bsiHalvesRow.holds Tryd.pinned (OpenSpec.ofChange bsiHalvesWrong)

/-- 'tesseraelaw08.BsiBuilds': WHATEVER THE INPUT: true; the input reads as it did. -/
def bsiBuildsSpec : ChangeSpec := { name := "bsiBuilds", fn := fun _ => fun
  | [d1, d2, d3, d4] => { results := [.lit (.bool true)], args := [d1, d2, d3, d4] }
  | _ => none }
def bsiBuildsRow : OpenClaim := { program := "ytnigpmbpipmgfaadoor", sum := "ddafb80e449129a800be2a8be0ef19cae948c593a636c0ac82ecf6f9e7c1ca87", func := "tesserae/tesseraelaw08.BsiBuilds", spec := "bsiBuilds", inPlace := ["math/bits.Add64"], unfollowed := true, recurses := true, named := ["math/bits.deBruijn64tab"], apart := false, laid := [("math/bits.deBruijn64tab", laid_math_bits_deBruijn64tab)] }
def BsiBuildsSaid : Prop := bsiBuildsRow.holds Tryd.pinned (OpenSpec.ofChange bsiBuildsSpec)

/-- ITS FALSE NEIGHBOUR: 'it returns false'. Refute it at one input. -/
def bsiBuildsWrong : ChangeSpec := { name := "bsiBuilds", fn := fun _ => fun
  | [d1, d2, d3, d4] => { results := [.lit (.bool false)], args := [d1, d2, d3, d4] }
  | _ => none }
def BsiBuildsWrongFalsely : Prop := bsiBuildsRow.holds Tryd.pinned (OpenSpec.ofChange bsiBuildsWrong)

/-- 'tesseraelaw08.BsiBack': WHATEVER THE INPUT: true; the input reads as it did. -/
def bsiBackSpec : ChangeSpec := { name := "bsiBack", fn := fun _ => fun
  | [d1, d2] => { results := [.lit (.bool true)], args := [d1, d2] }
  | _ => none }
def bsiBackRow : OpenClaim := { program := "ytnigpmbpipmgfaadoor", sum := "ddafb80e449129a800be2a8be0ef19cae948c593a636c0ac82ecf6f9e7c1ca87", func := "tesserae/tesseraelaw08.BsiBack", spec := "bsiBack", inPlace := ["math/bits.Add64"], unfollowed := true, recurses := true, named := ["math/bits.deBruijn64tab"], apart := false, laid := [("math/bits.deBruijn64tab", laid_math_bits_deBruijn64tab)] }
def BsiBackSaid : Prop := bsiBackRow.holds Tryd.pinned (OpenSpec.ofChange bsiBackSpec)

/-- ITS FALSE NEIGHBOUR: 'it returns false'. Refute it at one input. -/
def bsiBackWrong : ChangeSpec := { name := "bsiBack", fn := fun _ => fun
  | [d1, d2] => { results := [.lit (.bool false)], args := [d1, d2] }
  | _ => none }
def BsiBackWrongFalsely : Prop := bsiBackRow.holds Tryd.pinned (OpenSpec.ofChange bsiBackWrong)

/-- 'tesseraelaw08.BsiSums': WHATEVER THE INPUT: true; the input reads as it did. -/
def bsiSumsSpec : ChangeSpec := { name := "bsiSums", fn := fun _ => fun
  | [d1, d2] => { results := [.lit (.bool true)], args := [d1, d2] }
  | _ => none }
def bsiSumsRow : OpenClaim := { program := "ytnigpmbpipmgfaadoor", sum := "ddafb80e449129a800be2a8be0ef19cae948c593a636c0ac82ecf6f9e7c1ca87", func := "tesserae/tesseraelaw08.BsiSums", spec := "bsiSums", inPlace := ["math/bits.Add64"], unfollowed := true, recurses := true, named := ["math/bits.deBruijn64tab"], apart := false, laid := [("math/bits.deBruijn64tab", laid_math_bits_deBruijn64tab)] }
def BsiSumsSaid : Prop := bsiSumsRow.holds Tryd.pinned (OpenSpec.ofChange bsiSumsSpec)

/-- ITS FALSE NEIGHBOUR: 'it returns false'. Refute it at one input. -/
def bsiSumsWrong : ChangeSpec := { name := "bsiSums", fn := fun _ => fun
  | [d1, d2] => { results := [.lit (.bool false)], args := [d1, d2] }
  | _ => none }
def BsiSumsWrongFalsely : Prop := bsiSumsRow.holds Tryd.pinned (OpenSpec.ofChange bsiSumsWrong)

/-- 'tesseraelaw08.BsiParts': WHATEVER THE INPUT: true; the input reads as it did. -/
def bsiPartsSpec : ChangeSpec := { name := "bsiParts", fn := fun _ => fun
  | [d1, d2, d3] => { results := [.lit (.bool true)], args := [d1, d2, d3] }
  | _ => none }
def bsiPartsRow : OpenClaim := { program := "ytnigpmbpipmgfaadoor", sum := "ddafb80e449129a800be2a8be0ef19cae948c593a636c0ac82ecf6f9e7c1ca87", func := "tesserae/tesseraelaw08.BsiParts", spec := "bsiParts", inPlace := ["math/bits.Add64"], unfollowed := true, recurses := true, named := ["math/bits.deBruijn64tab"], apart := false, laid := [("math/bits.deBruijn64tab", laid_math_bits_deBruijn64tab)] }
def BsiPartsSaid : Prop := bsiPartsRow.holds Tryd.pinned (OpenSpec.ofChange bsiPartsSpec)

/-- ITS FALSE NEIGHBOUR: 'it returns false'. Refute it at one input. -/
def bsiPartsWrong : ChangeSpec := { name := "bsiParts", fn := fun _ => fun
  | [d1, d2, d3] => { results := [.lit (.bool false)], args := [d1, d2, d3] }
  | _ => none }
def BsiPartsWrongFalsely : Prop := bsiPartsRow.holds Tryd.pinned (OpenSpec.ofChange bsiPartsWrong)

/-- 'tesseraelaw08.BsiCompares': WHATEVER THE INPUT: true; the input reads as it did. -/
def bsiComparesSpec : ChangeSpec := { name := "bsiCompares", fn := fun _ => fun
  | [d1, d2, d3, d4] => { results := [.lit (.bool true)], args := [d1, d2, d3, d4] }
  | _ => none }
def bsiComparesRow : OpenClaim := { program := "ytnigpmbpipmgfaadoor", sum := "ddafb80e449129a800be2a8be0ef19cae948c593a636c0ac82ecf6f9e7c1ca87", func := "tesserae/tesseraelaw08.BsiCompares", spec := "bsiCompares", inPlace := ["math/bits.Add64"], unfollowed := true, recurses := true, named := ["math/bits.deBruijn64tab"], apart := false, laid := [("math/bits.deBruijn64tab", laid_math_bits_deBruijn64tab)] }
def BsiComparesSaid : Prop := bsiComparesRow.holds Tryd.pinned (OpenSpec.ofChange bsiComparesSpec)

/-- ITS FALSE NEIGHBOUR: 'it returns false'. Refute it at one input. -/
def bsiComparesWrong : ChangeSpec := { name := "bsiCompares", fn := fun _ => fun
  | [d1, d2, d3, d4] => { results := [.lit (.bool false)], args := [d1, d2, d3, d4] }
  | _ => none }
def BsiComparesWrongFalsely : Prop := bsiComparesRow.holds Tryd.pinned (OpenSpec.ofChange bsiComparesWrong)

/-- 'tesseraelaw08.BsiOrders': WHATEVER THE INPUT: true; the input reads as it did. -/
def bsiOrdersSpec : ChangeSpec := { name := "bsiOrders", fn := fun _ => fun
  | [d1, d2, d3] => { results := [.lit (.bool true)], args := [d1, d2, d3] }
  | _ => none }
def bsiOrdersRow : OpenClaim := { program := "ytnigpmbpipmgfaadoor", sum := "ddafb80e449129a800be2a8be0ef19cae948c593a636c0ac82ecf6f9e7c1ca87", func := "tesserae/tesseraelaw08.BsiOrders", spec := "bsiOrders", inPlace := ["math/bits.Add64"], unfollowed := true, recurses := true, named := ["math/bits.deBruijn64tab"], apart := false, laid := [("math/bits.deBruijn64tab", laid_math_bits_deBruijn64tab)] }
def BsiOrdersSaid : Prop := bsiOrdersRow.holds Tryd.pinned (OpenSpec.ofChange bsiOrdersSpec)

/-- ITS FALSE NEIGHBOUR: 'it returns false'. Refute it at one input. -/
def bsiOrdersWrong : ChangeSpec := { name := "bsiOrders", fn := fun _ => fun
  | [d1, d2, d3] => { results := [.lit (.bool false)], args := [d1, d2, d3] }
  | _ => none }
def BsiOrdersWrongFalsely : Prop := bsiOrdersRow.holds Tryd.pinned (OpenSpec.ofChange bsiOrdersWrong)

/- THE SECOND FORM. 'bulk': how many values and letters a reading holds, each counted each time it is reached (what is shared counts as often as it is met; a slice's spare places count too). A statement '..UptoSaid' is the law's where the arguments, and the package variables that the reading takes, are together of bulk at most 1048576: NARROWER than '..Said'. Prove '..Said' where nothing that the law and all that it calls make is longer than what came in: it says more and counts as full. Else prove '..UptoSaid'. A law counts once. -/
mutual
def uptoBulk {H : Type} : DataW H → Nat
  | .lit (.string bytes) => bytes.length + 1
  | .lit _ => 1
  | .nil => 1
  | .ptr d => uptoBulk d + 1
  | .slice elems spare => uptoBulkAll elems + uptoBulkAll spare + 1
  | .agg parts => uptoBulkAll parts + 1
  | .iface _ d => uptoBulk d + 1
  | .map entries => uptoBulkEntries entries + 1
  | .held _ => 1
def uptoBulkAll {H : Type} : List (DataW H) → Nat
  | [] => 0
  | d :: r => uptoBulk d + uptoBulkAll r
def uptoBulkEntries {H : Type} : List (Lit × DataW H) → Nat
  | [] => 0
  | x :: r => uptoBulkEntry x + uptoBulkEntries r
def uptoBulkEntry {H : Type} : Lit × DataW H → Nat
  | (.string bytes, d) => bytes.length + uptoBulk d + 1
  | (_, d) => uptoBulk d + 1
 end
def uptoSmall : (H : Type) → List (DataW H) → Bool := fun _ ds => decide (uptoBulkAll ds ≤ 1048576)
def OpenSpec.upto (s : _root_.Go.ChangeSpec) : _root_.Go.OpenSpec := { _root_.Go.OpenSpec.ofChange s with cond := some uptoSmall }

/-- 'tesseraelaw08.BsiHalves', WHERE WHAT IT READS IS OF BULK AT MOST 1048576: true; the input reads as it did. -/
def bsiHalvesUptoRow : OpenClaim := { program := "ytnigpmbpipmgfaadoor", sum := "ddafb80e449129a800be2a8be0ef19cae948c593a636c0ac82ecf6f9e7c1ca87", func := "tesserae/tesseraelaw08.BsiHalves", spec := "bsiHalves", inPlace := ["math/bits.Add64"], unfollowed := true, recurses := true, named := ["math/bits.deBruijn64tab"], apart := false, laid := [("math/bits.deBruijn64tab", laid_math_bits_deBruijn64tab)], narrowed := true }
def BsiHalvesUptoSaid : Prop := bsiHalvesUptoRow.holds Tryd.pinned (OpenSpec.upto bsiHalvesSpec)

/-- 'tesseraelaw08.BsiBuilds', WHERE WHAT IT READS IS OF BULK AT MOST 1048576: true; the input reads as it did. -/
def bsiBuildsUptoRow : OpenClaim := { program := "ytnigpmbpipmgfaadoor", sum := "ddafb80e449129a800be2a8be0ef19cae948c593a636c0ac82ecf6f9e7c1ca87", func := "tesserae/tesseraelaw08.BsiBuilds", spec := "bsiBuilds", inPlace := ["math/bits.Add64"], unfollowed := true, recurses := true, named := ["math/bits.deBruijn64tab"], apart := false, laid := [("math/bits.deBruijn64tab", laid_math_bits_deBruijn64tab)], narrowed := true }
def BsiBuildsUptoSaid : Prop := bsiBuildsUptoRow.holds Tryd.pinned (OpenSpec.upto bsiBuildsSpec)

/-- 'tesseraelaw08.BsiBack', WHERE WHAT IT READS IS OF BULK AT MOST 1048576: true; the input reads as it did. -/
def bsiBackUptoRow : OpenClaim := { program := "ytnigpmbpipmgfaadoor", sum := "ddafb80e449129a800be2a8be0ef19cae948c593a636c0ac82ecf6f9e7c1ca87", func := "tesserae/tesseraelaw08.BsiBack", spec := "bsiBack", inPlace := ["math/bits.Add64"], unfollowed := true, recurses := true, named := ["math/bits.deBruijn64tab"], apart := false, laid := [("math/bits.deBruijn64tab", laid_math_bits_deBruijn64tab)], narrowed := true }
def BsiBackUptoSaid : Prop := bsiBackUptoRow.holds Tryd.pinned (OpenSpec.upto bsiBackSpec)

/-- 'tesseraelaw08.BsiSums', WHERE WHAT IT READS IS OF BULK AT MOST 1048576: true; the input reads as it did. -/
def bsiSumsUptoRow : OpenClaim := { program := "ytnigpmbpipmgfaadoor", sum := "ddafb80e449129a800be2a8be0ef19cae948c593a636c0ac82ecf6f9e7c1ca87", func := "tesserae/tesseraelaw08.BsiSums", spec := "bsiSums", inPlace := ["math/bits.Add64"], unfollowed := true, recurses := true, named := ["math/bits.deBruijn64tab"], apart := false, laid := [("math/bits.deBruijn64tab", laid_math_bits_deBruijn64tab)], narrowed := true }
def BsiSumsUptoSaid : Prop := bsiSumsUptoRow.holds Tryd.pinned (OpenSpec.upto bsiSumsSpec)

/-- 'tesseraelaw08.BsiParts', WHERE WHAT IT READS IS OF BULK AT MOST 1048576: true; the input reads as it did. -/
def bsiPartsUptoRow : OpenClaim := { program := "ytnigpmbpipmgfaadoor", sum := "ddafb80e449129a800be2a8be0ef19cae948c593a636c0ac82ecf6f9e7c1ca87", func := "tesserae/tesseraelaw08.BsiParts", spec := "bsiParts", inPlace := ["math/bits.Add64"], unfollowed := true, recurses := true, named := ["math/bits.deBruijn64tab"], apart := false, laid := [("math/bits.deBruijn64tab", laid_math_bits_deBruijn64tab)], narrowed := true }
def BsiPartsUptoSaid : Prop := bsiPartsUptoRow.holds Tryd.pinned (OpenSpec.upto bsiPartsSpec)

/-- 'tesseraelaw08.BsiCompares', WHERE WHAT IT READS IS OF BULK AT MOST 1048576: true; the input reads as it did. -/
def bsiComparesUptoRow : OpenClaim := { program := "ytnigpmbpipmgfaadoor", sum := "ddafb80e449129a800be2a8be0ef19cae948c593a636c0ac82ecf6f9e7c1ca87", func := "tesserae/tesseraelaw08.BsiCompares", spec := "bsiCompares", inPlace := ["math/bits.Add64"], unfollowed := true, recurses := true, named := ["math/bits.deBruijn64tab"], apart := false, laid := [("math/bits.deBruijn64tab", laid_math_bits_deBruijn64tab)], narrowed := true }
def BsiComparesUptoSaid : Prop := bsiComparesUptoRow.holds Tryd.pinned (OpenSpec.upto bsiComparesSpec)

/-- 'tesseraelaw08.BsiOrders', WHERE WHAT IT READS IS OF BULK AT MOST 1048576: true; the input reads as it did. -/
def bsiOrdersUptoRow : OpenClaim := { program := "ytnigpmbpipmgfaadoor", sum := "ddafb80e449129a800be2a8be0ef19cae948c593a636c0ac82ecf6f9e7c1ca87", func := "tesserae/tesseraelaw08.BsiOrders", spec := "bsiOrders", inPlace := ["math/bits.Add64"], unfollowed := true, recurses := true, named := ["math/bits.deBruijn64tab"], apart := false, laid := [("math/bits.deBruijn64tab", laid_math_bits_deBruijn64tab)], narrowed := true }
def BsiOrdersUptoSaid : Prop := bsiOrdersUptoRow.holds Tryd.pinned (OpenSpec.upto bsiOrdersSpec)

end Rows
end Go.Proofs.YtnigpmbpipmgfaaDoor
