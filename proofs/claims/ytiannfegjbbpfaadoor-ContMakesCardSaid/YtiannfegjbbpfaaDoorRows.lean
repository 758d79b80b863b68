/-
  NARROWER THAN 'FOR EVERY INPUT', by the rows' own cells (each row's printed sentence says how): ContFlips: laid · ContSizes: laid · ContRanks: laid · ContParts: laid · ContOps: laid · ContBack: laid · ContPlaces: laid · ContMakes: laid.
  DERIVED. THE GIVEN ROWS OF THIS SEAT. 8 by the template 'for every input the law returns true; each argument reads behind the call as it read before'; 0 by the template 'total and deterministic' (their statements: YtiannfegjbbpfaaDoorTotals.lean).
  GIVEN WITH THE SEED: the statements are not yours to turn. If you find one false, say at which input.
  Laid BY PROGRAM, IN A SANDBOX (cutbox-rows.mjs): the forced cells as the released guide's own fill.sh prints them over the translation 8f4132bde1d02002… (all of the seat's roots in one cut). By AI agents, Wed Nov 11 2026. No macro, syntax, notation, axiom, sorry.
-/
import Derived.Test.YtiannfegjbbpfaaDoorChecked
import GoSem.Claim
import GoSem.ClaimJoined
import GoSem.ClaimMapViews
import Derived.JoinedTies
import Derived.KernelRfl
namespace Go.Proofs.YtiannfegjbbpfaaDoor
/- THE CELL 'sum', in the pinned program and in every row, IS THE sha256 OF THE DUMP (.gsa) THAT YtiannfegjbbpfaaDoorProg.lean LOADS. Nothing in Lean hashes anything: it is a label: what it is worth is what the hold of that sum in a sandbox is worth. -/
noncomputable def Tryd.pinned : Pinned := { name := "ytiannfegjbbpfaadoor", sum := "8f4132bde1d020025e78ec2bc858354aaaa87ef621383a032376c66d355d032e", checked := Tryd.checked }
namespace Rows
def none {H : Type} : Left H := { results := [], args := [] }

/- WHAT THE LISTED PACKAGE-LEVEL VARIABLES READ AS WHEN THE CALL BEGINS. Each datum BY PROGRAM (the guide's laid-datum.mjs) off the statement by which the dump's own 'gosem.cut.vars' lays the variable. In a bare row this is a premise. The card (YtiannfegjbbpfaaDoorCards.lean) ties it to the program's text. -/
def laid_math_bits_deBruijn64tab {H : Type} : DataW H := .agg [.lit (.int .u8 0), .lit (.int .u8 1), .lit (.int .u8 56), .lit (.int .u8 2), .lit (.int .u8 57), .lit (.int .u8 49), .lit (.int .u8 28), .lit (.int .u8 3), .lit (.int .u8 61), .lit (.int .u8 58), .lit (.int .u8 42), .lit (.int .u8 50), .lit (.int .u8 38), .lit (.int .u8 29), .lit (.int .u8 17), .lit (.int .u8 4), .lit (.int .u8 62), .lit (.int .u8 47), .lit (.int .u8 59), .lit (.int .u8 36), .lit (.int .u8 45), .lit (.int .u8 43), .lit (.int .u8 51), .lit (.int .u8 22), .lit (.int .u8 53), .lit (.int .u8 39), .lit (.int .u8 33), .lit (.int .u8 30), .lit (.int .u8 24), .lit (.int .u8 18), .lit (.int .u8 12), .lit (.int .u8 5), .lit (.int .u8 63), .lit (.int .u8 55), .lit (.int .u8 48), .lit (.int .u8 27), .lit (.int .u8 60), .lit (.int .u8 41), .lit (.int .u8 37), .lit (.int .u8 16), .lit (.int .u8 46), .lit (.int .u8 35), .lit (.int .u8 44), .lit (.int .u8 21), .lit (.int .u8 52), .lit (.int .u8 32), .lit (.int .u8 23), .lit (.int .u8 11), .lit (.int .u8 54), .lit (.int .u8 26), .lit (.int .u8 40), .lit (.int .u8 15), .lit (.int .u8 34), .lit (.int .u8 20), .lit (.int .u8 31), .lit (.int .u8 10), .lit (.int .u8 25), .lit (.int .u8 14), .lit (.int .u8 19), .lit (.int .u8 9), .lit (.int .u8 13), .lit (.int .u8 8), .lit (.int .u8 7), .lit (.int .u8 6)]

/-- 'tesseraelaw06.ContFlips': WHATEVER THE INPUT: true; the input reads as it did. -/
def contFlipsSpec : ChangeSpec := { name := "contFlips", fn := fun _ => fun
  | [d1, d2, d3] => { results := [.lit (.bool true)], args := [d1, d2, d3] }
  | _ => none }
def contFlipsRow : OpenClaim := { program := "ytiannfegjbbpfaadoor", sum := "8f4132bde1d020025e78ec2bc858354aaaa87ef621383a032376c66d355d032e", func := "tesserae/tesseraelaw06.ContFlips", spec := "contFlips", unfollowed := true, recurses := true, named := ["math/bits.deBruijn64tab"], apart := false, laid := [("math/bits.deBruijn64tab", laid_math_bits_deBruijn64tab)] }
def ContFlipsSaid : Prop := contFlipsRow.holds Tryd.pinned (OpenSpec.ofChange contFlipsSpec)

/-- ITS FALSE NEIGHBOUR: 'it returns false'. Refute it at one input. -/
def contFlipsWrong : ChangeSpec := { name := "contFlips", fn := fun _ => fun
  | [d1, d2, d3] => { results := [.lit (.bool false)], args := [d1, d2, d3] }
  | _ => none }
def ContFlipsWrongFalsely : Prop := contFlipsRow.holds Tryd.pinned (OpenSpec.ofChange contFlipsWrong)

/-- 'tesseraelaw06.ContSizes': WHATEVER THE INPUT: true; the input reads as it did. -/
def contSizesSpec : ChangeSpec := { name := "contSizes", fn := fun _ => fun
  | [d] => { results := [.lit (.bool true)], args := [d] }
  | _ => none }
def contSizesRow : OpenClaim := { program := "ytiannfegjbbpfaadoor", sum := "8f4132bde1d020025e78ec2bc858354aaaa87ef621383a032376c66d355d032e", func := "tesserae/tesseraelaw06.ContSizes", spec := "contSizes", unfollowed := true, recurses := true, named := ["math/bits.deBruijn64tab"], apart := false, laid := [("math/bits.deBruijn64tab", laid_math_bits_deBruijn64tab)] }
def ContSizesSaid : Prop := contSizesRow.holds Tryd.pinned (OpenSpec.ofChange contSizesSpec)

/-- ITS FALSE NEIGHBOUR: 'it returns false'. Refute it at one input. -/
def contSizesWrong : ChangeSpec := { name := "contSizes", fn := fun _ => fun
  | [d] => { results := [.lit (.bool false)], args := [d] }
  | _ => none }
def ContSizesWrongFalsely : Prop := contSizesRow.holds Tryd.pinned (OpenSpec.ofChange contSizesWrong)

/-- 'tesseraelaw06.ContRanks': WHATEVER THE INPUT: true; the input reads as it did. -/
def contRanksSpec : ChangeSpec := { name := "contRanks", fn := fun _ => fun
  | [d] => { results := [.lit (.bool true)], args := [d] }
  | _ => none }
def contRanksRow : OpenClaim := { program := "ytiannfegjbbpfaadoor", sum := "8f4132bde1d020025e78ec2bc858354aaaa87ef621383a032376c66d355d032e", func := "tesserae/tesseraelaw06.ContRanks", spec := "contRanks", unfollowed := true, recurses := true, named := ["math/bits.deBruijn64tab"], apart := false, laid := [("math/bits.deBruijn64tab", laid_math_bits_deBruijn64tab)] }
def ContRanksSaid : Prop := contRanksRow.holds Tryd.pinned (OpenSpec.ofChange contRanksSpec)

/-- ITS FALSE NEIGHBOUR: 'it returns false'. Refute it at one input. -/
def contRanksWrong : ChangeSpec := { name := "contRanks", fn := fun _ => fun
  | [d] => { results := [.lit (.bool false)], args := [d] }
  | _ => none }
def ContRanksWrongFalsely : Prop := contRanksRow.holds Tryd.pinned (OpenSpec.ofChange contRanksWrong)

/-- 'tesseraelaw06.ContParts': WHATEVER THE INPUT: true; the input reads as it did. -/
def contPartsSpec : ChangeSpec := { name := "contParts", fn := fun _ => fun
  | [d1, d2] => { results := [.lit (.bool true)], args := [d1, d2] }
  | _ => none }
def contPartsRow : OpenClaim := { program := "ytiannfegjbbpfaadoor", sum := "8f4132bde1d020025e78ec2bc858354aaaa87ef621383a032376c66d355d032e", func := "tesserae/tesseraelaw06.ContParts", spec := "contParts", unfollowed := true, recurses := true, named := ["math/bits.deBruijn64tab"], apart := false, laid := [("math/bits.deBruijn64tab", laid_math_bits_deBruijn64tab)] }
def ContPartsSaid : Prop := contPartsRow.holds Tryd.pinned (OpenSpec.ofChange contPartsSpec)

/-- ITS FALSE NEIGHBOUR: 'it returns false'. Refute it at one input. -/
def contPartsWrong : ChangeSpec := { name := "contParts", fn := fun _ => fun
  | [d1, d2] => { results := [.lit (.bool false)], args := [d1, d2] }
  | _ => none }
def ContPartsWrongFalsely : Prop := contPartsRow.holds Tryd.pinned (OpenSpec.ofChange contPartsWrong)

/-- 'tesseraelaw06.ContOps': WHATEVER THE INPUT: true; the input reads as it did. -/
def contOpsSpec : ChangeSpec := { name := "contOps", fn := fun _ => fun
  | [d1, d2, d3, d4, d5] => { results := [.lit (.bool true)], args := [d1, d2, d3, d4, d5] }
  | _ => none }
def contOpsRow : OpenClaim := { program := "ytiannfegjbbpfaadoor", sum := "8f4132bde1d020025e78ec2bc858354aaaa87ef621383a032376c66d355d032e", func := "tesserae/tesseraelaw06.ContOps", spec := "contOps", unfollowed := true, recurses := true, named := ["math/bits.deBruijn64tab"], apart := false, laid := [("math/bits.deBruijn64tab", laid_math_bits_deBruijn64tab)] }
def ContOpsSaid : Prop := contOpsRow.holds Tryd.pinned (OpenSpec.ofChange contOpsSpec)

/-- ITS FALSE NEIGHBOUR: 'it returns false'. Refute it at one input. -/
def contOpsWrong : ChangeSpec := { name := "contOps", fn := fun _ => fun
  | [d1, d2, d3, d4, d5] => { results := [.lit (.bool false)], args := [d1, d2, d3, d4, d5] }
  | _ => none }
def ContOpsWrongFalsely : Prop := contOpsRow.holds Tryd.pinned (OpenSpec.ofChange contOpsWrong)

/-- 'tesseraelaw06.ContBack': WHATEVER THE INPUT: true; the input reads as it did. -/
def contBackSpec : ChangeSpec := { name := "contBack", fn := fun _ => fun
  | [d1, d2, d3] => { results := [.lit (.bool true)], args := [d1, d2, d3] }
  | _ => none }
def contBackRow : OpenClaim := { program := "ytiannfegjbbpfaadoor", sum := "8f4132bde1d020025e78ec2bc858354aaaa87ef621383a032376c66d355d032e", func := "tesserae/tesseraelaw06.ContBack", spec := "contBack", unfollowed := true, recurses := true, named := ["math/bits.deBruijn64tab"], apart := false, laid := [("math/bits.deBruijn64tab", laid_math_bits_deBruijn64tab)] }
def ContBackSaid : Prop := contBackRow.holds Tryd.pinned (OpenSpec.ofChange contBackSpec)

/-- ITS FALSE NEIGHBOUR: 'it returns false'. Refute it at one input. -/
def contBackWrong : ChangeSpec := { name := "contBack", fn := fun _ => fun
  | [d1, d2, d3] => { results := [.lit (.bool false)], args := [d1, d2, d3] }
  | _ => none }
def ContBackWrongFalsely : Prop := contBackRow.holds Tryd.pinned (OpenSpec.ofChange contBackWrong)

/-- 'tesseraelaw06.ContPlaces': WHATEVER THE INPUT: true; the input reads as it did. -/
def contPlacesSpec : ChangeSpec := { name := "contPlaces", fn := fun _ => fun
  | [d1, d2] => { results := [.lit (.bool true)], args := [d1, d2] }
  | _ => none }
def contPlacesRow : OpenClaim := { program := "ytiannfegjbbpfaadoor", sum := "8f4132bde1d020025e78ec2bc858354aaaa87ef621383a032376c66d355d032e", func := "tesserae/tesseraelaw06.ContPlaces", spec := "contPlaces", unfollowed := true, recurses := true, named := ["math/bits.deBruijn64tab"], apart := false, laid := [("math/bits.deBruijn64tab", laid_math_bits_deBruijn64tab)] }
def ContPlacesSaid : Prop := contPlacesRow.holds Tryd.pinned (OpenSpec.ofChange contPlacesSpec)

/-- ITS FALSE NEIGHBOUR: 'it returns false'. Refute it at one input. -/
def contPlacesWrong : ChangeSpec := { name := "contPlaces", fn := fun _ => fun
  | [d1, d2] => { results := [.lit (.bool false)], args := [d1, d2] }
  | _ => none }
def ContPlacesWrongFalsely : Prop := contPlacesRow.holds Tryd.pinned (OpenSpec.ofChange contPlacesWrong)

/-- 'tesseraelaw06.ContMakes': WHATEVER THE INPUT: true; the input reads as it did. -/
def contMakesSpec : ChangeSpec := { name := "contMakes", fn := fun _ => fun
  | [d1, d2, d3, d4] => { results := [.lit (.bool true)], args := [d1, d2, d3, d4] }
  | _ => none }
def contMakesRow : OpenClaim := { program := "ytiannfegjbbpfaadoor", sum := "8f4132bde1d020025e78ec2bc858354aaaa87ef621383a032376c66d355d032e", func := "tesserae/tesseraelaw06.ContMakes", spec := "contMakes", unfollowed := true, recurses := true, named := ["math/bits.deBruijn64tab"], apart := false, laid := [("math/bits.deBruijn64tab", laid_math_bits_deBruijn64tab)] }
def ContMakesSaid : Prop := contMakesRow.holds Tryd.pinned (OpenSpec.ofChange contMakesSpec)

/-- ITS FALSE NEIGHBOUR: 'it returns false'. Refute it at one input. -/
def contMakesWrong : ChangeSpec := { name := "contMakes", fn := fun _ => fun
  | [d1, d2, d3, d4] => { results := [.lit (.bool false)], args := [d1, d2, d3, d4] }
  | _ => none }
def ContMakesWrongFalsely : Prop := contMakesRow.holds Tryd.pinned (OpenSpec.ofChange contMakesWrong)

/- THE SECOND FORM. 'bulk': how many values and letters a reading holds, each counted each time it is reached (what is shared counts as often as it is met; a slice's spare places count too). A statement '..UptoSaid' is the law's where the arguments, and the package variables that the reading takes, are together of bulk at most 1048576: NARROWER than '..Said'. Prove '..Said' where nothing that the law and all that it calls make is longer than what came in: it says more and counts as full. Else prove '..UptoSaid'. A law counts once. -/
mutual
def uptoBulk {H : Type} : DataW H → Nat
  | .lit (.string bytes) => bytes.length + 1
  | .lit _ => 1
  | .nil => 1
  | .ptr d => uptoBulk d + 1
  | .slice elems spare => uptoBulkAll elems + uptoBulkAll spare + 1
  | .agg parts => uptoBulkAll parts + 1
  | .iface _ d => uptoBulk d + 1
  | .map entries => uptoBulkEntries entries + 1
  | .held _ => 1
def uptoBulkAll {H : Type} : List (DataW H) → Nat
  | [] => 0
  | d :: r => uptoBulk d + uptoBulkAll r
def uptoBulkEntries {H : Type} : List (Lit × DataW H) → Nat
  | [] => 0
  | x :: r => uptoBulkEntry x + uptoBulkEntries r
def uptoBulkEntry {H : Type} : Lit × DataW H → Nat
  | (.string bytes, d) => bytes.length + uptoBulk d + 1
  | (_, d) => uptoBulk d + 1
 end
def uptoSmall : (H : Type) → List (DataW H) → Bool := fun _ ds => decide (uptoBulkAll ds ≤ 1048576)
def OpenSpec.upto (s : _root_.Go.ChangeSpec) : _root_.Go.OpenSpec := { _root_.Go.OpenSpec.ofChange s with cond := some uptoSmall }

/-- 'tesseraelaw06.ContFlips', WHERE WHAT IT READS IS OF BULK AT MOST 1048576: true; the input reads as it did. -/
def contFlipsUptoRow : OpenClaim := { program := "ytiannfegjbbpfaadoor", sum := "8f4132bde1d020025e78ec2bc858354aaaa87ef621383a032376c66d355d032e", func := "tesserae/tesseraelaw06.ContFlips", spec := "contFlips", unfollowed := true, recurses := true, named := ["math/bits.deBruijn64tab"], apart := false, laid := [("math/bits.deBruijn64tab", laid_math_bits_deBruijn64tab)], narrowed := true }
def ContFlipsUptoSaid : Prop := contFlipsUptoRow.holds Tryd.pinned (OpenSpec.upto contFlipsSpec)

/-- 'tesseraelaw06.ContSizes', WHERE WHAT IT READS IS OF BULK AT MOST 1048576: true; the input reads as it did. -/
def contSizesUptoRow : OpenClaim := { program := "ytiannfegjbbpfaadoor", sum := "8f4132bde1d020025e78ec2bc858354aaaa87ef621383a032376c66d355d032e", func := "tesserae/tesseraelaw06.ContSizes", spec := "contSizes", unfollowed := true, recurses := true, named := ["math/bits.deBruijn64tab"], apart := false, laid := [("math/bits.deBruijn64tab", laid_math_bits_deBruijn64tab)], narrowed := true }
def ContSizesUptoSaid : Prop := contSizesUptoRow.holds Tryd.pinned (OpenSpec.upto contSizesSpec)

/-- 'tesseraelaw06.ContRanks', WHERE WHAT IT READS IS OF BULK AT MOST 1048576: true; the input reads as it did. -/
def contRanksUptoRow : OpenClaim := { program := "ytiannfegjbbpfaadoor", sum := "8f4132bde1d020025e78ec2bc858354aaaa87ef621383a032376c66d355d032e", func := "tesserae/tesseraelaw06.ContRanks", spec := "contRanks", unfollowed := true, recurses := true, named := ["math/bits.deBruijn64tab"], apart := false, laid := [("math/bits.deBruijn64tab", laid_math_bits_deBruijn64tab)], narrowed := true }
def ContRanksUptoSaid : Prop := contRanksUptoRow.holds Tryd.pinned (OpenSpec.upto contRanksSpec)

/-- 'tesseraelaw06.ContParts', WHERE WHAT IT READS IS OF BULK AT MOST 1048576: true; the input reads as it did. -/
def contPartsUptoRow : OpenClaim := { program := "ytiannfegjbbpfaadoor", sum := "8f4132bde1d020025e78ec2bc858354aaaa87ef621383a032376c66d355d032e", func := "tesserae/tesseraelaw06.ContParts", spec := "contParts", unfollowed := true, recurses := true, named := ["math/bits.deBruijn64tab"], apart := false, laid := [("math/bits.deBruijn64tab", laid_math_bits_deBruijn64tab)], narrowed := true }
def ContPartsUptoSaid : Prop := contPartsUptoRow.holds Tryd.pinned (OpenSpec.upto contPartsSpec)

/-- 'tesseraelaw06.ContOps', WHERE WHAT IT READS IS OF BULK AT MOST 1048576: true; the input reads as it did. -/
def contOpsUptoRow : OpenClaim := { program := "ytiannfegjbbpfaadoor", sum := "8f4132bde1d020025e78ec2bc858354aaaa87ef621383a032376c66d355d032e", func := "tesserae/tesseraelaw06.ContOps", spec := "contOps", unfollowed := true, recurses := true, named := ["math/bits.deBruijn64tab"], apart := false, laid := [("math/bits.deBruijn64tab", laid_math_bits_deBruijn64tab)], narrowed := true }
def ContOpsUptoSaid : Prop := contOpsUptoRow.holds Tryd.pinned (OpenSpec.upto contOpsSpec)

/-- 'tesseraelaw06.ContBack', WHERE WHAT IT READS IS OF BULK AT MOST 1048576: true; the input reads as it did. -/
def contBackUptoRow : OpenClaim := { program := "ytiannfegjbbpfaadoor", sum := "8f4132bde1d020025e78ec2bc858354aaaa87ef621383a032376c66d355d032e", func := "tesserae/tesseraelaw06.ContBack", spec := "contBack", unfollowed := true, recurses := true, named := ["math/bits.deBruijn64tab"], apart := false, laid := [("math/bits.deBruijn64tab", laid_math_bits_deBruijn64tab)], narrowed := true }
def ContBackUptoSaid : Prop := contBackUptoRow.holds Tryd.pinned (OpenSpec.upto contBackSpec)

/-- 'tesseraelaw06.ContPlaces', WHERE WHAT IT READS IS OF BULK AT MOST 1048576: true; the input reads as it did. -/
def contPlacesUptoRow : OpenClaim := { program := "ytiannfegjbbpfaadoor", sum := "8f4132bde1d020025e78ec2bc858354aaaa87ef621383a032376c66d355d032e", func := "tesserae/tesseraelaw06.ContPlaces", spec := "contPlaces", unfollowed := true, recurses := true, named := ["math/bits.deBruijn64tab"], apart := false, laid := [("math/bits.deBruijn64tab", laid_math_bits_deBruijn64tab)], narrowed := true }
def ContPlacesUptoSaid : Prop := contPlacesUptoRow.holds Tryd.pinned (OpenSpec.upto contPlacesSpec)

/-- 'tesseraelaw06.ContMakes', WHERE WHAT IT READS IS OF BULK AT MOST 1048576: true; the input reads as it did. -/
def contMakesUptoRow : OpenClaim := { program := "ytiannfegjbbpfaadoor", sum := "8f4132bde1d020025e78ec2bc858354aaaa87ef621383a032376c66d355d032e", func := "tesserae/tesseraelaw06.ContMakes", spec := "contMakes", unfollowed := true, recurses := true, named := ["math/bits.deBruijn64tab"], apart := false, laid := [("math/bits.deBruijn64tab", laid_math_bits_deBruijn64tab)], narrowed := true }
def ContMakesUptoSaid : Prop := contMakesUptoRow.holds Tryd.pinned (OpenSpec.upto contMakesSpec)

end Rows
end Go.Proofs.YtiannfegjbbpfaaDoor
