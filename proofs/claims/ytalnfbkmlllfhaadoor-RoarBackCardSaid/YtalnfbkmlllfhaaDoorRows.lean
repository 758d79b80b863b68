/-
  NARROWER THAN 'FOR EVERY INPUT', by the rows' own cells (each row's printed sentence says how): RoarOps: laid · RoarSpans: laid · RoarRules: laid · RoarMakes: laid · RoarPlaces: laid · RoarCodes: laid · RoarBack: laid.
  DERIVED. THE GIVEN ROWS OF THIS SEAT. 7 by the template 'for every input the law returns true; each argument reads behind the call as it read before'; 0 by the template 'total and deterministic' (their statements: YtalnfbkmlllfhaaDoorTotals.lean).
  GIVEN WITH THE SEED: the statements are not yours to turn. If you find one false, say at which input.
  Laid BY PROGRAM, IN A SANDBOX (cutbox-rows.mjs): the forced cells as the released guide's own fill.sh prints them over the translation 141892dcd42e7621… (all of the seat's roots in one cut). By AI agents, Wed Nov 11 2026. No macro, syntax, notation, axiom, sorry.
-/
import Derived.Test.YtalnfbkmlllfhaaDoorChecked
import GoSem.Claim
import GoSem.ClaimJoined
import GoSem.ClaimMapViews
import Derived.JoinedTies
import Derived.KernelRfl
namespace Go.Proofs.YtalnfbkmlllfhaaDoor
/- THE CELL 'sum', in the pinned program and in every row, IS THE sha256 OF THE DUMP (.gsa) THAT YtalnfbkmlllfhaaDoorProg.lean LOADS. Nothing in Lean hashes anything: it is a label: what it is worth is what the hold of that sum in a sandbox is worth. -/
noncomputable def Tryd.pinned : Pinned := { name := "ytalnfbkmlllfhaadoor", sum := "141892dcd42e76210585562b6555574155eb55253242c0c6854a40900b43518d", checked := Tryd.checked }
namespace Rows
def none {H : Type} : Left H := { results := [], args := [] }

/- WHAT THE LISTED PACKAGE-LEVEL VARIABLES READ AS WHEN THE CALL BEGINS. Each datum BY PROGRAM (the guide's laid-datum.mjs) off the statement by which the dump's own 'gosem.cut.vars' lays the variable. In a bare row this is a premise. The card (YtalnfbkmlllfhaaDoorCards.lean) ties it to the program's text. -/
def laid_math_bits_deBruijn64tab {H : Type} : DataW H := .agg [.lit (.int .u8 0), .lit (.int .u8 1), .lit (.int .u8 56), .lit (.int .u8 2), .lit (.int .u8 57), .lit (.int .u8 49), .lit (.int .u8 28), .lit (.int .u8 3), .lit (.int .u8 61), .lit (.int .u8 58), .lit (.int .u8 42), .lit (.int .u8 50), .lit (.int .u8 38), .lit (.int .u8 29), .lit (.int .u8 17), .lit (.int .u8 4), .lit (.int .u8 62), .lit (.int .u8 47), .lit (.int .u8 59), .lit (.int .u8 36), .lit (.int .u8 45), .lit (.int .u8 43), .lit (.int .u8 51), .lit (.int .u8 22), .lit (.int .u8 53), .lit (.int .u8 39), .lit (.int .u8 33), .lit (.int .u8 30), .lit (.int .u8 24), .lit (.int .u8 18), .lit (.int .u8 12), .lit (.int .u8 5), .lit (.int .u8 63), .lit (.int .u8 55), .lit (.int .u8 48), .lit (.int .u8 27), .lit (.int .u8 60), .lit (.int .u8 41), .lit (.int .u8 37), .lit (.int .u8 16), .lit (.int .u8 46), .lit (.int .u8 35), .lit (.int .u8 44), .lit (.int .u8 21), .lit (.int .u8 52), .lit (.int .u8 32), .lit (.int .u8 23), .lit (.int .u8 11), .lit (.int .u8 54), .lit (.int .u8 26), .lit (.int .u8 40), .lit (.int .u8 15), .lit (.int .u8 34), .lit (.int .u8 20), .lit (.int .u8 31), .lit (.int .u8 10), .lit (.int .u8 25), .lit (.int .u8 14), .lit (.int .u8 19), .lit (.int .u8 9), .lit (.int .u8 13), .lit (.int .u8 8), .lit (.int .u8 7), .lit (.int .u8 6)]
def laid_tesserae_varint_errMore {H : Type} : DataW H := .iface "*errors.errorString" (.ptr (.agg [.lit (.string [109, 111, 114, 101])]))
def laid_tesserae_varint_errNone {H : Type} : DataW H := .iface "*errors.errorString" (.ptr (.agg [.lit (.string [110, 111, 32, 118, 97, 114, 105, 110, 116])]))
def laid_tesserae_roar_errMore {H : Type} : DataW H := .iface "*errors.errorString" (.ptr (.agg [.lit (.string [109, 111, 114, 101])]))
def laid_tesserae_roar_errNone {H : Type} : DataW H := .iface "*errors.errorString" (.ptr (.agg [.lit (.string [110, 111, 32, 98, 105, 116, 109, 97, 112])]))

/-- 'tesseraelaw07.RoarOps': WHATEVER THE INPUT: true; the input reads as it did. -/
def roarOpsSpec : ChangeSpec := { name := "roarOps", fn := fun _ => fun
  | [d1, d2, d3, d4, d5] => { results := [.lit (.bool true)], args := [d1, d2, d3, d4, d5] }
  | _ => none }
def roarOpsRow : OpenClaim := { program := "ytalnfbkmlllfhaadoor", sum := "141892dcd42e76210585562b6555574155eb55253242c0c6854a40900b43518d", func := "tesserae/tesseraelaw07.RoarOps", spec := "roarOps", inPlace := ["internal/abi.NoEscape"], unfollowed := true, recurses := true, named := ["math/bits.deBruijn64tab"], apart := false, laid := [("math/bits.deBruijn64tab", laid_math_bits_deBruijn64tab)] }
def RoarOpsSaid : Prop := roarOpsRow.holds Tryd.pinned (OpenSpec.ofChange roarOpsSpec)

/-- ITS FALSE NEIGHBOUR: 'it returns false'. Refute it at one input. -/
def roarOpsWrong : ChangeSpec := { name := "roarOps", fn := fun _ => fun
  | [d1, d2, d3, d4, d5] => { results := [.lit (.bool false)], args := [d1, d2, d3, d4, d5] }
  | _ => none }
def RoarOpsWrongFalsely : Prop := roarOpsRow.holds Tryd.pinned (OpenSpec.ofChange roarOpsWrong)

/-- 'tesseraelaw07.RoarSpans': WHATEVER THE INPUT: true; the input reads as it did. -/
def roarSpansSpec : ChangeSpec := { name := "roarSpans", fn := fun _ => fun
  | [d1, d2, d3, d4] => { results := [.lit (.bool true)], args := [d1, d2, d3, d4] }
  | _ => none }
def roarSpansRow : OpenClaim := { program := "ytalnfbkmlllfhaadoor", sum := "141892dcd42e76210585562b6555574155eb55253242c0c6854a40900b43518d", func := "tesserae/tesseraelaw07.RoarSpans", spec := "roarSpans", inPlace := ["internal/abi.NoEscape"], unfollowed := true, recurses := true, named := ["math/bits.deBruijn64tab"], apart := false, laid := [("math/bits.deBruijn64tab", laid_math_bits_deBruijn64tab)] }
def RoarSpansSaid : Prop := roarSpansRow.holds Tryd.pinned (OpenSpec.ofChange roarSpansSpec)

/-- ITS FALSE NEIGHBOUR: 'it returns false'. Refute it at one input. -/
def roarSpansWrong : ChangeSpec := { name := "roarSpans", fn := fun _ => fun
  | [d1, d2, d3, d4] => { results := [.lit (.bool false)], args := [d1, d2, d3, d4] }
  | _ => none }
def RoarSpansWrongFalsely : Prop := roarSpansRow.holds Tryd.pinned (OpenSpec.ofChange roarSpansWrong)

/-- 'tesseraelaw07.RoarRules': WHATEVER THE INPUT: true; the input reads as it did. -/
def roarRulesSpec : ChangeSpec := { name := "roarRules", fn := fun _ => fun
  | [d1, d2, d3] => { results := [.lit (.bool true)], args := [d1, d2, d3] }
  | _ => none }
def roarRulesRow : OpenClaim := { program := "ytalnfbkmlllfhaadoor", sum := "141892dcd42e76210585562b6555574155eb55253242c0c6854a40900b43518d", func := "tesserae/tesseraelaw07.RoarRules", spec := "roarRules", inPlace := ["internal/abi.NoEscape"], unfollowed := true, recurses := true, named := ["math/bits.deBruijn64tab"], apart := false, laid := [("math/bits.deBruijn64tab", laid_math_bits_deBruijn64tab)] }
def RoarRulesSaid : Prop := roarRulesRow.holds Tryd.pinned (OpenSpec.ofChange roarRulesSpec)

/-- ITS FALSE NEIGHBOUR: 'it returns false'. Refute it at one input. -/
def roarRulesWrong : ChangeSpec := { name := "roarRules", fn := fun _ => fun
  | [d1, d2, d3] => { results := [.lit (.bool false)], args := [d1, d2, d3] }
  | _ => none }
def RoarRulesWrongFalsely : Prop := roarRulesRow.holds Tryd.pinned (OpenSpec.ofChange roarRulesWrong)

/-- 'tesseraelaw07.RoarMakes': WHATEVER THE INPUT: true; the input reads as it did. -/
def roarMakesSpec : ChangeSpec := { name := "roarMakes", fn := fun _ => fun
  | [d1, d2, d3, d4] => { results := [.lit (.bool true)], args := [d1, d2, d3, d4] }
  | _ => none }
def roarMakesRow : OpenClaim := { program := "ytalnfbkmlllfhaadoor", sum := "141892dcd42e76210585562b6555574155eb55253242c0c6854a40900b43518d", func := "tesserae/tesseraelaw07.RoarMakes", spec := "roarMakes", inPlace := ["internal/abi.NoEscape"], unfollowed := true, recurses := true, named := ["math/bits.deBruijn64tab"], apart := false, laid := [("math/bits.deBruijn64tab", laid_math_bits_deBruijn64tab)] }
def RoarMakesSaid : Prop := roarMakesRow.holds Tryd.pinned (OpenSpec.ofChange roarMakesSpec)

/-- ITS FALSE NEIGHBOUR: 'it returns false'. Refute it at one input. -/
def roarMakesWrong : ChangeSpec := { name := "roarMakes", fn := fun _ => fun
  | [d1, d2, d3, d4] => { results := [.lit (.bool false)], args := [d1, d2, d3, d4] }
  | _ => none }
def RoarMakesWrongFalsely : Prop := roarMakesRow.holds Tryd.pinned (OpenSpec.ofChange roarMakesWrong)

/-- 'tesseraelaw07.RoarPlaces': WHATEVER THE INPUT: true; the input reads as it did. -/
def roarPlacesSpec : ChangeSpec := { name := "roarPlaces", fn := fun _ => fun
  | [d1, d2] => { results := [.lit (.bool true)], args := [d1, d2] }
  | _ => none }
def roarPlacesRow : OpenClaim := { program := "ytalnfbkmlllfhaadoor", sum := "141892dcd42e76210585562b6555574155eb55253242c0c6854a40900b43518d", func := "tesserae/tesseraelaw07.RoarPlaces", spec := "roarPlaces", inPlace := ["internal/abi.NoEscape"], unfollowed := true, recurses := true, named := ["math/bits.deBruijn64tab"], apart := false, laid := [("math/bits.deBruijn64tab", laid_math_bits_deBruijn64tab)] }
def RoarPlacesSaid : Prop := roarPlacesRow.holds Tryd.pinned (OpenSpec.ofChange roarPlacesSpec)

/-- ITS FALSE NEIGHBOUR: 'it returns false'. Refute it at one input. -/
def roarPlacesWrong : ChangeSpec := { name := "roarPlaces", fn := fun _ => fun
  | [d1, d2] => { results := [.lit (.bool false)], args := [d1, d2] }
  | _ => none }
def RoarPlacesWrongFalsely : Prop := roarPlacesRow.holds Tryd.pinned (OpenSpec.ofChange roarPlacesWrong)

/-- 'tesseraelaw07.RoarCodes': WHATEVER THE INPUT: true; the input reads as it did. -/
def roarCodesSpec : ChangeSpec := { name := "roarCodes", fn := fun _ => fun
  | [d1, d2] => { results := [.lit (.bool true)], args := [d1, d2] }
  | _ => none }
def roarCodesRow : OpenClaim := { program := "ytalnfbkmlllfhaadoor", sum := "141892dcd42e76210585562b6555574155eb55253242c0c6854a40900b43518d", func := "tesserae/tesseraelaw07.RoarCodes", spec := "roarCodes", inPlace := ["internal/abi.NoEscape", "internal/reflectlite.TypeOf"], unfollowed := true, recurses := true, named := ["math/bits.deBruijn64tab", "tesserae/roar.errNone", "tesserae/varint.errMore", "tesserae/varint.errNone", "tesserae/roar.errMore"], apart := false, laid := [("math/bits.deBruijn64tab", laid_math_bits_deBruijn64tab), ("tesserae/varint.errMore", laid_tesserae_varint_errMore), ("tesserae/varint.errNone", laid_tesserae_varint_errNone), ("tesserae/roar.errMore", laid_tesserae_roar_errMore), ("tesserae/roar.errNone", laid_tesserae_roar_errNone)] }
def RoarCodesSaid : Prop := roarCodesRow.holds Tryd.pinned (OpenSpec.ofChange roarCodesSpec)

/-- ITS FALSE NEIGHBOUR: 'it returns false'. Refute it at one input. -/
def roarCodesWrong : ChangeSpec := { name := "roarCodes", fn := fun _ => fun
  | [d1, d2] => { results := [.lit (.bool false)], args := [d1, d2] }
  | _ => none }
def RoarCodesWrongFalsely : Prop := roarCodesRow.holds Tryd.pinned (OpenSpec.ofChange roarCodesWrong)

/-- 'tesseraelaw07.RoarBack': WHATEVER THE INPUT: true; the input reads as it did. -/
def roarBackSpec : ChangeSpec := { name := "roarBack", fn := fun _ => fun
  | [d1, d2] => { results := [.lit (.bool true)], args := [d1, d2] }
  | _ => none }
def roarBackRow : OpenClaim := { program := "ytalnfbkmlllfhaadoor", sum := "141892dcd42e76210585562b6555574155eb55253242c0c6854a40900b43518d", func := "tesserae/tesseraelaw07.RoarBack", spec := "roarBack", inPlace := ["internal/abi.NoEscape", "internal/reflectlite.TypeOf"], unfollowed := true, recurses := true, named := ["math/bits.deBruijn64tab", "tesserae/roar.errNone", "tesserae/varint.errMore", "tesserae/varint.errNone", "tesserae/roar.errMore"], apart := false, laid := [("math/bits.deBruijn64tab", laid_math_bits_deBruijn64tab), ("tesserae/varint.errMore", laid_tesserae_varint_errMore), ("tesserae/varint.errNone", laid_tesserae_varint_errNone), ("tesserae/roar.errMore", laid_tesserae_roar_errMore), ("tesserae/roar.errNone", laid_tesserae_roar_errNone)] }
def RoarBackSaid : Prop := roarBackRow.holds Tryd.pinned (OpenSpec.ofChange roarBackSpec)

/-- ITS FALSE NEIGHBOUR: 'it returns false'. Refute it at one input. -/
def roarBackWrong : ChangeSpec := { name := "roarBack", fn := fun _ => fun
  | [d1, d2] => { results := [.lit (.bool false)], args := [d1, d2] }
  | _ => none }
def RoarBackWrongFalsely : Prop := roarBackRow.holds Tryd.pinned (OpenSpec.ofChange roarBackWrong)

/- THE SECOND FORM. 'bulk': how many values and letters a reading holds, each counted each time it is reached (what is shared counts as often as it is met; a slice's spare places count too). A statement '..UptoSaid' is the law's where the arguments, and the package variables that the reading takes, are together of bulk at most 1048576: NARROWER than '..Said'. Prove '..Said' where nothing that the law and all that it calls make is longer than what came in: it says more and counts as full. Else prove '..UptoSaid'. A law counts once. -/
mutual
def uptoBulk {H : Type} : DataW H → Nat
  | .lit (.string bytes) => bytes.length + 1
  | .lit _ => 1
  | .nil => 1
  | .ptr d => uptoBulk d + 1
  | .slice elems spare => uptoBulkAll elems + uptoBulkAll spare + 1
  | .agg parts => uptoBulkAll parts + 1
  | .iface _ d => uptoBulk d + 1
  | .map entries => uptoBulkEntries entries + 1
  | .held _ => 1
def uptoBulkAll {H : Type} : List (DataW H) → Nat
  | [] => 0
  | d :: r => uptoBulk d + uptoBulkAll r
def uptoBulkEntries {H : Type} : List (Lit × DataW H) → Nat
  | [] => 0
  | x :: r => uptoBulkEntry x + uptoBulkEntries r
def uptoBulkEntry {H : Type} : Lit × DataW H → Nat
  | (.string bytes, d) => bytes.length + uptoBulk d + 1
  | (_, d) => uptoBulk d + 1
 end
def uptoSmall : (H : Type) → List (DataW H) → Bool := fun _ ds => decide (uptoBulkAll ds ≤ 1048576)
def OpenSpec.upto (s : _root_.Go.ChangeSpec) : _root_.Go.OpenSpec := { _root_.Go.OpenSpec.ofChange s with cond := some uptoSmall }

/-- 'tesseraelaw07.RoarOps', WHERE WHAT IT READS IS OF BULK AT MOST 1048576: true; the input reads as it did. -/
def roarOpsUptoRow : OpenClaim := { program := "ytalnfbkmlllfhaadoor", sum := "141892dcd42e76210585562b6555574155eb55253242c0c6854a40900b43518d", func := "tesserae/tesseraelaw07.RoarOps", spec := "roarOps", inPlace := ["internal/abi.NoEscape"], unfollowed := true, recurses := true, named := ["math/bits.deBruijn64tab"], apart := false, laid := [("math/bits.deBruijn64tab", laid_math_bits_deBruijn64tab)], narrowed := true }
def RoarOpsUptoSaid : Prop := roarOpsUptoRow.holds Tryd.pinned (OpenSpec.upto roarOpsSpec)

/-- 'tesseraelaw07.RoarSpans', WHERE WHAT IT READS IS OF BULK AT MOST 1048576: true; the input reads as it did. -/
def roarSpansUptoRow : OpenClaim := { program := "ytalnfbkmlllfhaadoor", sum := "141892dcd42e76210585562b6555574155eb55253242c0c6854a40900b43518d", func := "tesserae/tesseraelaw07.RoarSpans", spec := "roarSpans", inPlace := ["internal/abi.NoEscape"], unfollowed := true, recurses := true, named := ["math/bits.deBruijn64tab"], apart := false, laid := [("math/bits.deBruijn64tab", laid_math_bits_deBruijn64tab)], narrowed := true }
def RoarSpansUptoSaid : Prop := roarSpansUptoRow.holds Tryd.pinned (OpenSpec.upto roarSpansSpec)

/-- 'tesseraelaw07.RoarRules', WHERE WHAT IT READS IS OF BULK AT MOST 1048576: true; the input reads as it did. -/
def roarRulesUptoRow : OpenClaim := { program := "ytalnfbkmlllfhaadoor", sum := "141892dcd42e76210585562b6555574155eb55253242c0c6854a40900b43518d", func := "tesserae/tesseraelaw07.RoarRules", spec := "roarRules", inPlace := ["internal/abi.NoEscape"], unfollowed := true, recurses := true, named := ["math/bits.deBruijn64tab"], apart := false, laid := [("math/bits.deBruijn64tab", laid_math_bits_deBruijn64tab)], narrowed := true }
def RoarRulesUptoSaid : Prop := roarRulesUptoRow.holds Tryd.pinned (OpenSpec.upto roarRulesSpec)

/-- 'tesseraelaw07.RoarMakes', WHERE WHAT IT READS IS OF BULK AT MOST 1048576: true; the input reads as it did. -/
def roarMakesUptoRow : OpenClaim := { program := "ytalnfbkmlllfhaadoor", sum := "141892dcd42e76210585562b6555574155eb55253242c0c6854a40900b43518d", func := "tesserae/tesseraelaw07.RoarMakes", spec := "roarMakes", inPlace := ["internal/abi.NoEscape"], unfollowed := true, recurses := true, named := ["math/bits.deBruijn64tab"], apart := false, laid := [("math/bits.deBruijn64tab", laid_math_bits_deBruijn64tab)], narrowed := true }
def RoarMakesUptoSaid : Prop := roarMakesUptoRow.holds Tryd.pinned (OpenSpec.upto roarMakesSpec)

/-- 'tesseraelaw07.RoarPlaces', WHERE WHAT IT READS IS OF BULK AT MOST 1048576: true; the input reads as it did. -/
def roarPlacesUptoRow : OpenClaim := { program := "ytalnfbkmlllfhaadoor", sum := "141892dcd42e76210585562b6555574155eb55253242c0c6854a40900b43518d", func := "tesserae/tesseraelaw07.RoarPlaces", spec := "roarPlaces", inPlace := ["internal/abi.NoEscape"], unfollowed := true, recurses := true, named := ["math/bits.deBruijn64tab"], apart := false, laid := [("math/bits.deBruijn64tab", laid_math_bits_deBruijn64tab)], narrowed := true }
def RoarPlacesUptoSaid : Prop := roarPlacesUptoRow.holds Tryd.pinned (OpenSpec.upto roarPlacesSpec)

/-- 'tesseraelaw07.RoarCodes', WHERE WHAT IT READS IS OF BULK AT MOST 1048576: true; the input reads as it did. -/
def roarCodesUptoRow : OpenClaim := { program := "ytalnfbkmlllfhaadoor", sum := "141892dcd42e76210585562b6555574155eb55253242c0c6854a40900b43518d", func := "tesserae/tesseraelaw07.RoarCodes", spec := "roarCodes", inPlace := ["internal/abi.NoEscape", "internal/reflectlite.TypeOf"], unfollowed := true, recurses := true, named := ["math/bits.deBruijn64tab", "tesserae/roar.errNone", "tesserae/varint.errMore", "tesserae/varint.errNone", "tesserae/roar.errMore"], apart := false, laid := [("math/bits.deBruijn64tab", laid_math_bits_deBruijn64tab), ("tesserae/varint.errMore", laid_tesserae_varint_errMore), ("tesserae/varint.errNone", laid_tesserae_varint_errNone), ("tesserae/roar.errMore", laid_tesserae_roar_errMore), ("tesserae/roar.errNone", laid_tesserae_roar_errNone)], narrowed := true }
def RoarCodesUptoSaid : Prop := roarCodesUptoRow.holds Tryd.pinned (OpenSpec.upto roarCodesSpec)

/-- 'tesseraelaw07.RoarBack', WHERE WHAT IT READS IS OF BULK AT MOST 1048576: true; the input reads as it did. -/
def roarBackUptoRow : OpenClaim := { program := "ytalnfbkmlllfhaadoor", sum := "141892dcd42e76210585562b6555574155eb55253242c0c6854a40900b43518d", func := "tesserae/tesseraelaw07.RoarBack", spec := "roarBack", inPlace := ["internal/abi.NoEscape", "internal/reflectlite.TypeOf"], unfollowed := true, recurses := true, named := ["math/bits.deBruijn64tab", "tesserae/roar.errNone", "tesserae/varint.errMore", "tesserae/varint.errNone", "tesserae/roar.errMore"], apart := false, laid := [("math/bits.deBruijn64tab", laid_math_bits_deBruijn64tab), ("tesserae/varint.errMore", laid_tesserae_varint_errMore), ("tesserae/varint.errNone", laid_tesserae_varint_errNone), ("tesserae/roar.errMore", laid_tesserae_roar_errMore), ("tesserae/roar.errNone", laid_tesserae_roar_errNone)], narrowed := true }
def RoarBackUptoSaid : Prop := roarBackUptoRow.holds Tryd.pinned (OpenSpec.upto roarBackSpec)

end Rows
end Go.Proofs.YtalnfbkmlllfhaaDoor
