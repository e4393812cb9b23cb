/-
  NARROWER THAN 'FOR EVERY INPUT', by the rows' own cells (each row's printed sentence says how): IdleBreaks: laid · IdleBits: laid · SpareNil: laid · IdleSums: laid · IdleFirst: laid · SpareSteps: laid · IdleMoves: laid · SpareRests: laid · SpareCaps: laid · SpareAlone: laid.
  DERIVED. THE GIVEN ROWS OF THIS SEAT. 10 by the template 'for every input the law returns true; each argument reads behind the call as it read before'; 0 by the template 'total and deterministic' (their statements: YtkilghhknimolaaDoorTotals.lean).
  GIVEN WITH THE SEED: the statements are not yours to turn. If you find one false, say at which input.
  Laid BY PROGRAM, IN A SANDBOX (cutbox-rows.mjs): the forced cells as the released guide's own fill.sh prints them over the translation ff97f47e4e18b46d… (all of the seat's roots in one cut). By AI agents, Wed Nov 11 2026. No macro, syntax, notation, axiom, sorry.
-/
import Derived.Test.YtkilghhknimolaaDoorChecked
import GoSem.Claim
import GoSem.ClaimJoined
import GoSem.ClaimMapViews
import Derived.JoinedTies
import Derived.KernelRfl
namespace Go.Proofs.YtkilghhknimolaaDoor
/- THE CELL 'sum', in the pinned program and in every row, IS THE sha256 OF THE DUMP (.gsa) THAT YtkilghhknimolaaDoorProg.lean LOADS. Nothing in Lean hashes anything: it is a label: what it is worth is what the hold of that sum in a sandbox is worth. -/
noncomputable def Tryd.pinned : Pinned := { name := "ytkilghhknimolaadoor", sum := "ff97f47e4e18b46d8a8ea431dcc2a22da5de51286e3184dc60da80787534233f", checked := Tryd.checked }
namespace Rows
def none {H : Type} : Left H := { results := [], args := [] }

/- WHAT THE LISTED PACKAGE-LEVEL VARIABLES READ AS WHEN THE CALL BEGINS. Each datum BY PROGRAM (the guide's laid-datum.mjs) off the statement by which the dump's own 'gosem.cut.vars' lays the variable. In a bare row this is a premise. The card (YtkilghhknimolaaDoorCards.lean) ties it to the program's text. -/
def laid_math_bits_deBruijn64tab {H : Type} : DataW H := .agg [.lit (.int .u8 0), .lit (.int .u8 1), .lit (.int .u8 56), .lit (.int .u8 2), .lit (.int .u8 57), .lit (.int .u8 49), .lit (.int .u8 28), .lit (.int .u8 3), .lit (.int .u8 61), .lit (.int .u8 58), .lit (.int .u8 42), .lit (.int .u8 50), .lit (.int .u8 38), .lit (.int .u8 29), .lit (.int .u8 17), .lit (.int .u8 4), .lit (.int .u8 62), .lit (.int .u8 47), .lit (.int .u8 59), .lit (.int .u8 36), .lit (.int .u8 45), .lit (.int .u8 43), .lit (.int .u8 51), .lit (.int .u8 22), .lit (.int .u8 53), .lit (.int .u8 39), .lit (.int .u8 33), .lit (.int .u8 30), .lit (.int .u8 24), .lit (.int .u8 18), .lit (.int .u8 12), .lit (.int .u8 5), .lit (.int .u8 63), .lit (.int .u8 55), .lit (.int .u8 48), .lit (.int .u8 27), .lit (.int .u8 60), .lit (.int .u8 41), .lit (.int .u8 37), .lit (.int .u8 16), .lit (.int .u8 46), .lit (.int .u8 35), .lit (.int .u8 44), .lit (.int .u8 21), .lit (.int .u8 52), .lit (.int .u8 32), .lit (.int .u8 23), .lit (.int .u8 11), .lit (.int .u8 54), .lit (.int .u8 26), .lit (.int .u8 40), .lit (.int .u8 15), .lit (.int .u8 34), .lit (.int .u8 20), .lit (.int .u8 31), .lit (.int .u8 10), .lit (.int .u8 25), .lit (.int .u8 14), .lit (.int .u8 19), .lit (.int .u8 9), .lit (.int .u8 13), .lit (.int .u8 8), .lit (.int .u8 7), .lit (.int .u8 6)]

/-- 'pelotonlaw12.IdleBreaks': WHATEVER THE INPUT: true; the input reads as it did. -/
def idleBreaksSpec : ChangeSpec := { name := "idleBreaks", fn := fun _ => fun
  | [d1, d2] => { results := [.lit (.bool true)], args := [d1, d2] }
  | _ => none }
def idleBreaksRow : OpenClaim := { program := "ytkilghhknimolaadoor", sum := "ff97f47e4e18b46d8a8ea431dcc2a22da5de51286e3184dc60da80787534233f", func := "peloton/pelotonlaw12.IdleBreaks", spec := "idleBreaks", unfollowed := true, recurses := true, named := ["math/bits.deBruijn64tab"], apart := false, laid := [("math/bits.deBruijn64tab", laid_math_bits_deBruijn64tab)] }
def IdleBreaksSaid : Prop := idleBreaksRow.holds Tryd.pinned (OpenSpec.ofChange idleBreaksSpec)

/-- ITS FALSE NEIGHBOUR: 'it returns false'. Refute it at one input. -/
def idleBreaksWrong : ChangeSpec := { name := "idleBreaks", fn := fun _ => fun
  | [d1, d2] => { results := [.lit (.bool false)], args := [d1, d2] }
  | _ => none }
def IdleBreaksWrongFalsely : Prop := idleBreaksRow.holds Tryd.pinned (OpenSpec.ofChange idleBreaksWrong)

/-- 'pelotonlaw12.IdleBits': WHATEVER THE INPUT: true; the input reads as it did. -/
def idleBitsSpec : ChangeSpec := { name := "idleBits", fn := fun _ => fun
  | [d1, d2, d3] => { results := [.lit (.bool true)], args := [d1, d2, d3] }
  | _ => none }
def idleBitsRow : OpenClaim := { program := "ytkilghhknimolaadoor", sum := "ff97f47e4e18b46d8a8ea431dcc2a22da5de51286e3184dc60da80787534233f", func := "peloton/pelotonlaw12.IdleBits", spec := "idleBits", unfollowed := true, recurses := true, named := ["math/bits.deBruijn64tab"], apart := false, laid := [("math/bits.deBruijn64tab", laid_math_bits_deBruijn64tab)] }
def IdleBitsSaid : Prop := idleBitsRow.holds Tryd.pinned (OpenSpec.ofChange idleBitsSpec)

/-- ITS FALSE NEIGHBOUR: 'it returns false'. Refute it at one input. -/
def idleBitsWrong : ChangeSpec := { name := "idleBits", fn := fun _ => fun
  | [d1, d2, d3] => { results := [.lit (.bool false)], args := [d1, d2, d3] }
  | _ => none }
def IdleBitsWrongFalsely : Prop := idleBitsRow.holds Tryd.pinned (OpenSpec.ofChange idleBitsWrong)

/-- 'pelotonlaw18.SpareNil': WHATEVER THE INPUT: true; the input reads as it did. -/
def spareNilSpec : ChangeSpec := { name := "spareNil", fn := fun _ => fun
  | [d1, d2, d3] => { results := [.lit (.bool true)], args := [d1, d2, d3] }
  | _ => none }
def spareNilRow : OpenClaim := { program := "ytkilghhknimolaadoor", sum := "ff97f47e4e18b46d8a8ea431dcc2a22da5de51286e3184dc60da80787534233f", func := "peloton/pelotonlaw18.SpareNil", spec := "spareNil", unfollowed := true, recurses := true, named := ["math/bits.deBruijn64tab"], apart := false, laid := [("math/bits.deBruijn64tab", laid_math_bits_deBruijn64tab)] }
def SpareNilSaid : Prop := spareNilRow.holds Tryd.pinned (OpenSpec.ofChange spareNilSpec)

/-- ITS FALSE NEIGHBOUR: 'it returns false'. Refute it at one input. -/
def spareNilWrong : ChangeSpec := { name := "spareNil", fn := fun _ => fun
  | [d1, d2, d3] => { results := [.lit (.bool false)], args := [d1, d2, d3] }
  | _ => none }
def SpareNilWrongFalsely : Prop := spareNilRow.holds Tryd.pinned (OpenSpec.ofChange spareNilWrong)

/-- 'pelotonlaw12.IdleSums': WHATEVER THE INPUT: true; the input reads as it did. -/
def idleSumsSpec : ChangeSpec := { name := "idleSums", fn := fun _ => fun
  | [d] => { results := [.lit (.bool true)], args := [d] }
  | _ => none }
def idleSumsRow : OpenClaim := { program := "ytkilghhknimolaadoor", sum := "ff97f47e4e18b46d8a8ea431dcc2a22da5de51286e3184dc60da80787534233f", func := "peloton/pelotonlaw12.IdleSums", spec := "idleSums", unfollowed := true, recurses := true, named := ["math/bits.deBruijn64tab"], apart := false, laid := [("math/bits.deBruijn64tab", laid_math_bits_deBruijn64tab)] }
def IdleSumsSaid : Prop := idleSumsRow.holds Tryd.pinned (OpenSpec.ofChange idleSumsSpec)

/-- ITS FALSE NEIGHBOUR: 'it returns false'. Refute it at one input. -/
def idleSumsWrong : ChangeSpec := { name := "idleSums", fn := fun _ => fun
  | [d] => { results := [.lit (.bool false)], args := [d] }
  | _ => none }
def IdleSumsWrongFalsely : Prop := idleSumsRow.holds Tryd.pinned (OpenSpec.ofChange idleSumsWrong)

/-- 'pelotonlaw12.IdleFirst': WHATEVER THE INPUT: true; the input reads as it did. -/
def idleFirstSpec : ChangeSpec := { name := "idleFirst", fn := fun _ => fun
  | [d1, d2, d3] => { results := [.lit (.bool true)], args := [d1, d2, d3] }
  | _ => none }
def idleFirstRow : OpenClaim := { program := "ytkilghhknimolaadoor", sum := "ff97f47e4e18b46d8a8ea431dcc2a22da5de51286e3184dc60da80787534233f", func := "peloton/pelotonlaw12.IdleFirst", spec := "idleFirst", unfollowed := true, recurses := true, named := ["math/bits.deBruijn64tab"], apart := false, laid := [("math/bits.deBruijn64tab", laid_math_bits_deBruijn64tab)] }
def IdleFirstSaid : Prop := idleFirstRow.holds Tryd.pinned (OpenSpec.ofChange idleFirstSpec)

/-- ITS FALSE NEIGHBOUR: 'it returns false'. Refute it at one input. -/
def idleFirstWrong : ChangeSpec := { name := "idleFirst", fn := fun _ => fun
  | [d1, d2, d3] => { results := [.lit (.bool false)], args := [d1, d2, d3] }
  | _ => none }
def IdleFirstWrongFalsely : Prop := idleFirstRow.holds Tryd.pinned (OpenSpec.ofChange idleFirstWrong)

/-- 'pelotonlaw18.SpareSteps': WHATEVER THE INPUT: true; the input reads as it did. -/
def spareStepsSpec : ChangeSpec := { name := "spareSteps", fn := fun _ => fun
  | [d1, d2, d3] => { results := [.lit (.bool true)], args := [d1, d2, d3] }
  | _ => none }
def spareStepsRow : OpenClaim := { program := "ytkilghhknimolaadoor", sum := "ff97f47e4e18b46d8a8ea431dcc2a22da5de51286e3184dc60da80787534233f", func := "peloton/pelotonlaw18.SpareSteps", spec := "spareSteps", unfollowed := true, recurses := true, named := ["math/bits.deBruijn64tab"], apart := false, laid := [("math/bits.deBruijn64tab", laid_math_bits_deBruijn64tab)] }
def SpareStepsSaid : Prop := spareStepsRow.holds Tryd.pinned (OpenSpec.ofChange spareStepsSpec)

/-- ITS FALSE NEIGHBOUR: 'it returns false'. Refute it at one input. -/
def spareStepsWrong : ChangeSpec := { name := "spareSteps", fn := fun _ => fun
  | [d1, d2, d3] => { results := [.lit (.bool false)], args := [d1, d2, d3] }
  | _ => none }
def SpareStepsWrongFalsely : Prop := spareStepsRow.holds Tryd.pinned (OpenSpec.ofChange spareStepsWrong)

/-- 'pelotonlaw12.IdleMoves': WHATEVER THE INPUT: true; the input reads as it did. -/
def idleMovesSpec : ChangeSpec := { name := "idleMoves", fn := fun _ => fun
  | [d] => { results := [.lit (.bool true)], args := [d] }
  | _ => none }
def idleMovesRow : OpenClaim := { program := "ytkilghhknimolaadoor", sum := "ff97f47e4e18b46d8a8ea431dcc2a22da5de51286e3184dc60da80787534233f", func := "peloton/pelotonlaw12.IdleMoves", spec := "idleMoves", unfollowed := true, recurses := true, named := ["math/bits.deBruijn64tab"], apart := false, laid := [("math/bits.deBruijn64tab", laid_math_bits_deBruijn64tab)] }
def IdleMovesSaid : Prop := idleMovesRow.holds Tryd.pinned (OpenSpec.ofChange idleMovesSpec)

/-- ITS FALSE NEIGHBOUR: 'it returns false'. Refute it at one input. -/
def idleMovesWrong : ChangeSpec := { name := "idleMoves", fn := fun _ => fun
  | [d] => { results := [.lit (.bool false)], args := [d] }
  | _ => none }
def IdleMovesWrongFalsely : Prop := idleMovesRow.holds Tryd.pinned (OpenSpec.ofChange idleMovesWrong)

/-- 'pelotonlaw18.SpareRests': WHATEVER THE INPUT: true; the input reads as it did. -/
def spareRestsSpec : ChangeSpec := { name := "spareRests", fn := fun _ => fun
  | [d1, d2, d3] => { results := [.lit (.bool true)], args := [d1, d2, d3] }
  | _ => none }
def spareRestsRow : OpenClaim := { program := "ytkilghhknimolaadoor", sum := "ff97f47e4e18b46d8a8ea431dcc2a22da5de51286e3184dc60da80787534233f", func := "peloton/pelotonlaw18.SpareRests", spec := "spareRests", unfollowed := true, recurses := true, named := ["math/bits.deBruijn64tab"], apart := false, laid := [("math/bits.deBruijn64tab", laid_math_bits_deBruijn64tab)] }
def SpareRestsSaid : Prop := spareRestsRow.holds Tryd.pinned (OpenSpec.ofChange spareRestsSpec)

/-- ITS FALSE NEIGHBOUR: 'it returns false'. Refute it at one input. -/
def spareRestsWrong : ChangeSpec := { name := "spareRests", fn := fun _ => fun
  | [d1, d2, d3] => { results := [.lit (.bool false)], args := [d1, d2, d3] }
  | _ => none }
def SpareRestsWrongFalsely : Prop := spareRestsRow.holds Tryd.pinned (OpenSpec.ofChange spareRestsWrong)

/-- 'pelotonlaw18.SpareCaps': WHATEVER THE INPUT: true; the input reads as it did. -/
def spareCapsSpec : ChangeSpec := { name := "spareCaps", fn := fun _ => fun
  | [d1, d2, d3] => { results := [.lit (.bool true)], args := [d1, d2, d3] }
  | _ => none }
def spareCapsRow : OpenClaim := { program := "ytkilghhknimolaadoor", sum := "ff97f47e4e18b46d8a8ea431dcc2a22da5de51286e3184dc60da80787534233f", func := "peloton/pelotonlaw18.SpareCaps", spec := "spareCaps", unfollowed := true, recurses := true, named := ["math/bits.deBruijn64tab"], apart := false, laid := [("math/bits.deBruijn64tab", laid_math_bits_deBruijn64tab)] }
def SpareCapsSaid : Prop := spareCapsRow.holds Tryd.pinned (OpenSpec.ofChange spareCapsSpec)

/-- ITS FALSE NEIGHBOUR: 'it returns false'. Refute it at one input. -/
def spareCapsWrong : ChangeSpec := { name := "spareCaps", fn := fun _ => fun
  | [d1, d2, d3] => { results := [.lit (.bool false)], args := [d1, d2, d3] }
  | _ => none }
def SpareCapsWrongFalsely : Prop := spareCapsRow.holds Tryd.pinned (OpenSpec.ofChange spareCapsWrong)

/-- 'pelotonlaw18.SpareAlone': WHATEVER THE INPUT: true; the input reads as it did. -/
def spareAloneSpec : ChangeSpec := { name := "spareAlone", fn := fun _ => fun
  | [d1, d2, d3] => { results := [.lit (.bool true)], args := [d1, d2, d3] }
  | _ => none }
def spareAloneRow : OpenClaim := { program := "ytkilghhknimolaadoor", sum := "ff97f47e4e18b46d8a8ea431dcc2a22da5de51286e3184dc60da80787534233f", func := "peloton/pelotonlaw18.SpareAlone", spec := "spareAlone", unfollowed := true, recurses := true, named := ["math/bits.deBruijn64tab"], apart := false, laid := [("math/bits.deBruijn64tab", laid_math_bits_deBruijn64tab)] }
def SpareAloneSaid : Prop := spareAloneRow.holds Tryd.pinned (OpenSpec.ofChange spareAloneSpec)

/-- ITS FALSE NEIGHBOUR: 'it returns false'. Refute it at one input. -/
def spareAloneWrong : ChangeSpec := { name := "spareAlone", fn := fun _ => fun
  | [d1, d2, d3] => { results := [.lit (.bool false)], args := [d1, d2, d3] }
  | _ => none }
def SpareAloneWrongFalsely : Prop := spareAloneRow.holds Tryd.pinned (OpenSpec.ofChange spareAloneWrong)

/- THE SECOND FORM. 'bulk': how many values and letters a reading holds, each counted each time it is reached (what is shared counts as often as it is met; a slice's spare places count too). A statement '..UptoSaid' is the law's where the arguments, and the package variables that the reading takes, are together of bulk at most 1048576: NARROWER than '..Said'. Prove '..Said' where nothing that the law and all that it calls make is longer than what came in: it says more and counts as full. Else prove '..UptoSaid'. A law counts once. -/
mutual
def uptoBulk {H : Type} : DataW H → Nat
  | .lit (.string bytes) => bytes.length + 1
  | .lit _ => 1
  | .nil => 1
  | .ptr d => uptoBulk d + 1
  | .slice elems spare => uptoBulkAll elems + uptoBulkAll spare + 1
  | .agg parts => uptoBulkAll parts + 1
  | .iface _ d => uptoBulk d + 1
  | .map entries => uptoBulkEntries entries + 1
  | .held _ => 1
def uptoBulkAll {H : Type} : List (DataW H) → Nat
  | [] => 0
  | d :: r => uptoBulk d + uptoBulkAll r
def uptoBulkEntries {H : Type} : List (Lit × DataW H) → Nat
  | [] => 0
  | x :: r => uptoBulkEntry x + uptoBulkEntries r
def uptoBulkEntry {H : Type} : Lit × DataW H → Nat
  | (.string bytes, d) => bytes.length + uptoBulk d + 1
  | (_, d) => uptoBulk d + 1
 end
def uptoSmall : (H : Type) → List (DataW H) → Bool := fun _ ds => decide (uptoBulkAll ds ≤ 1048576)
def OpenSpec.upto (s : _root_.Go.ChangeSpec) : _root_.Go.OpenSpec := { _root_.Go.OpenSpec.ofChange s with cond := some uptoSmall }

/-- 'pelotonlaw12.IdleBreaks', WHERE WHAT IT READS IS OF BULK AT MOST 1048576: true; the input reads as it did. -/
def idleBreaksUptoRow : OpenClaim := { program := "ytkilghhknimolaadoor", sum := "ff97f47e4e18b46d8a8ea431dcc2a22da5de51286e3184dc60da80787534233f", func := "peloton/pelotonlaw12.IdleBreaks", spec := "idleBreaks", unfollowed := true, recurses := true, named := ["math/bits.deBruijn64tab"], apart := false, laid := [("math/bits.deBruijn64tab", laid_math_bits_deBruijn64tab)], narrowed := true }
def IdleBreaksUptoSaid : Prop := idleBreaksUptoRow.holds Tryd.pinned (OpenSpec.upto idleBreaksSpec)

/-- 'pelotonlaw12.IdleBits', WHERE WHAT IT READS IS OF BULK AT MOST 1048576: true; the input reads as it did. -/
def idleBitsUptoRow : OpenClaim := { program := "ytkilghhknimolaadoor", sum := "ff97f47e4e18b46d8a8ea431dcc2a22da5de51286e3184dc60da80787534233f", func := "peloton/pelotonlaw12.IdleBits", spec := "idleBits", unfollowed := true, recurses := true, named := ["math/bits.deBruijn64tab"], apart := false, laid := [("math/bits.deBruijn64tab", laid_math_bits_deBruijn64tab)], narrowed := true }
def IdleBitsUptoSaid : Prop := idleBitsUptoRow.holds Tryd.pinned (OpenSpec.upto idleBitsSpec)

/-- 'pelotonlaw18.SpareNil', WHERE WHAT IT READS IS OF BULK AT MOST 1048576: true; the input reads as it did. -/
def spareNilUptoRow : OpenClaim := { program := "ytkilghhknimolaadoor", sum := "ff97f47e4e18b46d8a8ea431dcc2a22da5de51286e3184dc60da80787534233f", func := "peloton/pelotonlaw18.SpareNil", spec := "spareNil", unfollowed := true, recurses := true, named := ["math/bits.deBruijn64tab"], apart := false, laid := [("math/bits.deBruijn64tab", laid_math_bits_deBruijn64tab)], narrowed := true }
def SpareNilUptoSaid : Prop := spareNilUptoRow.holds Tryd.pinned (OpenSpec.upto spareNilSpec)

/-- 'pelotonlaw12.IdleSums', WHERE WHAT IT READS IS OF BULK AT MOST 1048576: true; the input reads as it did. -/
def idleSumsUptoRow : OpenClaim := { program := "ytkilghhknimolaadoor", sum := "ff97f47e4e18b46d8a8ea431dcc2a22da5de51286e3184dc60da80787534233f", func := "peloton/pelotonlaw12.IdleSums", spec := "idleSums", unfollowed := true, recurses := true, named := ["math/bits.deBruijn64tab"], apart := false, laid := [("math/bits.deBruijn64tab", laid_math_bits_deBruijn64tab)], narrowed := true }
def IdleSumsUptoSaid : Prop := idleSumsUptoRow.holds Tryd.pinned (OpenSpec.upto idleSumsSpec)

/-- 'pelotonlaw12.IdleFirst', WHERE WHAT IT READS IS OF BULK AT MOST 1048576: true; the input reads as it did. -/
def idleFirstUptoRow : OpenClaim := { program := "ytkilghhknimolaadoor", sum := "ff97f47e4e18b46d8a8ea431dcc2a22da5de51286e3184dc60da80787534233f", func := "peloton/pelotonlaw12.IdleFirst", spec := "idleFirst", unfollowed := true, recurses := true, named := ["math/bits.deBruijn64tab"], apart := false, laid := [("math/bits.deBruijn64tab", laid_math_bits_deBruijn64tab)], narrowed := true }
def IdleFirstUptoSaid : Prop := idleFirstUptoRow.holds Tryd.pinned (OpenSpec.upto idleFirstSpec)

/-- 'pelotonlaw18.SpareSteps', WHERE WHAT IT READS IS OF BULK AT MOST 1048576: true; the input reads as it did. -/
def spareStepsUptoRow : OpenClaim := { program := "ytkilghhknimolaadoor", sum := "ff97f47e4e18b46d8a8ea431dcc2a22da5de51286e3184dc60da80787534233f", func := "peloton/pelotonlaw18.SpareSteps", spec := "spareSteps", unfollowed := true, recurses := true, named := ["math/bits.deBruijn64tab"], apart := false, laid := [("math/bits.deBruijn64tab", laid_math_bits_deBruijn64tab)], narrowed := true }
def SpareStepsUptoSaid : Prop := spareStepsUptoRow.holds Tryd.pinned (OpenSpec.upto spareStepsSpec)

/-- 'pelotonlaw12.IdleMoves', WHERE WHAT IT READS IS OF BULK AT MOST 1048576: true; the input reads as it did. -/
def idleMovesUptoRow : OpenClaim := { program := "ytkilghhknimolaadoor", sum := "ff97f47e4e18b46d8a8ea431dcc2a22da5de51286e3184dc60da80787534233f", func := "peloton/pelotonlaw12.IdleMoves", spec := "idleMoves", unfollowed := true, recurses := true, named := ["math/bits.deBruijn64tab"], apart := false, laid := [("math/bits.deBruijn64tab", laid_math_bits_deBruijn64tab)], narrowed := true }
def IdleMovesUptoSaid : Prop := idleMovesUptoRow.holds Tryd.pinned (OpenSpec.upto idleMovesSpec)

/-- 'pelotonlaw18.SpareRests', WHERE WHAT IT READS IS OF BULK AT MOST 1048576: true; the input reads as it did. -/
def spareRestsUptoRow : OpenClaim := { program := "ytkilghhknimolaadoor", sum := "ff97f47e4e18b46d8a8ea431dcc2a22da5de51286e3184dc60da80787534233f", func := "peloton/pelotonlaw18.SpareRests", spec := "spareRests", unfollowed := true, recurses := true, named := ["math/bits.deBruijn64tab"], apart := false, laid := [("math/bits.deBruijn64tab", laid_math_bits_deBruijn64tab)], narrowed := true }
def SpareRestsUptoSaid : Prop := spareRestsUptoRow.holds Tryd.pinned (OpenSpec.upto spareRestsSpec)

/-- 'pelotonlaw18.SpareCaps', WHERE WHAT IT READS IS OF BULK AT MOST 1048576: true; the input reads as it did. -/
def spareCapsUptoRow : OpenClaim := { program := "ytkilghhknimolaadoor", sum := "ff97f47e4e18b46d8a8ea431dcc2a22da5de51286e3184dc60da80787534233f", func := "peloton/pelotonlaw18.SpareCaps", spec := "spareCaps", unfollowed := true, recurses := true, named := ["math/bits.deBruijn64tab"], apart := false, laid := [("math/bits.deBruijn64tab", laid_math_bits_deBruijn64tab)], narrowed := true }
def SpareCapsUptoSaid : Prop := spareCapsUptoRow.holds Tryd.pinned (OpenSpec.upto spareCapsSpec)

/-- 'pelotonlaw18.SpareAlone', WHERE WHAT IT READS IS OF BULK AT MOST 1048576: true; the input reads as it did. -/
def spareAloneUptoRow : OpenClaim := { program := "ytkilghhknimolaadoor", sum := "ff97f47e4e18b46d8a8ea431dcc2a22da5de51286e3184dc60da80787534233f", func := "peloton/pelotonlaw18.SpareAlone", spec := "spareAlone", unfollowed := true, recurses := true, named := ["math/bits.deBruijn64tab"], apart := false, laid := [("math/bits.deBruijn64tab", laid_math_bits_deBruijn64tab)], narrowed := true }
def SpareAloneUptoSaid : Prop := spareAloneUptoRow.holds Tryd.pinned (OpenSpec.upto spareAloneSpec)

end Rows
end Go.Proofs.YtkilghhknimolaaDoor
