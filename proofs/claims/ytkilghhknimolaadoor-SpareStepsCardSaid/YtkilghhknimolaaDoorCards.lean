/-
  DERIVED. GIVEN WITH THE SEED: THE CARDS: each row of YtkilghhknimolaaDoorRows.lean that lists a variable, with what it lists TIED to the program's text (the seventh form; the later family's looks); each row that meets fmt, with fmt's text TOLD by the authors' own Lean function (tested against real Go, not proved from fmt's source: count such statements apart). THE CARD IS WHAT COUNTS. Prove the row's statement (the work); the ties are given (YtkilghhknimolaaDoorTie.lean); close each card by the builder's one call (the guide's Derived/Test/ToyasCard.lean, 'card_holds'). Laid BY PROGRAM, IN A SANDBOX (cutbox-door.mjs). By AI agents, Wed Nov 11 2026. No macro, syntax, notation, axiom, sorry.
-/
import Derived.Test.YtkilghhknimolaaDoorRows
import GoSem.ClaimSeven
namespace Go.Proofs.YtkilghhknimolaaDoor
namespace Rows

/-- THE TIED CARD OF 'pelotonlaw12.IdleBreaks'. -/
def idleBreaksCard : Claim7 := { stood := { row := idleBreaksRow, standIns := [], harness := (true, "7c9e693b4cb48d7dc9a18d473ac65c8cab45ac8674cf8803c1e2dac90d55c3db"), looks := false }, kinds := [], alts := [], laidByText := true, laidKinds := [.data], laidTests := true, laidLooks := .later }
def IdleBreaksCardSaid : Prop := Claim7.holds Tryd.pinned (.plain (OpenSpec.ofChange idleBreaksSpec)) idleBreaksCard

/-- THE TIED CARD OF 'pelotonlaw12.IdleBits'. -/
def idleBitsCard : Claim7 := { stood := { row := idleBitsRow, standIns := [], harness := (true, "7c9e693b4cb48d7dc9a18d473ac65c8cab45ac8674cf8803c1e2dac90d55c3db"), looks := false }, kinds := [], alts := [], laidByText := true, laidKinds := [.data], laidTests := true, laidLooks := .later }
def IdleBitsCardSaid : Prop := Claim7.holds Tryd.pinned (.plain (OpenSpec.ofChange idleBitsSpec)) idleBitsCard

/-- THE TIED CARD OF 'pelotonlaw18.SpareNil'. -/
def spareNilCard : Claim7 := { stood := { row := spareNilRow, standIns := [], harness := (true, "7c9e693b4cb48d7dc9a18d473ac65c8cab45ac8674cf8803c1e2dac90d55c3db"), looks := false }, kinds := [], alts := [], laidByText := true, laidKinds := [.data], laidTests := true, laidLooks := .later }
def SpareNilCardSaid : Prop := Claim7.holds Tryd.pinned (.plain (OpenSpec.ofChange spareNilSpec)) spareNilCard

/-- THE TIED CARD OF 'pelotonlaw12.IdleSums'. -/
def idleSumsCard : Claim7 := { stood := { row := idleSumsRow, standIns := [], harness := (true, "7c9e693b4cb48d7dc9a18d473ac65c8cab45ac8674cf8803c1e2dac90d55c3db"), looks := false }, kinds := [], alts := [], laidByText := true, laidKinds := [.data], laidTests := true, laidLooks := .later }
def IdleSumsCardSaid : Prop := Claim7.holds Tryd.pinned (.plain (OpenSpec.ofChange idleSumsSpec)) idleSumsCard

/-- THE TIED CARD OF 'pelotonlaw12.IdleFirst'. -/
def idleFirstCard : Claim7 := { stood := { row := idleFirstRow, standIns := [], harness := (true, "7c9e693b4cb48d7dc9a18d473ac65c8cab45ac8674cf8803c1e2dac90d55c3db"), looks := false }, kinds := [], alts := [], laidByText := true, laidKinds := [.data], laidTests := true, laidLooks := .later }
def IdleFirstCardSaid : Prop := Claim7.holds Tryd.pinned (.plain (OpenSpec.ofChange idleFirstSpec)) idleFirstCard

/-- THE TIED CARD OF 'pelotonlaw18.SpareSteps'. -/
def spareStepsCard : Claim7 := { stood := { row := spareStepsRow, standIns := [], harness := (true, "7c9e693b4cb48d7dc9a18d473ac65c8cab45ac8674cf8803c1e2dac90d55c3db"), looks := false }, kinds := [], alts := [], laidByText := true, laidKinds := [.data], laidTests := true, laidLooks := .later }
def SpareStepsCardSaid : Prop := Claim7.holds Tryd.pinned (.plain (OpenSpec.ofChange spareStepsSpec)) spareStepsCard

/-- THE TIED CARD OF 'pelotonlaw12.IdleMoves'. -/
def idleMovesCard : Claim7 := { stood := { row := idleMovesRow, standIns := [], harness := (true, "7c9e693b4cb48d7dc9a18d473ac65c8cab45ac8674cf8803c1e2dac90d55c3db"), looks := false }, kinds := [], alts := [], laidByText := true, laidKinds := [.data], laidTests := true, laidLooks := .later }
def IdleMovesCardSaid : Prop := Claim7.holds Tryd.pinned (.plain (OpenSpec.ofChange idleMovesSpec)) idleMovesCard

/-- THE TIED CARD OF 'pelotonlaw18.SpareRests'. -/
def spareRestsCard : Claim7 := { stood := { row := spareRestsRow, standIns := [], harness := (true, "7c9e693b4cb48d7dc9a18d473ac65c8cab45ac8674cf8803c1e2dac90d55c3db"), looks := false }, kinds := [], alts := [], laidByText := true, laidKinds := [.data], laidTests := true, laidLooks := .later }
def SpareRestsCardSaid : Prop := Claim7.holds Tryd.pinned (.plain (OpenSpec.ofChange spareRestsSpec)) spareRestsCard

/-- THE TIED CARD OF 'pelotonlaw18.SpareCaps'. -/
def spareCapsCard : Claim7 := { stood := { row := spareCapsRow, standIns := [], harness := (true, "7c9e693b4cb48d7dc9a18d473ac65c8cab45ac8674cf8803c1e2dac90d55c3db"), looks := false }, kinds := [], alts := [], laidByText := true, laidKinds := [.data], laidTests := true, laidLooks := .later }
def SpareCapsCardSaid : Prop := Claim7.holds Tryd.pinned (.plain (OpenSpec.ofChange spareCapsSpec)) spareCapsCard

/-- THE TIED CARD OF 'pelotonlaw18.SpareAlone'. -/
def spareAloneCard : Claim7 := { stood := { row := spareAloneRow, standIns := [], harness := (true, "7c9e693b4cb48d7dc9a18d473ac65c8cab45ac8674cf8803c1e2dac90d55c3db"), looks := false }, kinds := [], alts := [], laidByText := true, laidKinds := [.data], laidTests := true, laidLooks := .later }
def SpareAloneCardSaid : Prop := Claim7.holds Tryd.pinned (.plain (OpenSpec.ofChange spareAloneSpec)) spareAloneCard

/-- THE SECOND FORM's CARD OF 'pelotonlaw12.IdleBreaks'. -/
def idleBreaksUptoCard : Claim7 := { stood := { row := idleBreaksUptoRow, standIns := [], harness := (true, "7c9e693b4cb48d7dc9a18d473ac65c8cab45ac8674cf8803c1e2dac90d55c3db"), looks := false }, kinds := [], alts := [], laidByText := true, laidKinds := [.data], laidTests := true, laidLooks := .later }
def IdleBreaksUptoCardSaid : Prop := Claim7.holds Tryd.pinned (.plain (OpenSpec.upto idleBreaksSpec)) idleBreaksUptoCard

/-- THE SECOND FORM's CARD OF 'pelotonlaw12.IdleBits'. -/
def idleBitsUptoCard : Claim7 := { stood := { row := idleBitsUptoRow, standIns := [], harness := (true, "7c9e693b4cb48d7dc9a18d473ac65c8cab45ac8674cf8803c1e2dac90d55c3db"), looks := false }, kinds := [], alts := [], laidByText := true, laidKinds := [.data], laidTests := true, laidLooks := .later }
def IdleBitsUptoCardSaid : Prop := Claim7.holds Tryd.pinned (.plain (OpenSpec.upto idleBitsSpec)) idleBitsUptoCard

/-- THE SECOND FORM's CARD OF 'pelotonlaw18.SpareNil'. -/
def spareNilUptoCard : Claim7 := { stood := { row := spareNilUptoRow, standIns := [], harness := (true, "7c9e693b4cb48d7dc9a18d473ac65c8cab45ac8674cf8803c1e2dac90d55c3db"), looks := false }, kinds := [], alts := [], laidByText := true, laidKinds := [.data], laidTests := true, laidLooks := .later }
def SpareNilUptoCardSaid : Prop := Claim7.holds Tryd.pinned (.plain (OpenSpec.upto spareNilSpec)) spareNilUptoCard

/-- THE SECOND FORM's CARD OF 'pelotonlaw12.IdleSums'. -/
def idleSumsUptoCard : Claim7 := { stood := { row := idleSumsUptoRow, standIns := [], harness := (true, "7c9e693b4cb48d7dc9a18d473ac65c8cab45ac8674cf8803c1e2dac90d55c3db"), looks := false }, kinds := [], alts := [], laidByText := true, laidKinds := [.data], laidTests := true, laidLooks := .later }
def IdleSumsUptoCardSaid : Prop := Claim7.holds Tryd.pinned (.plain (OpenSpec.upto idleSumsSpec)) idleSumsUptoCard

/-- THE SECOND FORM's CARD OF 'pelotonlaw12.IdleFirst'. -/
def idleFirstUptoCard : Claim7 := { stood := { row := idleFirstUptoRow, standIns := [], harness := (true, "7c9e693b4cb48d7dc9a18d473ac65c8cab45ac8674cf8803c1e2dac90d55c3db"), looks := false }, kinds := [], alts := [], laidByText := true, laidKinds := [.data], laidTests := true, laidLooks := .later }
def IdleFirstUptoCardSaid : Prop := Claim7.holds Tryd.pinned (.plain (OpenSpec.upto idleFirstSpec)) idleFirstUptoCard

/-- THE SECOND FORM's CARD OF 'pelotonlaw18.SpareSteps'. -/
def spareStepsUptoCard : Claim7 := { stood := { row := spareStepsUptoRow, standIns := [], harness := (true, "7c9e693b4cb48d7dc9a18d473ac65c8cab45ac8674cf8803c1e2dac90d55c3db"), looks := false }, kinds := [], alts := [], laidByText := true, laidKinds := [.data], laidTests := true, laidLooks := .later }
def SpareStepsUptoCardSaid : Prop := Claim7.holds Tryd.pinned (.plain (OpenSpec.upto spareStepsSpec)) spareStepsUptoCard

/-- THE SECOND FORM's CARD OF 'pelotonlaw12.IdleMoves'. -/
def idleMovesUptoCard : Claim7 := { stood := { row := idleMovesUptoRow, standIns := [], harness := (true, "7c9e693b4cb48d7dc9a18d473ac65c8cab45ac8674cf8803c1e2dac90d55c3db"), looks := false }, kinds := [], alts := [], laidByText := true, laidKinds := [.data], laidTests := true, laidLooks := .later }
def IdleMovesUptoCardSaid : Prop := Claim7.holds Tryd.pinned (.plain (OpenSpec.upto idleMovesSpec)) idleMovesUptoCard

/-- THE SECOND FORM's CARD OF 'pelotonlaw18.SpareRests'. -/
def spareRestsUptoCard : Claim7 := { stood := { row := spareRestsUptoRow, standIns := [], harness := (true, "7c9e693b4cb48d7dc9a18d473ac65c8cab45ac8674cf8803c1e2dac90d55c3db"), looks := false }, kinds := [], alts := [], laidByText := true, laidKinds := [.data], laidTests := true, laidLooks := .later }
def SpareRestsUptoCardSaid : Prop := Claim7.holds Tryd.pinned (.plain (OpenSpec.upto spareRestsSpec)) spareRestsUptoCard

/-- THE SECOND FORM's CARD OF 'pelotonlaw18.SpareCaps'. -/
def spareCapsUptoCard : Claim7 := { stood := { row := spareCapsUptoRow, standIns := [], harness := (true, "7c9e693b4cb48d7dc9a18d473ac65c8cab45ac8674cf8803c1e2dac90d55c3db"), looks := false }, kinds := [], alts := [], laidByText := true, laidKinds := [.data], laidTests := true, laidLooks := .later }
def SpareCapsUptoCardSaid : Prop := Claim7.holds Tryd.pinned (.plain (OpenSpec.upto spareCapsSpec)) spareCapsUptoCard

/-- THE SECOND FORM's CARD OF 'pelotonlaw18.SpareAlone'. -/
def spareAloneUptoCard : Claim7 := { stood := { row := spareAloneUptoRow, standIns := [], harness := (true, "7c9e693b4cb48d7dc9a18d473ac65c8cab45ac8674cf8803c1e2dac90d55c3db"), looks := false }, kinds := [], alts := [], laidByText := true, laidKinds := [.data], laidTests := true, laidLooks := .later }
def SpareAloneUptoCardSaid : Prop := Claim7.holds Tryd.pinned (.plain (OpenSpec.upto spareAloneSpec)) spareAloneUptoCard
end Rows
end Go.Proofs.YtkilghhknimolaaDoor
