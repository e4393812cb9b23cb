/-
  No cell of these rows narrows 'for every input' (looked for: loops, veiled, ifaces, maps, wideKeys, modest, calm, conditions, laid).
  DERIVED. THE GIVEN ROWS OF THIS SEAT. 11 by the template 'for every input the law returns true; each argument reads behind the call as it read before'; 0 by the template 'total and deterministic' (their statements: YtelphbfdibfmoaaTotals.lean).
  GIVEN WITH THE SEED: the statements are not yours to turn. If you find one false, say at which input.
  Laid BY PROGRAM, IN A SANDBOX (cutbox-rows.mjs): the forced cells as the released guide's own fill.sh prints them over the translation 97cc04fd1e80c943… (all of the seat's roots in one cut). By AI agents, Wed Nov 11 2026. No macro, syntax, notation, axiom, sorry.
-/
import Derived.Test.YtelphbfdibfmoaaChecked
import GoSem.Claim
import GoSem.ClaimJoined
import GoSem.ClaimMapViews
import Derived.JoinedTies
import Derived.KernelRfl
namespace Go.Proofs.Ytelphbfdibfmoaa
/- THE CELL 'sum', in the pinned program and in every row, IS THE sha256 OF THE DUMP (.gsa) THAT YtelphbfdibfmoaaProg.lean LOADS. Nothing in Lean hashes anything: it is a label: what it is worth is what the hold of that sum in a sandbox is worth. -/
noncomputable def Try.pinned : Pinned := { name := "ytelphbfdibfmoaa", sum := "97cc04fd1e80c943513e03bd6059e39c3b47725a4088fba765caf4b9245179ad", checked := Try.checked }
namespace Rows
def none {H : Type} : Left H := { results := [], args := [] }

/-- 'pelotonlaw01.CellsAdds': WHATEVER THE INPUT: true; the input reads as it did. -/
def cellsAddsSpec : ChangeSpec := { name := "cellsAdds", fn := fun _ => fun
  | [d1, d2] => { results := [.lit (.bool true)], args := [d1, d2] }
  | _ => none }
def cellsAddsRow : OpenClaim := { program := "ytelphbfdibfmoaa", sum := "97cc04fd1e80c943513e03bd6059e39c3b47725a4088fba765caf4b9245179ad", func := "peloton/pelotonlaw01.CellsAdds", spec := "cellsAdds", unfollowed := true, recurses := true, apart := false }
def CellsAddsSaid : Prop := cellsAddsRow.holds Try.pinned (OpenSpec.ofChange cellsAddsSpec)

/-- ITS FALSE NEIGHBOUR: 'it returns false'. Refute it at one input. -/
def cellsAddsWrong : ChangeSpec := { name := "cellsAdds", fn := fun _ => fun
  | [d1, d2] => { results := [.lit (.bool false)], args := [d1, d2] }
  | _ => none }
def CellsAddsWrongFalsely : Prop := cellsAddsRow.holds Try.pinned (OpenSpec.ofChange cellsAddsWrong)

/-- 'pelotonlaw01.CellsBack': WHATEVER THE INPUT: true; the input reads as it did. -/
def cellsBackSpec : ChangeSpec := { name := "cellsBack", fn := fun _ => fun
  | [d1, d2, d3] => { results := [.lit (.bool true)], args := [d1, d2, d3] }
  | _ => none }
def cellsBackRow : OpenClaim := { program := "ytelphbfdibfmoaa", sum := "97cc04fd1e80c943513e03bd6059e39c3b47725a4088fba765caf4b9245179ad", func := "peloton/pelotonlaw01.CellsBack", spec := "cellsBack", unfollowed := true, recurses := true, apart := false }
def CellsBackSaid : Prop := cellsBackRow.holds Try.pinned (OpenSpec.ofChange cellsBackSpec)

/-- ITS FALSE NEIGHBOUR: 'it returns false'. Refute it at one input. -/
def cellsBackWrong : ChangeSpec := { name := "cellsBack", fn := fun _ => fun
  | [d1, d2, d3] => { results := [.lit (.bool false)], args := [d1, d2, d3] }
  | _ => none }
def CellsBackWrongFalsely : Prop := cellsBackRow.holds Try.pinned (OpenSpec.ofChange cellsBackWrong)

/-- 'pelotonlaw01.CellsMay': WHATEVER THE INPUT: true; the input reads as it did. -/
def cellsMaySpec : ChangeSpec := { name := "cellsMay", fn := fun _ => fun
  | [d1, d2] => { results := [.lit (.bool true)], args := [d1, d2] }
  | _ => none }
def cellsMayRow : OpenClaim := { program := "ytelphbfdibfmoaa", sum := "97cc04fd1e80c943513e03bd6059e39c3b47725a4088fba765caf4b9245179ad", func := "peloton/pelotonlaw01.CellsMay", spec := "cellsMay", unfollowed := true, recurses := true, apart := false }
def CellsMaySaid : Prop := cellsMayRow.holds Try.pinned (OpenSpec.ofChange cellsMaySpec)

/-- ITS FALSE NEIGHBOUR: 'it returns false'. Refute it at one input. -/
def cellsMayWrong : ChangeSpec := { name := "cellsMay", fn := fun _ => fun
  | [d1, d2] => { results := [.lit (.bool false)], args := [d1, d2] }
  | _ => none }
def CellsMayWrongFalsely : Prop := cellsMayRow.holds Try.pinned (OpenSpec.ofChange cellsMayWrong)

/-- 'pelotonlaw01.CellsLeave': WHATEVER THE INPUT: true; the input reads as it did. -/
def cellsLeaveSpec : ChangeSpec := { name := "cellsLeave", fn := fun _ => fun
  | [d] => { results := [.lit (.bool true)], args := [d] }
  | _ => none }
def cellsLeaveRow : OpenClaim := { program := "ytelphbfdibfmoaa", sum := "97cc04fd1e80c943513e03bd6059e39c3b47725a4088fba765caf4b9245179ad", func := "peloton/pelotonlaw01.CellsLeave", spec := "cellsLeave", unfollowed := true, recurses := true, apart := false }
def CellsLeaveSaid : Prop := cellsLeaveRow.holds Try.pinned (OpenSpec.ofChange cellsLeaveSpec)

/-- ITS FALSE NEIGHBOUR: 'it returns false'. Refute it at one input. -/
def cellsLeaveWrong : ChangeSpec := { name := "cellsLeave", fn := fun _ => fun
  | [d] => { results := [.lit (.bool false)], args := [d] }
  | _ => none }
def CellsLeaveWrongFalsely : Prop := cellsLeaveRow.holds Try.pinned (OpenSpec.ofChange cellsLeaveWrong)

/-- 'pelotonlaw01.CellsOnce': WHATEVER THE INPUT: true; the input reads as it did. -/
def cellsOnceSpec : ChangeSpec := { name := "cellsOnce", fn := fun _ => fun
  | [d1, d2] => { results := [.lit (.bool true)], args := [d1, d2] }
  | _ => none }
def cellsOnceRow : OpenClaim := { program := "ytelphbfdibfmoaa", sum := "97cc04fd1e80c943513e03bd6059e39c3b47725a4088fba765caf4b9245179ad", func := "peloton/pelotonlaw01.CellsOnce", spec := "cellsOnce", unfollowed := true, recurses := true, apart := false }
def CellsOnceSaid : Prop := cellsOnceRow.holds Try.pinned (OpenSpec.ofChange cellsOnceSpec)

/-- ITS FALSE NEIGHBOUR: 'it returns false'. Refute it at one input. -/
def cellsOnceWrong : ChangeSpec := { name := "cellsOnce", fn := fun _ => fun
  | [d1, d2] => { results := [.lit (.bool false)], args := [d1, d2] }
  | _ => none }
def CellsOnceWrongFalsely : Prop := cellsOnceRow.holds Try.pinned (OpenSpec.ofChange cellsOnceWrong)

/-- 'pelotonlaw01.CellsPlay': WHATEVER THE INPUT: true; the input reads as it did. -/
def cellsPlaySpec : ChangeSpec := { name := "cellsPlay", fn := fun _ => fun
  | [d1, d2] => { results := [.lit (.bool true)], args := [d1, d2] }
  | _ => none }
def cellsPlayRow : OpenClaim := { program := "ytelphbfdibfmoaa", sum := "97cc04fd1e80c943513e03bd6059e39c3b47725a4088fba765caf4b9245179ad", func := "peloton/pelotonlaw01.CellsPlay", spec := "cellsPlay", unfollowed := true, recurses := true, apart := false }
def CellsPlaySaid : Prop := cellsPlayRow.holds Try.pinned (OpenSpec.ofChange cellsPlaySpec)

/-- ITS FALSE NEIGHBOUR: 'it returns false'. Refute it at one input. -/
def cellsPlayWrong : ChangeSpec := { name := "cellsPlay", fn := fun _ => fun
  | [d1, d2] => { results := [.lit (.bool false)], args := [d1, d2] }
  | _ => none }
def CellsPlayWrongFalsely : Prop := cellsPlayRow.holds Try.pinned (OpenSpec.ofChange cellsPlayWrong)

/-- 'pelotonlaw11.EventRests': WHATEVER THE INPUT: true; the input reads as it did. -/
def eventRestsSpec : ChangeSpec := { name := "eventRests", fn := fun _ => fun
  | [d1, d2, d3] => { results := [.lit (.bool true)], args := [d1, d2, d3] }
  | _ => none }
def eventRestsRow : OpenClaim := { program := "ytelphbfdibfmoaa", sum := "97cc04fd1e80c943513e03bd6059e39c3b47725a4088fba765caf4b9245179ad", func := "peloton/pelotonlaw11.EventRests", spec := "eventRests", unfollowed := true, recurses := true, apart := false }
def EventRestsSaid : Prop := eventRestsRow.holds Try.pinned (OpenSpec.ofChange eventRestsSpec)

/-- ITS FALSE NEIGHBOUR: 'it returns false'. Refute it at one input. -/
def eventRestsWrong : ChangeSpec := { name := "eventRests", fn := fun _ => fun
  | [d1, d2, d3] => { results := [.lit (.bool false)], args := [d1, d2, d3] }
  | _ => none }
def EventRestsWrongFalsely : Prop := eventRestsRow.holds Try.pinned (OpenSpec.ofChange eventRestsWrong)

/-- 'pelotonlaw11.EventActs': WHATEVER THE INPUT: true; the input reads as it did. -/
def eventActsSpec : ChangeSpec := { name := "eventActs", fn := fun _ => fun
  | [d] => { results := [.lit (.bool true)], args := [d] }
  | _ => none }
def eventActsRow : OpenClaim := { program := "ytelphbfdibfmoaa", sum := "97cc04fd1e80c943513e03bd6059e39c3b47725a4088fba765caf4b9245179ad", func := "peloton/pelotonlaw11.EventActs", spec := "eventActs", unfollowed := true, recurses := true, apart := false }
def EventActsSaid : Prop := eventActsRow.holds Try.pinned (OpenSpec.ofChange eventActsSpec)

/-- ITS FALSE NEIGHBOUR: 'it returns false'. Refute it at one input. -/
def eventActsWrong : ChangeSpec := { name := "eventActs", fn := fun _ => fun
  | [d] => { results := [.lit (.bool false)], args := [d] }
  | _ => none }
def EventActsWrongFalsely : Prop := eventActsRow.holds Try.pinned (OpenSpec.ofChange eventActsWrong)

/-- 'pelotonlaw11.EventWakes': WHATEVER THE INPUT: true; the input reads as it did. -/
def eventWakesSpec : ChangeSpec := { name := "eventWakes", fn := fun _ => fun
  | [d] => { results := [.lit (.bool true)], args := [d] }
  | _ => none }
def eventWakesRow : OpenClaim := { program := "ytelphbfdibfmoaa", sum := "97cc04fd1e80c943513e03bd6059e39c3b47725a4088fba765caf4b9245179ad", func := "peloton/pelotonlaw11.EventWakes", spec := "eventWakes", unfollowed := true, recurses := true, apart := false }
def EventWakesSaid : Prop := eventWakesRow.holds Try.pinned (OpenSpec.ofChange eventWakesSpec)

/-- ITS FALSE NEIGHBOUR: 'it returns false'. Refute it at one input. -/
def eventWakesWrong : ChangeSpec := { name := "eventWakes", fn := fun _ => fun
  | [d] => { results := [.lit (.bool false)], args := [d] }
  | _ => none }
def EventWakesWrongFalsely : Prop := eventWakesRow.holds Try.pinned (OpenSpec.ofChange eventWakesWrong)

/-- 'pelotonlaw01.CellsClone': WHATEVER THE INPUT: true; the input reads as it did. -/
def cellsCloneSpec : ChangeSpec := { name := "cellsClone", fn := fun _ => fun
  | [d1, d2] => { results := [.lit (.bool true)], args := [d1, d2] }
  | _ => none }
def cellsCloneRow : OpenClaim := { program := "ytelphbfdibfmoaa", sum := "97cc04fd1e80c943513e03bd6059e39c3b47725a4088fba765caf4b9245179ad", func := "peloton/pelotonlaw01.CellsClone", spec := "cellsClone", unfollowed := true, recurses := true, apart := false }
def CellsCloneSaid : Prop := cellsCloneRow.holds Try.pinned (OpenSpec.ofChange cellsCloneSpec)

/-- ITS FALSE NEIGHBOUR: 'it returns false'. Refute it at one input. -/
def cellsCloneWrong : ChangeSpec := { name := "cellsClone", fn := fun _ => fun
  | [d1, d2] => { results := [.lit (.bool false)], args := [d1, d2] }
  | _ => none }
def CellsCloneWrongFalsely : Prop := cellsCloneRow.holds Try.pinned (OpenSpec.ofChange cellsCloneWrong)

/-- 'pelotonlaw11.EventParked': WHATEVER THE INPUT: true; the input reads as it did. -/
def eventParkedSpec : ChangeSpec := { name := "eventParked", fn := fun _ => fun
  | [d1, d2, d3] => { results := [.lit (.bool true)], args := [d1, d2, d3] }
  | _ => none }
def eventParkedRow : OpenClaim := { program := "ytelphbfdibfmoaa", sum := "97cc04fd1e80c943513e03bd6059e39c3b47725a4088fba765caf4b9245179ad", func := "peloton/pelotonlaw11.EventParked", spec := "eventParked", unfollowed := true, recurses := true, apart := false }
def EventParkedSaid : Prop := eventParkedRow.holds Try.pinned (OpenSpec.ofChange eventParkedSpec)

/-- ITS FALSE NEIGHBOUR: 'it returns false'. Refute it at one input. -/
def eventParkedWrong : ChangeSpec := { name := "eventParked", fn := fun _ => fun
  | [d1, d2, d3] => { results := [.lit (.bool false)], args := [d1, d2, d3] }
  | _ => none }
def EventParkedWrongFalsely : Prop := eventParkedRow.holds Try.pinned (OpenSpec.ofChange eventParkedWrong)

/- THE SECOND FORM. 'bulk': how many values and letters a reading holds, each counted each time it is reached (what is shared counts as often as it is met; a slice's spare places count too). A statement '..UptoSaid' is the law's where the arguments, and the package variables that the reading takes, are together of bulk at most 1048576: NARROWER than '..Said'. Prove '..Said' where nothing that the law and all that it calls make is longer than what came in: it says more and counts as full. Else prove '..UptoSaid'. A law counts once. -/
mutual
def uptoBulk {H : Type} : DataW H → Nat
  | .lit (.string bytes) => bytes.length + 1
  | .lit _ => 1
  | .nil => 1
  | .ptr d => uptoBulk d + 1
  | .slice elems spare => uptoBulkAll elems + uptoBulkAll spare + 1
  | .agg parts => uptoBulkAll parts + 1
  | .iface _ d => uptoBulk d + 1
  | .map entries => uptoBulkEntries entries + 1
  | .held _ => 1
def uptoBulkAll {H : Type} : List (DataW H) → Nat
  | [] => 0
  | d :: r => uptoBulk d + uptoBulkAll r
def uptoBulkEntries {H : Type} : List (Lit × DataW H) → Nat
  | [] => 0
  | x :: r => uptoBulkEntry x + uptoBulkEntries r
def uptoBulkEntry {H : Type} : Lit × DataW H → Nat
  | (.string bytes, d) => bytes.length + uptoBulk d + 1
  | (_, d) => uptoBulk d + 1
 end
def uptoSmall : (H : Type) → List (DataW H) → Bool := fun _ ds => decide (uptoBulkAll ds ≤ 1048576)
def OpenSpec.upto (s : _root_.Go.ChangeSpec) : _root_.Go.OpenSpec := { _root_.Go.OpenSpec.ofChange s with cond := some uptoSmall }

/-- 'pelotonlaw01.CellsAdds', WHERE WHAT IT READS IS OF BULK AT MOST 1048576: true; the input reads as it did. -/
def cellsAddsUptoRow : OpenClaim := { program := "ytelphbfdibfmoaa", sum := "97cc04fd1e80c943513e03bd6059e39c3b47725a4088fba765caf4b9245179ad", func := "peloton/pelotonlaw01.CellsAdds", spec := "cellsAdds", unfollowed := true, recurses := true, apart := false, narrowed := true }
def CellsAddsUptoSaid : Prop := cellsAddsUptoRow.holds Try.pinned (OpenSpec.upto cellsAddsSpec)

/-- 'pelotonlaw01.CellsBack', WHERE WHAT IT READS IS OF BULK AT MOST 1048576: true; the input reads as it did. -/
def cellsBackUptoRow : OpenClaim := { program := "ytelphbfdibfmoaa", sum := "97cc04fd1e80c943513e03bd6059e39c3b47725a4088fba765caf4b9245179ad", func := "peloton/pelotonlaw01.CellsBack", spec := "cellsBack", unfollowed := true, recurses := true, apart := false, narrowed := true }
def CellsBackUptoSaid : Prop := cellsBackUptoRow.holds Try.pinned (OpenSpec.upto cellsBackSpec)

/-- 'pelotonlaw01.CellsMay', WHERE WHAT IT READS IS OF BULK AT MOST 1048576: true; the input reads as it did. -/
def cellsMayUptoRow : OpenClaim := { program := "ytelphbfdibfmoaa", sum := "97cc04fd1e80c943513e03bd6059e39c3b47725a4088fba765caf4b9245179ad", func := "peloton/pelotonlaw01.CellsMay", spec := "cellsMay", unfollowed := true, recurses := true, apart := false, narrowed := true }
def CellsMayUptoSaid : Prop := cellsMayUptoRow.holds Try.pinned (OpenSpec.upto cellsMaySpec)

/-- 'pelotonlaw01.CellsLeave', WHERE WHAT IT READS IS OF BULK AT MOST 1048576: true; the input reads as it did. -/
def cellsLeaveUptoRow : OpenClaim := { program := "ytelphbfdibfmoaa", sum := "97cc04fd1e80c943513e03bd6059e39c3b47725a4088fba765caf4b9245179ad", func := "peloton/pelotonlaw01.CellsLeave", spec := "cellsLeave", unfollowed := true, recurses := true, apart := false, narrowed := true }
def CellsLeaveUptoSaid : Prop := cellsLeaveUptoRow.holds Try.pinned (OpenSpec.upto cellsLeaveSpec)

/-- 'pelotonlaw01.CellsOnce', WHERE WHAT IT READS IS OF BULK AT MOST 1048576: true; the input reads as it did. -/
def cellsOnceUptoRow : OpenClaim := { program := "ytelphbfdibfmoaa", sum := "97cc04fd1e80c943513e03bd6059e39c3b47725a4088fba765caf4b9245179ad", func := "peloton/pelotonlaw01.CellsOnce", spec := "cellsOnce", unfollowed := true, recurses := true, apart := false, narrowed := true }
def CellsOnceUptoSaid : Prop := cellsOnceUptoRow.holds Try.pinned (OpenSpec.upto cellsOnceSpec)

/-- 'pelotonlaw01.CellsPlay', WHERE WHAT IT READS IS OF BULK AT MOST 1048576: true; the input reads as it did. -/
def cellsPlayUptoRow : OpenClaim := { program := "ytelphbfdibfmoaa", sum := "97cc04fd1e80c943513e03bd6059e39c3b47725a4088fba765caf4b9245179ad", func := "peloton/pelotonlaw01.CellsPlay", spec := "cellsPlay", unfollowed := true, recurses := true, apart := false, narrowed := true }
def CellsPlayUptoSaid : Prop := cellsPlayUptoRow.holds Try.pinned (OpenSpec.upto cellsPlaySpec)

/-- 'pelotonlaw11.EventRests', WHERE WHAT IT READS IS OF BULK AT MOST 1048576: true; the input reads as it did. -/
def eventRestsUptoRow : OpenClaim := { program := "ytelphbfdibfmoaa", sum := "97cc04fd1e80c943513e03bd6059e39c3b47725a4088fba765caf4b9245179ad", func := "peloton/pelotonlaw11.EventRests", spec := "eventRests", unfollowed := true, recurses := true, apart := false, narrowed := true }
def EventRestsUptoSaid : Prop := eventRestsUptoRow.holds Try.pinned (OpenSpec.upto eventRestsSpec)

/-- 'pelotonlaw11.EventActs', WHERE WHAT IT READS IS OF BULK AT MOST 1048576: true; the input reads as it did. -/
def eventActsUptoRow : OpenClaim := { program := "ytelphbfdibfmoaa", sum := "97cc04fd1e80c943513e03bd6059e39c3b47725a4088fba765caf4b9245179ad", func := "peloton/pelotonlaw11.EventActs", spec := "eventActs", unfollowed := true, recurses := true, apart := false, narrowed := true }
def EventActsUptoSaid : Prop := eventActsUptoRow.holds Try.pinned (OpenSpec.upto eventActsSpec)

/-- 'pelotonlaw11.EventWakes', WHERE WHAT IT READS IS OF BULK AT MOST 1048576: true; the input reads as it did. -/
def eventWakesUptoRow : OpenClaim := { program := "ytelphbfdibfmoaa", sum := "97cc04fd1e80c943513e03bd6059e39c3b47725a4088fba765caf4b9245179ad", func := "peloton/pelotonlaw11.EventWakes", spec := "eventWakes", unfollowed := true, recurses := true, apart := false, narrowed := true }
def EventWakesUptoSaid : Prop := eventWakesUptoRow.holds Try.pinned (OpenSpec.upto eventWakesSpec)

/-- 'pelotonlaw01.CellsClone', WHERE WHAT IT READS IS OF BULK AT MOST 1048576: true; the input reads as it did. -/
def cellsCloneUptoRow : OpenClaim := { program := "ytelphbfdibfmoaa", sum := "97cc04fd1e80c943513e03bd6059e39c3b47725a4088fba765caf4b9245179ad", func := "peloton/pelotonlaw01.CellsClone", spec := "cellsClone", unfollowed := true, recurses := true, apart := false, narrowed := true }
def CellsCloneUptoSaid : Prop := cellsCloneUptoRow.holds Try.pinned (OpenSpec.upto cellsCloneSpec)

/-- 'pelotonlaw11.EventParked', WHERE WHAT IT READS IS OF BULK AT MOST 1048576: true; the input reads as it did. -/
def eventParkedUptoRow : OpenClaim := { program := "ytelphbfdibfmoaa", sum := "97cc04fd1e80c943513e03bd6059e39c3b47725a4088fba765caf4b9245179ad", func := "peloton/pelotonlaw11.EventParked", spec := "eventParked", unfollowed := true, recurses := true, apart := false, narrowed := true }
def EventParkedUptoSaid : Prop := eventParkedUptoRow.holds Try.pinned (OpenSpec.upto eventParkedSpec)

end Rows
end Go.Proofs.Ytelphbfdibfmoaa
