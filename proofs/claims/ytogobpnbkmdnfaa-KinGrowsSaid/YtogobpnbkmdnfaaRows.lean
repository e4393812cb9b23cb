/-
  No cell of these rows narrows 'for every input' (looked for: loops, veiled, ifaces, maps, wideKeys, modest, calm, conditions, laid).
  DERIVED. THE GIVEN ROWS OF THIS SEAT. 6 by the template 'for every input the law returns true; each argument reads behind the call as it read before'; 0 by the template 'total and deterministic' (their statements: YtogobpnbkmdnfaaTotals.lean).
  GIVEN WITH THE SEED: the statements are not yours to turn. If you find one false, say at which input.
  Laid BY PROGRAM, IN A SANDBOX (cutbox-rows.mjs): the forced cells as the released guide's own fill.sh prints them over the translation 8a5e3f7d271d9d30… (all of the seat's roots in one cut). By AI agents, Wed Nov 11 2026. No macro, syntax, notation, axiom, sorry.
-/
import Derived.Test.YtogobpnbkmdnfaaChecked
import GoSem.Claim
import GoSem.ClaimJoined
import GoSem.ClaimMapViews
import Derived.JoinedTies
import Derived.KernelRfl
namespace Go.Proofs.Ytogobpnbkmdnfaa
/- THE CELL 'sum', in the pinned program and in every row, IS THE sha256 OF THE DUMP (.gsa) THAT YtogobpnbkmdnfaaProg.lean LOADS. Nothing in Lean hashes anything: it is a label: what it is worth is what the hold of that sum in a sandbox is worth. -/
noncomputable def Try.pinned : Pinned := { name := "ytogobpnbkmdnfaa", sum := "8a5e3f7d271d9d30e54735bb197b537dce63e48d551ad8cda2af660a39ec96ea", checked := Try.checked }
namespace Rows
def none {H : Type} : Left H := { results := [], args := [] }

/-- 'pelotonlaw16.KinTells': WHATEVER THE INPUT: true; the input reads as it did. -/
def kinTellsSpec : ChangeSpec := { name := "kinTells", fn := fun _ => fun
  | [d1, d2, d3] => { results := [.lit (.bool true)], args := [d1, d2, d3] }
  | _ => none }
def kinTellsRow : OpenClaim := { program := "ytogobpnbkmdnfaa", sum := "8a5e3f7d271d9d30e54735bb197b537dce63e48d551ad8cda2af660a39ec96ea", func := "peloton/pelotonlaw16.KinTells", spec := "kinTells", unfollowed := true, recurses := true, apart := false }
def KinTellsSaid : Prop := kinTellsRow.holds Try.pinned (OpenSpec.ofChange kinTellsSpec)

/-- ITS FALSE NEIGHBOUR: 'it returns false'. Refute it at one input. -/
def kinTellsWrong : ChangeSpec := { name := "kinTells", fn := fun _ => fun
  | [d1, d2, d3] => { results := [.lit (.bool false)], args := [d1, d2, d3] }
  | _ => none }
def KinTellsWrongFalsely : Prop := kinTellsRow.holds Try.pinned (OpenSpec.ofChange kinTellsWrong)

/-- 'pelotonlaw16.KinWays': WHATEVER THE INPUT: true; the input reads as it did. -/
def kinWaysSpec : ChangeSpec := { name := "kinWays", fn := fun _ => fun
  | [d1, d2, d3] => { results := [.lit (.bool true)], args := [d1, d2, d3] }
  | _ => none }
def kinWaysRow : OpenClaim := { program := "ytogobpnbkmdnfaa", sum := "8a5e3f7d271d9d30e54735bb197b537dce63e48d551ad8cda2af660a39ec96ea", func := "peloton/pelotonlaw16.KinWays", spec := "kinWays", unfollowed := true, recurses := true, apart := false }
def KinWaysSaid : Prop := kinWaysRow.holds Try.pinned (OpenSpec.ofChange kinWaysSpec)

/-- ITS FALSE NEIGHBOUR: 'it returns false'. Refute it at one input. -/
def kinWaysWrong : ChangeSpec := { name := "kinWays", fn := fun _ => fun
  | [d1, d2, d3] => { results := [.lit (.bool false)], args := [d1, d2, d3] }
  | _ => none }
def KinWaysWrongFalsely : Prop := kinWaysRow.holds Try.pinned (OpenSpec.ofChange kinWaysWrong)

/-- 'pelotonlaw16.KinOrders': WHATEVER THE INPUT: true; the input reads as it did. -/
def kinOrdersSpec : ChangeSpec := { name := "kinOrders", fn := fun _ => fun
  | [d1, d2] => { results := [.lit (.bool true)], args := [d1, d2] }
  | _ => none }
def kinOrdersRow : OpenClaim := { program := "ytogobpnbkmdnfaa", sum := "8a5e3f7d271d9d30e54735bb197b537dce63e48d551ad8cda2af660a39ec96ea", func := "peloton/pelotonlaw16.KinOrders", spec := "kinOrders", unfollowed := true, recurses := true, apart := false }
def KinOrdersSaid : Prop := kinOrdersRow.holds Try.pinned (OpenSpec.ofChange kinOrdersSpec)

/-- ITS FALSE NEIGHBOUR: 'it returns false'. Refute it at one input. -/
def kinOrdersWrong : ChangeSpec := { name := "kinOrders", fn := fun _ => fun
  | [d1, d2] => { results := [.lit (.bool false)], args := [d1, d2] }
  | _ => none }
def KinOrdersWrongFalsely : Prop := kinOrdersRow.holds Try.pinned (OpenSpec.ofChange kinOrdersWrong)

/-- 'pelotonlaw16.KinAdds': WHATEVER THE INPUT: true; the input reads as it did. -/
def kinAddsSpec : ChangeSpec := { name := "kinAdds", fn := fun _ => fun
  | [d1, d2] => { results := [.lit (.bool true)], args := [d1, d2] }
  | _ => none }
def kinAddsRow : OpenClaim := { program := "ytogobpnbkmdnfaa", sum := "8a5e3f7d271d9d30e54735bb197b537dce63e48d551ad8cda2af660a39ec96ea", func := "peloton/pelotonlaw16.KinAdds", spec := "kinAdds", unfollowed := true, recurses := true, apart := false }
def KinAddsSaid : Prop := kinAddsRow.holds Try.pinned (OpenSpec.ofChange kinAddsSpec)

/-- ITS FALSE NEIGHBOUR: 'it returns false'. Refute it at one input. -/
def kinAddsWrong : ChangeSpec := { name := "kinAdds", fn := fun _ => fun
  | [d1, d2] => { results := [.lit (.bool false)], args := [d1, d2] }
  | _ => none }
def KinAddsWrongFalsely : Prop := kinAddsRow.holds Try.pinned (OpenSpec.ofChange kinAddsWrong)

/-- 'pelotonlaw16.KinGrows': WHATEVER THE INPUT: true; the input reads as it did. -/
def kinGrowsSpec : ChangeSpec := { name := "kinGrows", fn := fun _ => fun
  | [d1, d2] => { results := [.lit (.bool true)], args := [d1, d2] }
  | _ => none }
def kinGrowsRow : OpenClaim := { program := "ytogobpnbkmdnfaa", sum := "8a5e3f7d271d9d30e54735bb197b537dce63e48d551ad8cda2af660a39ec96ea", func := "peloton/pelotonlaw16.KinGrows", spec := "kinGrows", unfollowed := true, recurses := true, apart := false }
def KinGrowsSaid : Prop := kinGrowsRow.holds Try.pinned (OpenSpec.ofChange kinGrowsSpec)

/-- ITS FALSE NEIGHBOUR: 'it returns false'. Refute it at one input. -/
def kinGrowsWrong : ChangeSpec := { name := "kinGrows", fn := fun _ => fun
  | [d1, d2] => { results := [.lit (.bool false)], args := [d1, d2] }
  | _ => none }
def KinGrowsWrongFalsely : Prop := kinGrowsRow.holds Try.pinned (OpenSpec.ofChange kinGrowsWrong)

/-- 'pelotonlaw16.KinNil': WHATEVER THE INPUT: true; the input reads as it did. -/
def kinNilSpec : ChangeSpec := { name := "kinNil", fn := fun _ => fun
  | [d1, d2, d3] => { results := [.lit (.bool true)], args := [d1, d2, d3] }
  | _ => none }
def kinNilRow : OpenClaim := { program := "ytogobpnbkmdnfaa", sum := "8a5e3f7d271d9d30e54735bb197b537dce63e48d551ad8cda2af660a39ec96ea", func := "peloton/pelotonlaw16.KinNil", spec := "kinNil", unfollowed := true, recurses := true, apart := false }
def KinNilSaid : Prop := kinNilRow.holds Try.pinned (OpenSpec.ofChange kinNilSpec)

/-- ITS FALSE NEIGHBOUR: 'it returns false'. Refute it at one input. -/
def kinNilWrong : ChangeSpec := { name := "kinNil", fn := fun _ => fun
  | [d1, d2, d3] => { results := [.lit (.bool false)], args := [d1, d2, d3] }
  | _ => none }
def KinNilWrongFalsely : Prop := kinNilRow.holds Try.pinned (OpenSpec.ofChange kinNilWrong)

/- THE SECOND FORM. 'bulk': how many values and letters a reading holds, each counted each time it is reached (what is shared counts as often as it is met; a slice's spare places count too). A statement '..UptoSaid' is the law's where the arguments, and the package variables that the reading takes, are together of bulk at most 1048576: NARROWER than '..Said'. Prove '..Said' where nothing that the law and all that it calls make is longer than what came in: it says more and counts as full. Else prove '..UptoSaid'. A law counts once. -/
mutual
def uptoBulk {H : Type} : DataW H → Nat
  | .lit (.string bytes) => bytes.length + 1
  | .lit _ => 1
  | .nil => 1
  | .ptr d => uptoBulk d + 1
  | .slice elems spare => uptoBulkAll elems + uptoBulkAll spare + 1
  | .agg parts => uptoBulkAll parts + 1
  | .iface _ d => uptoBulk d + 1
  | .map entries => uptoBulkEntries entries + 1
  | .held _ => 1
def uptoBulkAll {H : Type} : List (DataW H) → Nat
  | [] => 0
  | d :: r => uptoBulk d + uptoBulkAll r
def uptoBulkEntries {H : Type} : List (Lit × DataW H) → Nat
  | [] => 0
  | x :: r => uptoBulkEntry x + uptoBulkEntries r
def uptoBulkEntry {H : Type} : Lit × DataW H → Nat
  | (.string bytes, d) => bytes.length + uptoBulk d + 1
  | (_, d) => uptoBulk d + 1
 end
def uptoSmall : (H : Type) → List (DataW H) → Bool := fun _ ds => decide (uptoBulkAll ds ≤ 1048576)
def OpenSpec.upto (s : _root_.Go.ChangeSpec) : _root_.Go.OpenSpec := { _root_.Go.OpenSpec.ofChange s with cond := some uptoSmall }

/-- 'pelotonlaw16.KinTells', WHERE WHAT IT READS IS OF BULK AT MOST 1048576: true; the input reads as it did. -/
def kinTellsUptoRow : OpenClaim := { program := "ytogobpnbkmdnfaa", sum := "8a5e3f7d271d9d30e54735bb197b537dce63e48d551ad8cda2af660a39ec96ea", func := "peloton/pelotonlaw16.KinTells", spec := "kinTells", unfollowed := true, recurses := true, apart := false, narrowed := true }
def KinTellsUptoSaid : Prop := kinTellsUptoRow.holds Try.pinned (OpenSpec.upto kinTellsSpec)

/-- 'pelotonlaw16.KinWays', WHERE WHAT IT READS IS OF BULK AT MOST 1048576: true; the input reads as it did. -/
def kinWaysUptoRow : OpenClaim := { program := "ytogobpnbkmdnfaa", sum := "8a5e3f7d271d9d30e54735bb197b537dce63e48d551ad8cda2af660a39ec96ea", func := "peloton/pelotonlaw16.KinWays", spec := "kinWays", unfollowed := true, recurses := true, apart := false, narrowed := true }
def KinWaysUptoSaid : Prop := kinWaysUptoRow.holds Try.pinned (OpenSpec.upto kinWaysSpec)

/-- 'pelotonlaw16.KinOrders', WHERE WHAT IT READS IS OF BULK AT MOST 1048576: true; the input reads as it did. -/
def kinOrdersUptoRow : OpenClaim := { program := "ytogobpnbkmdnfaa", sum := "8a5e3f7d271d9d30e54735bb197b537dce63e48d551ad8cda2af660a39ec96ea", func := "peloton/pelotonlaw16.KinOrders", spec := "kinOrders", unfollowed := true, recurses := true, apart := false, narrowed := true }
def KinOrdersUptoSaid : Prop := kinOrdersUptoRow.holds Try.pinned (OpenSpec.upto kinOrdersSpec)

/-- 'pelotonlaw16.KinAdds', WHERE WHAT IT READS IS OF BULK AT MOST 1048576: true; the input reads as it did. -/
def kinAddsUptoRow : OpenClaim := { program := "ytogobpnbkmdnfaa", sum := "8a5e3f7d271d9d30e54735bb197b537dce63e48d551ad8cda2af660a39ec96ea", func := "peloton/pelotonlaw16.KinAdds", spec := "kinAdds", unfollowed := true, recurses := true, apart := false, narrowed := true }
def KinAddsUptoSaid : Prop := kinAddsUptoRow.holds Try.pinned (OpenSpec.upto kinAddsSpec)

/-- 'pelotonlaw16.KinGrows', WHERE WHAT IT READS IS OF BULK AT MOST 1048576: true; the input reads as it did. -/
def kinGrowsUptoRow : OpenClaim := { program := "ytogobpnbkmdnfaa", sum := "8a5e3f7d271d9d30e54735bb197b537dce63e48d551ad8cda2af660a39ec96ea", func := "peloton/pelotonlaw16.KinGrows", spec := "kinGrows", unfollowed := true, recurses := true, apart := false, narrowed := true }
def KinGrowsUptoSaid : Prop := kinGrowsUptoRow.holds Try.pinned (OpenSpec.upto kinGrowsSpec)

/-- 'pelotonlaw16.KinNil', WHERE WHAT IT READS IS OF BULK AT MOST 1048576: true; the input reads as it did. -/
def kinNilUptoRow : OpenClaim := { program := "ytogobpnbkmdnfaa", sum := "8a5e3f7d271d9d30e54735bb197b537dce63e48d551ad8cda2af660a39ec96ea", func := "peloton/pelotonlaw16.KinNil", spec := "kinNil", unfollowed := true, recurses := true, apart := false, narrowed := true }
def KinNilUptoSaid : Prop := kinNilUptoRow.holds Try.pinned (OpenSpec.upto kinNilSpec)

end Rows
end Go.Proofs.Ytogobpnbkmdnfaa
