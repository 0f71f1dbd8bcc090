/-
  NARROWER THAN 'FOR EVERY INPUT', by the rows' own cells (each row's printed sentence says how): FairScripts: loops · FairMore: loops.
  DERIVED. THE GIVEN ROWS OF THIS SEAT. 5 by the template 'for every input the law returns true; each argument reads behind the call as it read before'; 0 by the template 'total and deterministic' (their statements: YtniopaimhncmkaaTotals.lean).
  GIVEN WITH THE SEED: the statements are not yours to turn. If you find one false, say at which input.
  Laid BY PROGRAM, IN A SANDBOX (cutbox-rows.mjs): the forced cells as the released guide's own fill.sh prints them over the translation c352a6321fc96904… (all of the seat's roots in one cut). By AI agents, Wed Nov 11 2026. No macro, syntax, notation, axiom, sorry.
-/
import Derived.Test.YtniopaimhncmkaaChecked
import GoSem.Claim
import GoSem.ClaimJoined
import GoSem.ClaimMapViews
import Derived.JoinedTies
import Derived.KernelRfl
namespace Go.Proofs.Ytniopaimhncmkaa
/- THE CELL 'sum', in the pinned program and in every row, IS THE sha256 OF THE DUMP (.gsa) THAT YtniopaimhncmkaaProg.lean LOADS. Nothing in Lean hashes anything: it is a label: what it is worth is what the hold of that sum in a sandbox is worth. -/
noncomputable def Try.pinned : Pinned := { name := "ytniopaimhncmkaa", sum := "c352a6321fc9690407b9969ca7356f171f0dd64981f041d2e4dac44622945756", checked := Try.checked }
namespace Rows
def none {H : Type} : Left H := { results := [], args := [] }

/-- 'troupelaw24.FairBounds': WHATEVER THE INPUT: true; the input reads as it did. -/
def fairBoundsSpec : ChangeSpec := { name := "fairBounds", fn := fun _ => fun
  | [d1, d2] => { results := [.lit (.bool true)], args := [d1, d2] }
  | _ => none }
def fairBoundsRow : OpenClaim := { program := "ytniopaimhncmkaa", sum := "c352a6321fc9690407b9969ca7356f171f0dd64981f041d2e4dac44622945756", func := "troupe/troupelaw24.FairBounds", spec := "fairBounds", apart := false }
def FairBoundsSaid : Prop := fairBoundsRow.holds Try.pinned (OpenSpec.ofChange fairBoundsSpec)

/-- ITS FALSE NEIGHBOUR: 'it returns false'. Refute it at one input. -/
def fairBoundsWrong : ChangeSpec := { name := "fairBounds", fn := fun _ => fun
  | [d1, d2] => { results := [.lit (.bool false)], args := [d1, d2] }
  | _ => none }
def FairBoundsWrongFalsely : Prop := fairBoundsRow.holds Try.pinned (OpenSpec.ofChange fairBoundsWrong)

/-- 'troupelaw24.FairGrows': WHATEVER THE INPUT: true; the input reads as it did. -/
def fairGrowsSpec : ChangeSpec := { name := "fairGrows", fn := fun _ => fun
  | [d1, d2] => { results := [.lit (.bool true)], args := [d1, d2] }
  | _ => none }
def fairGrowsRow : OpenClaim := { program := "ytniopaimhncmkaa", sum := "c352a6321fc9690407b9969ca7356f171f0dd64981f041d2e4dac44622945756", func := "troupe/troupelaw24.FairGrows", spec := "fairGrows", apart := false }
def FairGrowsSaid : Prop := fairGrowsRow.holds Try.pinned (OpenSpec.ofChange fairGrowsSpec)

/-- ITS FALSE NEIGHBOUR: 'it returns false'. Refute it at one input. -/
def fairGrowsWrong : ChangeSpec := { name := "fairGrows", fn := fun _ => fun
  | [d1, d2] => { results := [.lit (.bool false)], args := [d1, d2] }
  | _ => none }
def FairGrowsWrongFalsely : Prop := fairGrowsRow.holds Try.pinned (OpenSpec.ofChange fairGrowsWrong)

/-- 'troupelaw24.FairScripts': WHATEVER THE INPUT: true; the input reads as it did. -/
def fairScriptsSpec : ChangeSpec := { name := "fairScripts", fn := fun _ => fun
  | [d1, d2, d3] => { results := [.lit (.bool true)], args := [d1, d2, d3] }
  | _ => none }
def fairScriptsRow : OpenClaim := { program := "ytniopaimhncmkaa", sum := "c352a6321fc9690407b9969ca7356f171f0dd64981f041d2e4dac44622945756", func := "troupe/troupelaw24.FairScripts", spec := "fairScripts", recurses := true, loops := true, apart := false }
def FairScriptsSaid : Prop := fairScriptsRow.holds Try.pinned (OpenSpec.ofChange fairScriptsSpec)

/-- ITS FALSE NEIGHBOUR: 'it returns false'. Refute it at one input. -/
def fairScriptsWrong : ChangeSpec := { name := "fairScripts", fn := fun _ => fun
  | [d1, d2, d3] => { results := [.lit (.bool false)], args := [d1, d2, d3] }
  | _ => none }
def FairScriptsWrongFalsely : Prop := fairScriptsRow.holds Try.pinned (OpenSpec.ofChange fairScriptsWrong)

/-- 'troupelaw24.FairMore': WHATEVER THE INPUT: true; the input reads as it did. -/
def fairMoreSpec : ChangeSpec := { name := "fairMore", fn := fun _ => fun
  | [d1, d2, d3] => { results := [.lit (.bool true)], args := [d1, d2, d3] }
  | _ => none }
def fairMoreRow : OpenClaim := { program := "ytniopaimhncmkaa", sum := "c352a6321fc9690407b9969ca7356f171f0dd64981f041d2e4dac44622945756", func := "troupe/troupelaw24.FairMore", spec := "fairMore", recurses := true, loops := true, apart := false }
def FairMoreSaid : Prop := fairMoreRow.holds Try.pinned (OpenSpec.ofChange fairMoreSpec)

/-- ITS FALSE NEIGHBOUR: 'it returns false'. Refute it at one input. -/
def fairMoreWrong : ChangeSpec := { name := "fairMore", fn := fun _ => fun
  | [d1, d2, d3] => { results := [.lit (.bool false)], args := [d1, d2, d3] }
  | _ => none }
def FairMoreWrongFalsely : Prop := fairMoreRow.holds Try.pinned (OpenSpec.ofChange fairMoreWrong)

/-- 'troupelaw24.FairRounds': WHATEVER THE INPUT: true; the input reads as it did. -/
def fairRoundsSpec : ChangeSpec := { name := "fairRounds", fn := fun _ => fun
  | [d1, d2, d3] => { results := [.lit (.bool true)], args := [d1, d2, d3] }
  | _ => none }
def fairRoundsRow : OpenClaim := { program := "ytniopaimhncmkaa", sum := "c352a6321fc9690407b9969ca7356f171f0dd64981f041d2e4dac44622945756", func := "troupe/troupelaw24.FairRounds", spec := "fairRounds", recurses := true, apart := false }
def FairRoundsSaid : Prop := fairRoundsRow.holds Try.pinned (OpenSpec.ofChange fairRoundsSpec)

/-- ITS FALSE NEIGHBOUR: 'it returns false'. Refute it at one input. -/
def fairRoundsWrong : ChangeSpec := { name := "fairRounds", fn := fun _ => fun
  | [d1, d2, d3] => { results := [.lit (.bool false)], args := [d1, d2, d3] }
  | _ => none }
def FairRoundsWrongFalsely : Prop := fairRoundsRow.holds Try.pinned (OpenSpec.ofChange fairRoundsWrong)

/- THE SECOND FORM. 'bulk': how many values and letters a reading holds, each counted each time it is reached (what is shared counts as often as it is met; a slice's spare places count too). A statement '..UptoSaid' is the law's where the arguments, and the package variables that the reading takes, are together of bulk at most 1048576: NARROWER than '..Said'. Prove '..Said' where nothing that the law and all that it calls make is longer than what came in: it says more and counts as full. Else prove '..UptoSaid'. A law counts once. -/
mutual
def uptoBulk {H : Type} : DataW H → Nat
  | .lit (.string bytes) => bytes.length + 1
  | .lit _ => 1
  | .nil => 1
  | .ptr d => uptoBulk d + 1
  | .slice elems spare => uptoBulkAll elems + uptoBulkAll spare + 1
  | .agg parts => uptoBulkAll parts + 1
  | .iface _ d => uptoBulk d + 1
  | .map entries => uptoBulkEntries entries + 1
  | .held _ => 1
def uptoBulkAll {H : Type} : List (DataW H) → Nat
  | [] => 0
  | d :: r => uptoBulk d + uptoBulkAll r
def uptoBulkEntries {H : Type} : List (Lit × DataW H) → Nat
  | [] => 0
  | x :: r => uptoBulkEntry x + uptoBulkEntries r
def uptoBulkEntry {H : Type} : Lit × DataW H → Nat
  | (.string bytes, d) => bytes.length + uptoBulk d + 1
  | (_, d) => uptoBulk d + 1
 end
def uptoSmall : (H : Type) → List (DataW H) → Bool := fun _ ds => decide (uptoBulkAll ds ≤ 1048576)
def OpenSpec.upto (s : _root_.Go.ChangeSpec) : _root_.Go.OpenSpec := { _root_.Go.OpenSpec.ofChange s with cond := some uptoSmall }

/-- 'troupelaw24.FairBounds', WHERE WHAT IT READS IS OF BULK AT MOST 1048576: true; the input reads as it did. -/
def fairBoundsUptoRow : OpenClaim := { program := "ytniopaimhncmkaa", sum := "c352a6321fc9690407b9969ca7356f171f0dd64981f041d2e4dac44622945756", func := "troupe/troupelaw24.FairBounds", spec := "fairBounds", apart := false, narrowed := true }
def FairBoundsUptoSaid : Prop := fairBoundsUptoRow.holds Try.pinned (OpenSpec.upto fairBoundsSpec)

/-- 'troupelaw24.FairGrows', WHERE WHAT IT READS IS OF BULK AT MOST 1048576: true; the input reads as it did. -/
def fairGrowsUptoRow : OpenClaim := { program := "ytniopaimhncmkaa", sum := "c352a6321fc9690407b9969ca7356f171f0dd64981f041d2e4dac44622945756", func := "troupe/troupelaw24.FairGrows", spec := "fairGrows", apart := false, narrowed := true }
def FairGrowsUptoSaid : Prop := fairGrowsUptoRow.holds Try.pinned (OpenSpec.upto fairGrowsSpec)

/-- 'troupelaw24.FairScripts', WHERE WHAT IT READS IS OF BULK AT MOST 1048576: true; the input reads as it did. -/
def fairScriptsUptoRow : OpenClaim := { program := "ytniopaimhncmkaa", sum := "c352a6321fc9690407b9969ca7356f171f0dd64981f041d2e4dac44622945756", func := "troupe/troupelaw24.FairScripts", spec := "fairScripts", recurses := true, loops := true, apart := false, narrowed := true }
def FairScriptsUptoSaid : Prop := fairScriptsUptoRow.holds Try.pinned (OpenSpec.upto fairScriptsSpec)

/-- 'troupelaw24.FairMore', WHERE WHAT IT READS IS OF BULK AT MOST 1048576: true; the input reads as it did. -/
def fairMoreUptoRow : OpenClaim := { program := "ytniopaimhncmkaa", sum := "c352a6321fc9690407b9969ca7356f171f0dd64981f041d2e4dac44622945756", func := "troupe/troupelaw24.FairMore", spec := "fairMore", recurses := true, loops := true, apart := false, narrowed := true }
def FairMoreUptoSaid : Prop := fairMoreUptoRow.holds Try.pinned (OpenSpec.upto fairMoreSpec)

/-- 'troupelaw24.FairRounds', WHERE WHAT IT READS IS OF BULK AT MOST 1048576: true; the input reads as it did. -/
def fairRoundsUptoRow : OpenClaim := { program := "ytniopaimhncmkaa", sum := "c352a6321fc9690407b9969ca7356f171f0dd64981f041d2e4dac44622945756", func := "troupe/troupelaw24.FairRounds", spec := "fairRounds", recurses := true, apart := false, narrowed := true }
def FairRoundsUptoSaid : Prop := fairRoundsUptoRow.holds Try.pinned (OpenSpec.upto fairRoundsSpec)

end Rows
end Go.Proofs.Ytniopaimhncmkaa
