/-
  No cell of these rows narrows 'for every input' (looked for: loops, veiled, ifaces, maps, wideKeys, modest, calm, conditions, laid).
  DERIVED. THE GIVEN ROWS OF THIS SEAT. 6 by the template 'for every input the law returns true; each argument reads behind the call as it read before'; 0 by the template 'total and deterministic' (their statements: YtlbdfhbkemikgaaTotals.lean).
  GIVEN WITH THE SEED: the statements are not yours to turn. If you find one false, say at which input.
  Laid BY PROGRAM, IN A SANDBOX (cutbox-rows.mjs): the forced cells as the released guide's own fill.sh prints them over the translation 6043881e80daaa39… (all of the seat's roots in one cut). By AI agents, Wed Nov 11 2026. No macro, syntax, notation, axiom, sorry.
-/
import Derived.Test.YtlbdfhbkemikgaaChecked
import GoSem.Claim
import GoSem.ClaimJoined
import GoSem.ClaimMapViews
import Derived.JoinedTies
import Derived.KernelRfl
namespace Go.Proofs.Ytlbdfhbkemikgaa
/- THE CELL 'sum', in the pinned program and in every row, IS THE sha256 OF THE DUMP (.gsa) THAT YtlbdfhbkemikgaaProg.lean LOADS. Nothing in Lean hashes anything: it is a label: what it is worth is what the hold of that sum in a sandbox is worth. -/
noncomputable def Try.pinned : Pinned := { name := "ytlbdfhbkemikgaa", sum := "6043881e80daaa391471dc2c13075fd43ad61f25ce0def4c35e40ba8e430b86b", checked := Try.checked }
namespace Rows
def none {H : Type} : Left H := { results := [], args := [] }

/-- 'troupelaw13.WheelTies': WHATEVER THE INPUT: true; the input reads as it did. -/
def wheelTiesSpec : ChangeSpec := { name := "wheelTies", fn := fun _ => fun
  | [d] => { results := [.lit (.bool true)], args := [d] }
  | _ => none }
def wheelTiesRow : OpenClaim := { program := "ytlbdfhbkemikgaa", sum := "6043881e80daaa391471dc2c13075fd43ad61f25ce0def4c35e40ba8e430b86b", func := "troupe/troupelaw13.WheelTies", spec := "wheelTies", unfollowed := true, recurses := true, apart := false }
def WheelTiesSaid : Prop := wheelTiesRow.holds Try.pinned (OpenSpec.ofChange wheelTiesSpec)

/-- ITS FALSE NEIGHBOUR: 'it returns false'. Refute it at one input. -/
def wheelTiesWrong : ChangeSpec := { name := "wheelTies", fn := fun _ => fun
  | [d] => { results := [.lit (.bool false)], args := [d] }
  | _ => none }
def WheelTiesWrongFalsely : Prop := wheelTiesRow.holds Try.pinned (OpenSpec.ofChange wheelTiesWrong)

/-- 'troupelaw13.WheelParts': WHATEVER THE INPUT: true; the input reads as it did. -/
def wheelPartsSpec : ChangeSpec := { name := "wheelParts", fn := fun _ => fun
  | [d1, d2] => { results := [.lit (.bool true)], args := [d1, d2] }
  | _ => none }
def wheelPartsRow : OpenClaim := { program := "ytlbdfhbkemikgaa", sum := "6043881e80daaa391471dc2c13075fd43ad61f25ce0def4c35e40ba8e430b86b", func := "troupe/troupelaw13.WheelParts", spec := "wheelParts", unfollowed := true, recurses := true, apart := false }
def WheelPartsSaid : Prop := wheelPartsRow.holds Try.pinned (OpenSpec.ofChange wheelPartsSpec)

/-- ITS FALSE NEIGHBOUR: 'it returns false'. Refute it at one input. -/
def wheelPartsWrong : ChangeSpec := { name := "wheelParts", fn := fun _ => fun
  | [d1, d2] => { results := [.lit (.bool false)], args := [d1, d2] }
  | _ => none }
def WheelPartsWrongFalsely : Prop := wheelPartsRow.holds Try.pinned (OpenSpec.ofChange wheelPartsWrong)

/-- 'troupelaw13.WheelFar': WHATEVER THE INPUT: true; the input reads as it did. -/
def wheelFarSpec : ChangeSpec := { name := "wheelFar", fn := fun _ => fun
  | [d1, d2] => { results := [.lit (.bool true)], args := [d1, d2] }
  | _ => none }
def wheelFarRow : OpenClaim := { program := "ytlbdfhbkemikgaa", sum := "6043881e80daaa391471dc2c13075fd43ad61f25ce0def4c35e40ba8e430b86b", func := "troupe/troupelaw13.WheelFar", spec := "wheelFar", unfollowed := true, recurses := true, apart := false }
def WheelFarSaid : Prop := wheelFarRow.holds Try.pinned (OpenSpec.ofChange wheelFarSpec)

/-- ITS FALSE NEIGHBOUR: 'it returns false'. Refute it at one input. -/
def wheelFarWrong : ChangeSpec := { name := "wheelFar", fn := fun _ => fun
  | [d1, d2] => { results := [.lit (.bool false)], args := [d1, d2] }
  | _ => none }
def WheelFarWrongFalsely : Prop := wheelFarRow.holds Try.pinned (OpenSpec.ofChange wheelFarWrong)

/-- 'troupelaw13.WheelExpires': WHATEVER THE INPUT: true; the input reads as it did. -/
def wheelExpiresSpec : ChangeSpec := { name := "wheelExpires", fn := fun _ => fun
  | [d1, d2, d3] => { results := [.lit (.bool true)], args := [d1, d2, d3] }
  | _ => none }
def wheelExpiresRow : OpenClaim := { program := "ytlbdfhbkemikgaa", sum := "6043881e80daaa391471dc2c13075fd43ad61f25ce0def4c35e40ba8e430b86b", func := "troupe/troupelaw13.WheelExpires", spec := "wheelExpires", unfollowed := true, recurses := true, apart := false }
def WheelExpiresSaid : Prop := wheelExpiresRow.holds Try.pinned (OpenSpec.ofChange wheelExpiresSpec)

/-- ITS FALSE NEIGHBOUR: 'it returns false'. Refute it at one input. -/
def wheelExpiresWrong : ChangeSpec := { name := "wheelExpires", fn := fun _ => fun
  | [d1, d2, d3] => { results := [.lit (.bool false)], args := [d1, d2, d3] }
  | _ => none }
def WheelExpiresWrongFalsely : Prop := wheelExpiresRow.holds Try.pinned (OpenSpec.ofChange wheelExpiresWrong)

/-- 'troupelaw13.WheelMost': WHATEVER THE INPUT: true; the input reads as it did. -/
def wheelMostSpec : ChangeSpec := { name := "wheelMost", fn := fun _ => fun
  | [d1, d2] => { results := [.lit (.bool true)], args := [d1, d2] }
  | _ => none }
def wheelMostRow : OpenClaim := { program := "ytlbdfhbkemikgaa", sum := "6043881e80daaa391471dc2c13075fd43ad61f25ce0def4c35e40ba8e430b86b", func := "troupe/troupelaw13.WheelMost", spec := "wheelMost", unfollowed := true, recurses := true, apart := false }
def WheelMostSaid : Prop := wheelMostRow.holds Try.pinned (OpenSpec.ofChange wheelMostSpec)

/-- ITS FALSE NEIGHBOUR: 'it returns false'. Refute it at one input. -/
def wheelMostWrong : ChangeSpec := { name := "wheelMost", fn := fun _ => fun
  | [d1, d2] => { results := [.lit (.bool false)], args := [d1, d2] }
  | _ => none }
def WheelMostWrongFalsely : Prop := wheelMostRow.holds Try.pinned (OpenSpec.ofChange wheelMostWrong)

/-- 'troupelaw13.WheelPlays': WHATEVER THE INPUT: true; the input reads as it did. -/
def wheelPlaysSpec : ChangeSpec := { name := "wheelPlays", fn := fun _ => fun
  | [d1, d2] => { results := [.lit (.bool true)], args := [d1, d2] }
  | _ => none }
def wheelPlaysRow : OpenClaim := { program := "ytlbdfhbkemikgaa", sum := "6043881e80daaa391471dc2c13075fd43ad61f25ce0def4c35e40ba8e430b86b", func := "troupe/troupelaw13.WheelPlays", spec := "wheelPlays", unfollowed := true, recurses := true, apart := false }
def WheelPlaysSaid : Prop := wheelPlaysRow.holds Try.pinned (OpenSpec.ofChange wheelPlaysSpec)

/-- ITS FALSE NEIGHBOUR: 'it returns false'. Refute it at one input. -/
def wheelPlaysWrong : ChangeSpec := { name := "wheelPlays", fn := fun _ => fun
  | [d1, d2] => { results := [.lit (.bool false)], args := [d1, d2] }
  | _ => none }
def WheelPlaysWrongFalsely : Prop := wheelPlaysRow.holds Try.pinned (OpenSpec.ofChange wheelPlaysWrong)

/- THE SECOND FORM. 'bulk': how many values and letters a reading holds, each counted each time it is reached (what is shared counts as often as it is met; a slice's spare places count too). A statement '..UptoSaid' is the law's where the arguments, and the package variables that the reading takes, are together of bulk at most 1048576: NARROWER than '..Said'. Prove '..Said' where nothing that the law and all that it calls make is longer than what came in: it says more and counts as full. Else prove '..UptoSaid'. A law counts once. -/
mutual
def uptoBulk {H : Type} : DataW H → Nat
  | .lit (.string bytes) => bytes.length + 1
  | .lit _ => 1
  | .nil => 1
  | .ptr d => uptoBulk d + 1
  | .slice elems spare => uptoBulkAll elems + uptoBulkAll spare + 1
  | .agg parts => uptoBulkAll parts + 1
  | .iface _ d => uptoBulk d + 1
  | .map entries => uptoBulkEntries entries + 1
  | .held _ => 1
def uptoBulkAll {H : Type} : List (DataW H) → Nat
  | [] => 0
  | d :: r => uptoBulk d + uptoBulkAll r
def uptoBulkEntries {H : Type} : List (Lit × DataW H) → Nat
  | [] => 0
  | x :: r => uptoBulkEntry x + uptoBulkEntries r
def uptoBulkEntry {H : Type} : Lit × DataW H → Nat
  | (.string bytes, d) => bytes.length + uptoBulk d + 1
  | (_, d) => uptoBulk d + 1
 end
def uptoSmall : (H : Type) → List (DataW H) → Bool := fun _ ds => decide (uptoBulkAll ds ≤ 1048576)
def OpenSpec.upto (s : _root_.Go.ChangeSpec) : _root_.Go.OpenSpec := { _root_.Go.OpenSpec.ofChange s with cond := some uptoSmall }

/-- 'troupelaw13.WheelTies', WHERE WHAT IT READS IS OF BULK AT MOST 1048576: true; the input reads as it did. -/
def wheelTiesUptoRow : OpenClaim := { program := "ytlbdfhbkemikgaa", sum := "6043881e80daaa391471dc2c13075fd43ad61f25ce0def4c35e40ba8e430b86b", func := "troupe/troupelaw13.WheelTies", spec := "wheelTies", unfollowed := true, recurses := true, apart := false, narrowed := true }
def WheelTiesUptoSaid : Prop := wheelTiesUptoRow.holds Try.pinned (OpenSpec.upto wheelTiesSpec)

/-- 'troupelaw13.WheelParts', WHERE WHAT IT READS IS OF BULK AT MOST 1048576: true; the input reads as it did. -/
def wheelPartsUptoRow : OpenClaim := { program := "ytlbdfhbkemikgaa", sum := "6043881e80daaa391471dc2c13075fd43ad61f25ce0def4c35e40ba8e430b86b", func := "troupe/troupelaw13.WheelParts", spec := "wheelParts", unfollowed := true, recurses := true, apart := false, narrowed := true }
def WheelPartsUptoSaid : Prop := wheelPartsUptoRow.holds Try.pinned (OpenSpec.upto wheelPartsSpec)

/-- 'troupelaw13.WheelFar', WHERE WHAT IT READS IS OF BULK AT MOST 1048576: true; the input reads as it did. -/
def wheelFarUptoRow : OpenClaim := { program := "ytlbdfhbkemikgaa", sum := "6043881e80daaa391471dc2c13075fd43ad61f25ce0def4c35e40ba8e430b86b", func := "troupe/troupelaw13.WheelFar", spec := "wheelFar", unfollowed := true, recurses := true, apart := false, narrowed := true }
def WheelFarUptoSaid : Prop := wheelFarUptoRow.holds Try.pinned (OpenSpec.upto wheelFarSpec)

/-- 'troupelaw13.WheelExpires', WHERE WHAT IT READS IS OF BULK AT MOST 1048576: true; the input reads as it did. -/
def wheelExpiresUptoRow : OpenClaim := { program := "ytlbdfhbkemikgaa", sum := "6043881e80daaa391471dc2c13075fd43ad61f25ce0def4c35e40ba8e430b86b", func := "troupe/troupelaw13.WheelExpires", spec := "wheelExpires", unfollowed := true, recurses := true, apart := false, narrowed := true }
def WheelExpiresUptoSaid : Prop := wheelExpiresUptoRow.holds Try.pinned (OpenSpec.upto wheelExpiresSpec)

/-- 'troupelaw13.WheelMost', WHERE WHAT IT READS IS OF BULK AT MOST 1048576: true; the input reads as it did. -/
def wheelMostUptoRow : OpenClaim := { program := "ytlbdfhbkemikgaa", sum := "6043881e80daaa391471dc2c13075fd43ad61f25ce0def4c35e40ba8e430b86b", func := "troupe/troupelaw13.WheelMost", spec := "wheelMost", unfollowed := true, recurses := true, apart := false, narrowed := true }
def WheelMostUptoSaid : Prop := wheelMostUptoRow.holds Try.pinned (OpenSpec.upto wheelMostSpec)

/-- 'troupelaw13.WheelPlays', WHERE WHAT IT READS IS OF BULK AT MOST 1048576: true; the input reads as it did. -/
def wheelPlaysUptoRow : OpenClaim := { program := "ytlbdfhbkemikgaa", sum := "6043881e80daaa391471dc2c13075fd43ad61f25ce0def4c35e40ba8e430b86b", func := "troupe/troupelaw13.WheelPlays", spec := "wheelPlays", unfollowed := true, recurses := true, apart := false, narrowed := true }
def WheelPlaysUptoSaid : Prop := wheelPlaysUptoRow.holds Try.pinned (OpenSpec.upto wheelPlaysSpec)

end Rows
end Go.Proofs.Ytlbdfhbkemikgaa
