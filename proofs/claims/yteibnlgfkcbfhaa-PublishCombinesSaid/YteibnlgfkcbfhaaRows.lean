/-
  No cell of these rows narrows 'for every input' (looked for: loops, veiled, ifaces, maps, wideKeys, modest, calm, conditions, laid).
  DERIVED. THE GIVEN ROWS OF THIS SEAT. 11 by the template 'for every input the law returns true; each argument reads behind the call as it read before'; 0 by the template 'total and deterministic' (their statements: YteibnlgfkcbfhaaTotals.lean).
  GIVEN WITH THE SEED: the statements are not yours to turn. If you find one false, say at which input.
  Laid BY PROGRAM, IN A SANDBOX (cutbox-rows.mjs): the forced cells as the released guide's own fill.sh prints them over the translation 45f67702d9211ee9… (all of the seat's roots in one cut). By AI agents, Wed Nov 11 2026. No macro, syntax, notation, axiom, sorry.
-/
import Derived.Test.YteibnlgfkcbfhaaChecked
import GoSem.Claim
import GoSem.ClaimJoined
import GoSem.ClaimMapViews
import Derived.JoinedTies
import Derived.KernelRfl
namespace Go.Proofs.Yteibnlgfkcbfhaa
/- THE CELL 'sum', in the pinned program and in every row, IS THE sha256 OF THE DUMP (.gsa) THAT YteibnlgfkcbfhaaProg.lean LOADS. Nothing in Lean hashes anything: it is a label: what it is worth is what the hold of that sum in a sandbox is worth. -/
noncomputable def Try.pinned : Pinned := { name := "yteibnlgfkcbfhaa", sum := "45f67702d9211ee995c4397e6223e164fac71540759703fcc0f945811b2ee89a", checked := Try.checked }
namespace Rows
def none {H : Type} : Left H := { results := [], args := [] }

/-- 'certpathlaw23.PublishFollows': WHATEVER THE INPUT: true; the input reads as it did. -/
def publishFollowsSpec : ChangeSpec := { name := "publishFollows", fn := fun _ => fun
  | [d1, d2] => { results := [.lit (.bool true)], args := [d1, d2] }
  | _ => none }
def publishFollowsRow : OpenClaim := { program := "yteibnlgfkcbfhaa", sum := "45f67702d9211ee995c4397e6223e164fac71540759703fcc0f945811b2ee89a", func := "certpath/certpathlaw23.PublishFollows", spec := "publishFollows", unfollowed := true, recurses := true, apart := false }
def PublishFollowsSaid : Prop := publishFollowsRow.holds Try.pinned (OpenSpec.ofChange publishFollowsSpec)

/-- ITS FALSE NEIGHBOUR: 'it returns false'. Refute it at one input. -/
def publishFollowsWrong : ChangeSpec := { name := "publishFollows", fn := fun _ => fun
  | [d1, d2] => { results := [.lit (.bool false)], args := [d1, d2] }
  | _ => none }
def PublishFollowsWrongFalsely : Prop := publishFollowsRow.holds Try.pinned (OpenSpec.ofChange publishFollowsWrong)

/-- 'certpathlaw23.PublishFollowsAnything': WHATEVER THE INPUT: true; the input reads as it did. -/
def publishFollowsAnythingSpec : ChangeSpec := { name := "publishFollowsAnything", fn := fun _ => fun
  | [d1, d2] => { results := [.lit (.bool true)], args := [d1, d2] }
  | _ => none }
def publishFollowsAnythingRow : OpenClaim := { program := "yteibnlgfkcbfhaa", sum := "45f67702d9211ee995c4397e6223e164fac71540759703fcc0f945811b2ee89a", func := "certpath/certpathlaw23.PublishFollowsAnything", spec := "publishFollowsAnything", unfollowed := true, recurses := true, apart := false }
def PublishFollowsAnythingSaid : Prop := publishFollowsAnythingRow.holds Try.pinned (OpenSpec.ofChange publishFollowsAnythingSpec)

/-- ITS FALSE NEIGHBOUR: 'it returns false'. Refute it at one input. -/
def publishFollowsAnythingWrong : ChangeSpec := { name := "publishFollowsAnything", fn := fun _ => fun
  | [d1, d2] => { results := [.lit (.bool false)], args := [d1, d2] }
  | _ => none }
def PublishFollowsAnythingWrongFalsely : Prop := publishFollowsAnythingRow.holds Try.pinned (OpenSpec.ofChange publishFollowsAnythingWrong)

/-- 'certpathlaw23.PublishCurrent': WHATEVER THE INPUT: true; the input reads as it did. -/
def publishCurrentSpec : ChangeSpec := { name := "publishCurrent", fn := fun _ => fun
  | [d1, d2] => { results := [.lit (.bool true)], args := [d1, d2] }
  | _ => none }
def publishCurrentRow : OpenClaim := { program := "yteibnlgfkcbfhaa", sum := "45f67702d9211ee995c4397e6223e164fac71540759703fcc0f945811b2ee89a", func := "certpath/certpathlaw23.PublishCurrent", spec := "publishCurrent", unfollowed := true, recurses := true, apart := false }
def PublishCurrentSaid : Prop := publishCurrentRow.holds Try.pinned (OpenSpec.ofChange publishCurrentSpec)

/-- ITS FALSE NEIGHBOUR: 'it returns false'. Refute it at one input. -/
def publishCurrentWrong : ChangeSpec := { name := "publishCurrent", fn := fun _ => fun
  | [d1, d2] => { results := [.lit (.bool false)], args := [d1, d2] }
  | _ => none }
def PublishCurrentWrongFalsely : Prop := publishCurrentRow.holds Try.pinned (OpenSpec.ofChange publishCurrentWrong)

/-- 'certpathlaw23.PublishCurrentLast': WHATEVER THE INPUT: true; the input reads as it did. -/
def publishCurrentLastSpec : ChangeSpec := { name := "publishCurrentLast", fn := fun _ => fun
  | [d] => { results := [.lit (.bool true)], args := [d] }
  | _ => none }
def publishCurrentLastRow : OpenClaim := { program := "yteibnlgfkcbfhaa", sum := "45f67702d9211ee995c4397e6223e164fac71540759703fcc0f945811b2ee89a", func := "certpath/certpathlaw23.PublishCurrentLast", spec := "publishCurrentLast", unfollowed := true, recurses := true, apart := false }
def PublishCurrentLastSaid : Prop := publishCurrentLastRow.holds Try.pinned (OpenSpec.ofChange publishCurrentLastSpec)

/-- ITS FALSE NEIGHBOUR: 'it returns false'. Refute it at one input. -/
def publishCurrentLastWrong : ChangeSpec := { name := "publishCurrentLast", fn := fun _ => fun
  | [d] => { results := [.lit (.bool false)], args := [d] }
  | _ => none }
def PublishCurrentLastWrongFalsely : Prop := publishCurrentLastRow.holds Try.pinned (OpenSpec.ofChange publishCurrentLastWrong)

/-- 'certpathlaw23.PublishSelects': WHATEVER THE INPUT: true; the input reads as it did. -/
def publishSelectsSpec : ChangeSpec := { name := "publishSelects", fn := fun _ => fun
  | [d1, d2, d3, d4, d5, d6] => { results := [.lit (.bool true)], args := [d1, d2, d3, d4, d5, d6] }
  | _ => none }
def publishSelectsRow : OpenClaim := { program := "yteibnlgfkcbfhaa", sum := "45f67702d9211ee995c4397e6223e164fac71540759703fcc0f945811b2ee89a", func := "certpath/certpathlaw23.PublishSelects", spec := "publishSelects", unfollowed := true, recurses := true, apart := false }
def PublishSelectsSaid : Prop := publishSelectsRow.holds Try.pinned (OpenSpec.ofChange publishSelectsSpec)

/-- ITS FALSE NEIGHBOUR: 'it returns false'. Refute it at one input. -/
def publishSelectsWrong : ChangeSpec := { name := "publishSelects", fn := fun _ => fun
  | [d1, d2, d3, d4, d5, d6] => { results := [.lit (.bool false)], args := [d1, d2, d3, d4, d5, d6] }
  | _ => none }
def PublishSelectsWrongFalsely : Prop := publishSelectsRow.holds Try.pinned (OpenSpec.ofChange publishSelectsWrong)

/-- 'certpathlaw23.PublishParts': WHATEVER THE INPUT: true; the input reads as it did. -/
def publishPartsSpec : ChangeSpec := { name := "publishParts", fn := fun _ => fun
  | [d1, d2] => { results := [.lit (.bool true)], args := [d1, d2] }
  | _ => none }
def publishPartsRow : OpenClaim := { program := "yteibnlgfkcbfhaa", sum := "45f67702d9211ee995c4397e6223e164fac71540759703fcc0f945811b2ee89a", func := "certpath/certpathlaw23.PublishParts", spec := "publishParts", unfollowed := true, recurses := true, apart := false }
def PublishPartsSaid : Prop := publishPartsRow.holds Try.pinned (OpenSpec.ofChange publishPartsSpec)

/-- ITS FALSE NEIGHBOUR: 'it returns false'. Refute it at one input. -/
def publishPartsWrong : ChangeSpec := { name := "publishParts", fn := fun _ => fun
  | [d1, d2] => { results := [.lit (.bool false)], args := [d1, d2] }
  | _ => none }
def PublishPartsWrongFalsely : Prop := publishPartsRow.holds Try.pinned (OpenSpec.ofChange publishPartsWrong)

/-- 'certpathlaw23.PublishDiffers': WHATEVER THE INPUT: true; the input reads as it did. -/
def publishDiffersSpec : ChangeSpec := { name := "publishDiffers", fn := fun _ => fun
  | [d1, d2] => { results := [.lit (.bool true)], args := [d1, d2] }
  | _ => none }
def publishDiffersRow : OpenClaim := { program := "yteibnlgfkcbfhaa", sum := "45f67702d9211ee995c4397e6223e164fac71540759703fcc0f945811b2ee89a", func := "certpath/certpathlaw23.PublishDiffers", spec := "publishDiffers", unfollowed := true, recurses := true, apart := false }
def PublishDiffersSaid : Prop := publishDiffersRow.holds Try.pinned (OpenSpec.ofChange publishDiffersSpec)

/-- ITS FALSE NEIGHBOUR: 'it returns false'. Refute it at one input. -/
def publishDiffersWrong : ChangeSpec := { name := "publishDiffers", fn := fun _ => fun
  | [d1, d2] => { results := [.lit (.bool false)], args := [d1, d2] }
  | _ => none }
def PublishDiffersWrongFalsely : Prop := publishDiffersRow.holds Try.pinned (OpenSpec.ofChange publishDiffersWrong)

/-- 'certpathlaw23.PublishCombines': WHATEVER THE INPUT: true; the input reads as it did. -/
def publishCombinesSpec : ChangeSpec := { name := "publishCombines", fn := fun _ => fun
  | [d1, d2] => { results := [.lit (.bool true)], args := [d1, d2] }
  | _ => none }
def publishCombinesRow : OpenClaim := { program := "yteibnlgfkcbfhaa", sum := "45f67702d9211ee995c4397e6223e164fac71540759703fcc0f945811b2ee89a", func := "certpath/certpathlaw23.PublishCombines", spec := "publishCombines", unfollowed := true, recurses := true, apart := false }
def PublishCombinesSaid : Prop := publishCombinesRow.holds Try.pinned (OpenSpec.ofChange publishCombinesSpec)

/-- ITS FALSE NEIGHBOUR: 'it returns false'. Refute it at one input. -/
def publishCombinesWrong : ChangeSpec := { name := "publishCombines", fn := fun _ => fun
  | [d1, d2] => { results := [.lit (.bool false)], args := [d1, d2] }
  | _ => none }
def PublishCombinesWrongFalsely : Prop := publishCombinesRow.holds Try.pinned (OpenSpec.ofChange publishCombinesWrong)

/-- 'certpathlaw23.PublishMerges': WHATEVER THE INPUT: true; the input reads as it did. -/
def publishMergesSpec : ChangeSpec := { name := "publishMerges", fn := fun _ => fun
  | [d1, d2] => { results := [.lit (.bool true)], args := [d1, d2] }
  | _ => none }
def publishMergesRow : OpenClaim := { program := "yteibnlgfkcbfhaa", sum := "45f67702d9211ee995c4397e6223e164fac71540759703fcc0f945811b2ee89a", func := "certpath/certpathlaw23.PublishMerges", spec := "publishMerges", unfollowed := true, recurses := true, apart := false }
def PublishMergesSaid : Prop := publishMergesRow.holds Try.pinned (OpenSpec.ofChange publishMergesSpec)

/-- ITS FALSE NEIGHBOUR: 'it returns false'. Refute it at one input. -/
def publishMergesWrong : ChangeSpec := { name := "publishMerges", fn := fun _ => fun
  | [d1, d2] => { results := [.lit (.bool false)], args := [d1, d2] }
  | _ => none }
def PublishMergesWrongFalsely : Prop := publishMergesRow.holds Try.pinned (OpenSpec.ofChange publishMergesWrong)

/-- 'certpathlaw23.PublishRoundTrip': WHATEVER THE INPUT: true; the input reads as it did. -/
def publishRoundTripSpec : ChangeSpec := { name := "publishRoundTrip", fn := fun _ => fun
  | [d1, d2] => { results := [.lit (.bool true)], args := [d1, d2] }
  | _ => none }
def publishRoundTripRow : OpenClaim := { program := "yteibnlgfkcbfhaa", sum := "45f67702d9211ee995c4397e6223e164fac71540759703fcc0f945811b2ee89a", func := "certpath/certpathlaw23.PublishRoundTrip", spec := "publishRoundTrip", unfollowed := true, recurses := true, apart := false }
def PublishRoundTripSaid : Prop := publishRoundTripRow.holds Try.pinned (OpenSpec.ofChange publishRoundTripSpec)

/-- ITS FALSE NEIGHBOUR: 'it returns false'. Refute it at one input. -/
def publishRoundTripWrong : ChangeSpec := { name := "publishRoundTrip", fn := fun _ => fun
  | [d1, d2] => { results := [.lit (.bool false)], args := [d1, d2] }
  | _ => none }
def PublishRoundTripWrongFalsely : Prop := publishRoundTripRow.holds Try.pinned (OpenSpec.ofChange publishRoundTripWrong)

/-- 'certpathlaw23.PublishDeltas': WHATEVER THE INPUT: true; the input reads as it did. -/
def publishDeltasSpec : ChangeSpec := { name := "publishDeltas", fn := fun _ => fun
  | [d1, d2, d3] => { results := [.lit (.bool true)], args := [d1, d2, d3] }
  | _ => none }
def publishDeltasRow : OpenClaim := { program := "yteibnlgfkcbfhaa", sum := "45f67702d9211ee995c4397e6223e164fac71540759703fcc0f945811b2ee89a", func := "certpath/certpathlaw23.PublishDeltas", spec := "publishDeltas", unfollowed := true, recurses := true, apart := false }
def PublishDeltasSaid : Prop := publishDeltasRow.holds Try.pinned (OpenSpec.ofChange publishDeltasSpec)

/-- ITS FALSE NEIGHBOUR: 'it returns false'. Refute it at one input. -/
def publishDeltasWrong : ChangeSpec := { name := "publishDeltas", fn := fun _ => fun
  | [d1, d2, d3] => { results := [.lit (.bool false)], args := [d1, d2, d3] }
  | _ => none }
def PublishDeltasWrongFalsely : Prop := publishDeltasRow.holds Try.pinned (OpenSpec.ofChange publishDeltasWrong)

/- THE SECOND FORM. 'bulk': how many values and letters a reading holds, each counted each time it is reached (what is shared counts as often as it is met; a slice's spare places count too). A statement '..UptoSaid' is the law's where the arguments, and the package variables that the reading takes, are together of bulk at most 1048576: NARROWER than '..Said'. Prove '..Said' where nothing that the law and all that it calls make is longer than what came in: it says more and counts as full. Else prove '..UptoSaid'. A law counts once. -/
mutual
def uptoBulk {H : Type} : DataW H → Nat
  | .lit (.string bytes) => bytes.length + 1
  | .lit _ => 1
  | .nil => 1
  | .ptr d => uptoBulk d + 1
  | .slice elems spare => uptoBulkAll elems + uptoBulkAll spare + 1
  | .agg parts => uptoBulkAll parts + 1
  | .iface _ d => uptoBulk d + 1
  | .map entries => uptoBulkEntries entries + 1
  | .held _ => 1
def uptoBulkAll {H : Type} : List (DataW H) → Nat
  | [] => 0
  | d :: r => uptoBulk d + uptoBulkAll r
def uptoBulkEntries {H : Type} : List (Lit × DataW H) → Nat
  | [] => 0
  | x :: r => uptoBulkEntry x + uptoBulkEntries r
def uptoBulkEntry {H : Type} : Lit × DataW H → Nat
  | (.string bytes, d) => bytes.length + uptoBulk d + 1
  | (_, d) => uptoBulk d + 1
 end
def uptoSmall : (H : Type) → List (DataW H) → Bool := fun _ ds => decide (uptoBulkAll ds ≤ 1048576)
def OpenSpec.upto (s : _root_.Go.ChangeSpec) : _root_.Go.OpenSpec := { _root_.Go.OpenSpec.ofChange s with cond := some uptoSmall }

/-- 'certpathlaw23.PublishFollows', WHERE WHAT IT READS IS OF BULK AT MOST 1048576: true; the input reads as it did. -/
def publishFollowsUptoRow : OpenClaim := { program := "yteibnlgfkcbfhaa", sum := "45f67702d9211ee995c4397e6223e164fac71540759703fcc0f945811b2ee89a", func := "certpath/certpathlaw23.PublishFollows", spec := "publishFollows", unfollowed := true, recurses := true, apart := false, narrowed := true }
def PublishFollowsUptoSaid : Prop := publishFollowsUptoRow.holds Try.pinned (OpenSpec.upto publishFollowsSpec)

/-- 'certpathlaw23.PublishFollowsAnything', WHERE WHAT IT READS IS OF BULK AT MOST 1048576: true; the input reads as it did. -/
def publishFollowsAnythingUptoRow : OpenClaim := { program := "yteibnlgfkcbfhaa", sum := "45f67702d9211ee995c4397e6223e164fac71540759703fcc0f945811b2ee89a", func := "certpath/certpathlaw23.PublishFollowsAnything", spec := "publishFollowsAnything", unfollowed := true, recurses := true, apart := false, narrowed := true }
def PublishFollowsAnythingUptoSaid : Prop := publishFollowsAnythingUptoRow.holds Try.pinned (OpenSpec.upto publishFollowsAnythingSpec)

/-- 'certpathlaw23.PublishCurrent', WHERE WHAT IT READS IS OF BULK AT MOST 1048576: true; the input reads as it did. -/
def publishCurrentUptoRow : OpenClaim := { program := "yteibnlgfkcbfhaa", sum := "45f67702d9211ee995c4397e6223e164fac71540759703fcc0f945811b2ee89a", func := "certpath/certpathlaw23.PublishCurrent", spec := "publishCurrent", unfollowed := true, recurses := true, apart := false, narrowed := true }
def PublishCurrentUptoSaid : Prop := publishCurrentUptoRow.holds Try.pinned (OpenSpec.upto publishCurrentSpec)

/-- 'certpathlaw23.PublishCurrentLast', WHERE WHAT IT READS IS OF BULK AT MOST 1048576: true; the input reads as it did. -/
def publishCurrentLastUptoRow : OpenClaim := { program := "yteibnlgfkcbfhaa", sum := "45f67702d9211ee995c4397e6223e164fac71540759703fcc0f945811b2ee89a", func := "certpath/certpathlaw23.PublishCurrentLast", spec := "publishCurrentLast", unfollowed := true, recurses := true, apart := false, narrowed := true }
def PublishCurrentLastUptoSaid : Prop := publishCurrentLastUptoRow.holds Try.pinned (OpenSpec.upto publishCurrentLastSpec)

/-- 'certpathlaw23.PublishSelects', WHERE WHAT IT READS IS OF BULK AT MOST 1048576: true; the input reads as it did. -/
def publishSelectsUptoRow : OpenClaim := { program := "yteibnlgfkcbfhaa", sum := "45f67702d9211ee995c4397e6223e164fac71540759703fcc0f945811b2ee89a", func := "certpath/certpathlaw23.PublishSelects", spec := "publishSelects", unfollowed := true, recurses := true, apart := false, narrowed := true }
def PublishSelectsUptoSaid : Prop := publishSelectsUptoRow.holds Try.pinned (OpenSpec.upto publishSelectsSpec)

/-- 'certpathlaw23.PublishParts', WHERE WHAT IT READS IS OF BULK AT MOST 1048576: true; the input reads as it did. -/
def publishPartsUptoRow : OpenClaim := { program := "yteibnlgfkcbfhaa", sum := "45f67702d9211ee995c4397e6223e164fac71540759703fcc0f945811b2ee89a", func := "certpath/certpathlaw23.PublishParts", spec := "publishParts", unfollowed := true, recurses := true, apart := false, narrowed := true }
def PublishPartsUptoSaid : Prop := publishPartsUptoRow.holds Try.pinned (OpenSpec.upto publishPartsSpec)

/-- 'certpathlaw23.PublishDiffers', WHERE WHAT IT READS IS OF BULK AT MOST 1048576: true; the input reads as it did. -/
def publishDiffersUptoRow : OpenClaim := { program := "yteibnlgfkcbfhaa", sum := "45f67702d9211ee995c4397e6223e164fac71540759703fcc0f945811b2ee89a", func := "certpath/certpathlaw23.PublishDiffers", spec := "publishDiffers", unfollowed := true, recurses := true, apart := false, narrowed := true }
def PublishDiffersUptoSaid : Prop := publishDiffersUptoRow.holds Try.pinned (OpenSpec.upto publishDiffersSpec)

/-- 'certpathlaw23.PublishCombines', WHERE WHAT IT READS IS OF BULK AT MOST 1048576: true; the input reads as it did. -/
def publishCombinesUptoRow : OpenClaim := { program := "yteibnlgfkcbfhaa", sum := "45f67702d9211ee995c4397e6223e164fac71540759703fcc0f945811b2ee89a", func := "certpath/certpathlaw23.PublishCombines", spec := "publishCombines", unfollowed := true, recurses := true, apart := false, narrowed := true }
def PublishCombinesUptoSaid : Prop := publishCombinesUptoRow.holds Try.pinned (OpenSpec.upto publishCombinesSpec)

/-- 'certpathlaw23.PublishMerges', WHERE WHAT IT READS IS OF BULK AT MOST 1048576: true; the input reads as it did. -/
def publishMergesUptoRow : OpenClaim := { program := "yteibnlgfkcbfhaa", sum := "45f67702d9211ee995c4397e6223e164fac71540759703fcc0f945811b2ee89a", func := "certpath/certpathlaw23.PublishMerges", spec := "publishMerges", unfollowed := true, recurses := true, apart := false, narrowed := true }
def PublishMergesUptoSaid : Prop := publishMergesUptoRow.holds Try.pinned (OpenSpec.upto publishMergesSpec)

/-- 'certpathlaw23.PublishRoundTrip', WHERE WHAT IT READS IS OF BULK AT MOST 1048576: true; the input reads as it did. -/
def publishRoundTripUptoRow : OpenClaim := { program := "yteibnlgfkcbfhaa", sum := "45f67702d9211ee995c4397e6223e164fac71540759703fcc0f945811b2ee89a", func := "certpath/certpathlaw23.PublishRoundTrip", spec := "publishRoundTrip", unfollowed := true, recurses := true, apart := false, narrowed := true }
def PublishRoundTripUptoSaid : Prop := publishRoundTripUptoRow.holds Try.pinned (OpenSpec.upto publishRoundTripSpec)

/-- 'certpathlaw23.PublishDeltas', WHERE WHAT IT READS IS OF BULK AT MOST 1048576: true; the input reads as it did. -/
def publishDeltasUptoRow : OpenClaim := { program := "yteibnlgfkcbfhaa", sum := "45f67702d9211ee995c4397e6223e164fac71540759703fcc0f945811b2ee89a", func := "certpath/certpathlaw23.PublishDeltas", spec := "publishDeltas", unfollowed := true, recurses := true, apart := false, narrowed := true }
def PublishDeltasUptoSaid : Prop := publishDeltasUptoRow.holds Try.pinned (OpenSpec.upto publishDeltasSpec)

end Rows
end Go.Proofs.Yteibnlgfkcbfhaa
