/-
  No cell of these rows narrows 'for every input' (looked for: loops, veiled, ifaces, maps, wideKeys, modest, calm, conditions, laid).
  DERIVED. THE GIVEN ROWS OF THIS SEAT. 7 by the template 'for every input the law returns true; each argument reads behind the call as it read before'; 0 by the template 'total and deterministic' (their statements: YtnbjpilanjngmaaTotals.lean).
  GIVEN WITH THE SEED: the statements are not yours to turn. If you find one false, say at which input.
  Laid BY PROGRAM, IN A SANDBOX (cutbox-rows.mjs): the forced cells as the released guide's own fill.sh prints them over the translation 9203a992209a60b9… (all of the seat's roots in one cut). By AI agents, Wed Nov 11 2026. No macro, syntax, notation, axiom, sorry.
-/
import Derived.Test.YtnbjpilanjngmaaChecked
import GoSem.Claim
import GoSem.ClaimJoined
import GoSem.ClaimMapViews
import Derived.JoinedTies
import Derived.KernelRfl
namespace Go.Proofs.Ytnbjpilanjngmaa
/- THE CELL 'sum', in the pinned program and in every row, IS THE sha256 OF THE DUMP (.gsa) THAT YtnbjpilanjngmaaProg.lean LOADS. Nothing in Lean hashes anything: it is a label: what it is worth is what the hold of that sum in a sandbox is worth. -/
noncomputable def Try.pinned : Pinned := { name := "ytnbjpilanjngmaa", sum := "9203a992209a60b91ab376b88f7753302a3df39286254b5a89f8cd0f316d9fa8", checked := Try.checked }
namespace Rows
def none {H : Type} : Left H := { results := [], args := [] }

/-- 'wainloadlaw13.CounterStreams': WHATEVER THE INPUT: true; the input reads as it did. -/
def counterStreamsSpec : ChangeSpec := { name := "counterStreams", fn := fun _ => fun
  | [d1, d2] => { results := [.lit (.bool true)], args := [d1, d2] }
  | _ => none }
def counterStreamsRow : OpenClaim := { program := "ytnbjpilanjngmaa", sum := "9203a992209a60b91ab376b88f7753302a3df39286254b5a89f8cd0f316d9fa8", func := "wainload/wainloadlaw13.CounterStreams", spec := "counterStreams", inPlace := ["internal/bytealg.MakeNoZero"], unfollowed := true, recurses := true, apart := false }
def CounterStreamsSaid : Prop := counterStreamsRow.holds Try.pinned (OpenSpec.ofChange counterStreamsSpec)

/-- ITS FALSE NEIGHBOUR: 'it returns false'. Refute it at one input. -/
def counterStreamsWrong : ChangeSpec := { name := "counterStreams", fn := fun _ => fun
  | [d1, d2] => { results := [.lit (.bool false)], args := [d1, d2] }
  | _ => none }
def CounterStreamsWrongFalsely : Prop := counterStreamsRow.holds Try.pinned (OpenSpec.ofChange counterStreamsWrong)

/-- 'wainloadlaw13.CounterSeals': WHATEVER THE INPUT: true; the input reads as it did. -/
def counterSealsSpec : ChangeSpec := { name := "counterSeals", fn := fun _ => fun
  | [d] => { results := [.lit (.bool true)], args := [d] }
  | _ => none }
def counterSealsRow : OpenClaim := { program := "ytnbjpilanjngmaa", sum := "9203a992209a60b91ab376b88f7753302a3df39286254b5a89f8cd0f316d9fa8", func := "wainload/wainloadlaw13.CounterSeals", spec := "counterSeals", inPlace := ["internal/bytealg.MakeNoZero"], unfollowed := true, recurses := true, apart := false }
def CounterSealsSaid : Prop := counterSealsRow.holds Try.pinned (OpenSpec.ofChange counterSealsSpec)

/-- ITS FALSE NEIGHBOUR: 'it returns false'. Refute it at one input. -/
def counterSealsWrong : ChangeSpec := { name := "counterSeals", fn := fun _ => fun
  | [d] => { results := [.lit (.bool false)], args := [d] }
  | _ => none }
def CounterSealsWrongFalsely : Prop := counterSealsRow.holds Try.pinned (OpenSpec.ofChange counterSealsWrong)

/-- 'wainloadlaw13.CounterOpens': WHATEVER THE INPUT: true; the input reads as it did. -/
def counterOpensSpec : ChangeSpec := { name := "counterOpens", fn := fun _ => fun
  | [d1, d2, d3] => { results := [.lit (.bool true)], args := [d1, d2, d3] }
  | _ => none }
def counterOpensRow : OpenClaim := { program := "ytnbjpilanjngmaa", sum := "9203a992209a60b91ab376b88f7753302a3df39286254b5a89f8cd0f316d9fa8", func := "wainload/wainloadlaw13.CounterOpens", spec := "counterOpens", inPlace := ["internal/bytealg.MakeNoZero"], unfollowed := true, recurses := true, apart := false }
def CounterOpensSaid : Prop := counterOpensRow.holds Try.pinned (OpenSpec.ofChange counterOpensSpec)

/-- ITS FALSE NEIGHBOUR: 'it returns false'. Refute it at one input. -/
def counterOpensWrong : ChangeSpec := { name := "counterOpens", fn := fun _ => fun
  | [d1, d2, d3] => { results := [.lit (.bool false)], args := [d1, d2, d3] }
  | _ => none }
def CounterOpensWrongFalsely : Prop := counterOpensRow.holds Try.pinned (OpenSpec.ofChange counterOpensWrong)

/-- 'wainloadlaw13.CounterBack': WHATEVER THE INPUT: true; the input reads as it did. -/
def counterBackSpec : ChangeSpec := { name := "counterBack", fn := fun _ => fun
  | [d] => { results := [.lit (.bool true)], args := [d] }
  | _ => none }
def counterBackRow : OpenClaim := { program := "ytnbjpilanjngmaa", sum := "9203a992209a60b91ab376b88f7753302a3df39286254b5a89f8cd0f316d9fa8", func := "wainload/wainloadlaw13.CounterBack", spec := "counterBack", inPlace := ["internal/bytealg.MakeNoZero"], unfollowed := true, recurses := true, apart := false }
def CounterBackSaid : Prop := counterBackRow.holds Try.pinned (OpenSpec.ofChange counterBackSpec)

/-- ITS FALSE NEIGHBOUR: 'it returns false'. Refute it at one input. -/
def counterBackWrong : ChangeSpec := { name := "counterBack", fn := fun _ => fun
  | [d] => { results := [.lit (.bool false)], args := [d] }
  | _ => none }
def CounterBackWrongFalsely : Prop := counterBackRow.holds Try.pinned (OpenSpec.ofChange counterBackWrong)

/-- 'wainloadlaw13.CounterTwice': WHATEVER THE INPUT: true; the input reads as it did. -/
def counterTwiceSpec : ChangeSpec := { name := "counterTwice", fn := fun _ => fun
  | [d1, d2] => { results := [.lit (.bool true)], args := [d1, d2] }
  | _ => none }
def counterTwiceRow : OpenClaim := { program := "ytnbjpilanjngmaa", sum := "9203a992209a60b91ab376b88f7753302a3df39286254b5a89f8cd0f316d9fa8", func := "wainload/wainloadlaw13.CounterTwice", spec := "counterTwice", inPlace := ["internal/bytealg.MakeNoZero"], unfollowed := true, recurses := true, apart := false }
def CounterTwiceSaid : Prop := counterTwiceRow.holds Try.pinned (OpenSpec.ofChange counterTwiceSpec)

/-- ITS FALSE NEIGHBOUR: 'it returns false'. Refute it at one input. -/
def counterTwiceWrong : ChangeSpec := { name := "counterTwice", fn := fun _ => fun
  | [d1, d2] => { results := [.lit (.bool false)], args := [d1, d2] }
  | _ => none }
def CounterTwiceWrongFalsely : Prop := counterTwiceRow.holds Try.pinned (OpenSpec.ofChange counterTwiceWrong)

/-- 'wainloadlaw13.CounterTags': WHATEVER THE INPUT: true; the input reads as it did. -/
def counterTagsSpec : ChangeSpec := { name := "counterTags", fn := fun _ => fun
  | [d1, d2, d3] => { results := [.lit (.bool true)], args := [d1, d2, d3] }
  | _ => none }
def counterTagsRow : OpenClaim := { program := "ytnbjpilanjngmaa", sum := "9203a992209a60b91ab376b88f7753302a3df39286254b5a89f8cd0f316d9fa8", func := "wainload/wainloadlaw13.CounterTags", spec := "counterTags", inPlace := ["internal/bytealg.MakeNoZero"], unfollowed := true, recurses := true, apart := false }
def CounterTagsSaid : Prop := counterTagsRow.holds Try.pinned (OpenSpec.ofChange counterTagsSpec)

/-- ITS FALSE NEIGHBOUR: 'it returns false'. Refute it at one input. -/
def counterTagsWrong : ChangeSpec := { name := "counterTags", fn := fun _ => fun
  | [d1, d2, d3] => { results := [.lit (.bool false)], args := [d1, d2, d3] }
  | _ => none }
def CounterTagsWrongFalsely : Prop := counterTagsRow.holds Try.pinned (OpenSpec.ofChange counterTagsWrong)

/-- 'wainloadlaw13.CounterBegins': WHATEVER THE INPUT: true; the input reads as it did. -/
def counterBeginsSpec : ChangeSpec := { name := "counterBegins", fn := fun _ => fun
  | [d1, d2, d3] => { results := [.lit (.bool true)], args := [d1, d2, d3] }
  | _ => none }
def counterBeginsRow : OpenClaim := { program := "ytnbjpilanjngmaa", sum := "9203a992209a60b91ab376b88f7753302a3df39286254b5a89f8cd0f316d9fa8", func := "wainload/wainloadlaw13.CounterBegins", spec := "counterBegins", inPlace := ["internal/bytealg.MakeNoZero"], unfollowed := true, recurses := true, apart := false }
def CounterBeginsSaid : Prop := counterBeginsRow.holds Try.pinned (OpenSpec.ofChange counterBeginsSpec)

/-- ITS FALSE NEIGHBOUR: 'it returns false'. Refute it at one input. -/
def counterBeginsWrong : ChangeSpec := { name := "counterBegins", fn := fun _ => fun
  | [d1, d2, d3] => { results := [.lit (.bool false)], args := [d1, d2, d3] }
  | _ => none }
def CounterBeginsWrongFalsely : Prop := counterBeginsRow.holds Try.pinned (OpenSpec.ofChange counterBeginsWrong)

/- THE SECOND FORM. 'bulk': how many values and letters a reading holds, each counted each time it is reached (what is shared counts as often as it is met; a slice's spare places count too). A statement '..UptoSaid' is the law's where the arguments, and the package variables that the reading takes, are together of bulk at most 1048576: NARROWER than '..Said'. Prove '..Said' where nothing that the law and all that it calls make is longer than what came in: it says more and counts as full. Else prove '..UptoSaid'. A law counts once. -/
mutual
def uptoBulk {H : Type} : DataW H → Nat
  | .lit (.string bytes) => bytes.length + 1
  | .lit _ => 1
  | .nil => 1
  | .ptr d => uptoBulk d + 1
  | .slice elems spare => uptoBulkAll elems + uptoBulkAll spare + 1
  | .agg parts => uptoBulkAll parts + 1
  | .iface _ d => uptoBulk d + 1
  | .map entries => uptoBulkEntries entries + 1
  | .held _ => 1
def uptoBulkAll {H : Type} : List (DataW H) → Nat
  | [] => 0
  | d :: r => uptoBulk d + uptoBulkAll r
def uptoBulkEntries {H : Type} : List (Lit × DataW H) → Nat
  | [] => 0
  | x :: r => uptoBulkEntry x + uptoBulkEntries r
def uptoBulkEntry {H : Type} : Lit × DataW H → Nat
  | (.string bytes, d) => bytes.length + uptoBulk d + 1
  | (_, d) => uptoBulk d + 1
 end
def uptoSmall : (H : Type) → List (DataW H) → Bool := fun _ ds => decide (uptoBulkAll ds ≤ 1048576)
def OpenSpec.upto (s : _root_.Go.ChangeSpec) : _root_.Go.OpenSpec := { _root_.Go.OpenSpec.ofChange s with cond := some uptoSmall }

/-- 'wainloadlaw13.CounterStreams', WHERE WHAT IT READS IS OF BULK AT MOST 1048576: true; the input reads as it did. -/
def counterStreamsUptoRow : OpenClaim := { program := "ytnbjpilanjngmaa", sum := "9203a992209a60b91ab376b88f7753302a3df39286254b5a89f8cd0f316d9fa8", func := "wainload/wainloadlaw13.CounterStreams", spec := "counterStreams", inPlace := ["internal/bytealg.MakeNoZero"], unfollowed := true, recurses := true, apart := false, narrowed := true }
def CounterStreamsUptoSaid : Prop := counterStreamsUptoRow.holds Try.pinned (OpenSpec.upto counterStreamsSpec)

/-- 'wainloadlaw13.CounterSeals', WHERE WHAT IT READS IS OF BULK AT MOST 1048576: true; the input reads as it did. -/
def counterSealsUptoRow : OpenClaim := { program := "ytnbjpilanjngmaa", sum := "9203a992209a60b91ab376b88f7753302a3df39286254b5a89f8cd0f316d9fa8", func := "wainload/wainloadlaw13.CounterSeals", spec := "counterSeals", inPlace := ["internal/bytealg.MakeNoZero"], unfollowed := true, recurses := true, apart := false, narrowed := true }
def CounterSealsUptoSaid : Prop := counterSealsUptoRow.holds Try.pinned (OpenSpec.upto counterSealsSpec)

/-- 'wainloadlaw13.CounterOpens', WHERE WHAT IT READS IS OF BULK AT MOST 1048576: true; the input reads as it did. -/
def counterOpensUptoRow : OpenClaim := { program := "ytnbjpilanjngmaa", sum := "9203a992209a60b91ab376b88f7753302a3df39286254b5a89f8cd0f316d9fa8", func := "wainload/wainloadlaw13.CounterOpens", spec := "counterOpens", inPlace := ["internal/bytealg.MakeNoZero"], unfollowed := true, recurses := true, apart := false, narrowed := true }
def CounterOpensUptoSaid : Prop := counterOpensUptoRow.holds Try.pinned (OpenSpec.upto counterOpensSpec)

/-- 'wainloadlaw13.CounterBack', WHERE WHAT IT READS IS OF BULK AT MOST 1048576: true; the input reads as it did. -/
def counterBackUptoRow : OpenClaim := { program := "ytnbjpilanjngmaa", sum := "9203a992209a60b91ab376b88f7753302a3df39286254b5a89f8cd0f316d9fa8", func := "wainload/wainloadlaw13.CounterBack", spec := "counterBack", inPlace := ["internal/bytealg.MakeNoZero"], unfollowed := true, recurses := true, apart := false, narrowed := true }
def CounterBackUptoSaid : Prop := counterBackUptoRow.holds Try.pinned (OpenSpec.upto counterBackSpec)

/-- 'wainloadlaw13.CounterTwice', WHERE WHAT IT READS IS OF BULK AT MOST 1048576: true; the input reads as it did. -/
def counterTwiceUptoRow : OpenClaim := { program := "ytnbjpilanjngmaa", sum := "9203a992209a60b91ab376b88f7753302a3df39286254b5a89f8cd0f316d9fa8", func := "wainload/wainloadlaw13.CounterTwice", spec := "counterTwice", inPlace := ["internal/bytealg.MakeNoZero"], unfollowed := true, recurses := true, apart := false, narrowed := true }
def CounterTwiceUptoSaid : Prop := counterTwiceUptoRow.holds Try.pinned (OpenSpec.upto counterTwiceSpec)

/-- 'wainloadlaw13.CounterTags', WHERE WHAT IT READS IS OF BULK AT MOST 1048576: true; the input reads as it did. -/
def counterTagsUptoRow : OpenClaim := { program := "ytnbjpilanjngmaa", sum := "9203a992209a60b91ab376b88f7753302a3df39286254b5a89f8cd0f316d9fa8", func := "wainload/wainloadlaw13.CounterTags", spec := "counterTags", inPlace := ["internal/bytealg.MakeNoZero"], unfollowed := true, recurses := true, apart := false, narrowed := true }
def CounterTagsUptoSaid : Prop := counterTagsUptoRow.holds Try.pinned (OpenSpec.upto counterTagsSpec)

/-- 'wainloadlaw13.CounterBegins', WHERE WHAT IT READS IS OF BULK AT MOST 1048576: true; the input reads as it did. -/
def counterBeginsUptoRow : OpenClaim := { program := "ytnbjpilanjngmaa", sum := "9203a992209a60b91ab376b88f7753302a3df39286254b5a89f8cd0f316d9fa8", func := "wainload/wainloadlaw13.CounterBegins", spec := "counterBegins", inPlace := ["internal/bytealg.MakeNoZero"], unfollowed := true, recurses := true, apart := false, narrowed := true }
def CounterBeginsUptoSaid : Prop := counterBeginsUptoRow.holds Try.pinned (OpenSpec.upto counterBeginsSpec)

end Rows
end Go.Proofs.Ytnbjpilanjngmaa
