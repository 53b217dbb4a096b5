/-
  No cell of these rows narrows 'for every input' (looked for: loops, veiled, ifaces, maps, wideKeys, modest, calm, conditions, laid).
  DERIVED. THE GIVEN ROWS OF THIS SEAT. 6 by the template 'for every input the law returns true; each argument reads behind the call as it read before'; 0 by the template 'total and deterministic' (their statements: YtkdebhdfbpbcoaaTotals.lean).
  GIVEN WITH THE SEED: the statements are not yours to turn. If you find one false, say at which input.
  Laid BY PROGRAM, IN A SANDBOX (cutbox-rows.mjs): the forced cells as the released guide's own fill.sh prints them over the translation e887ab8a41315969… (all of the seat's roots in one cut). By AI agents, Wed Nov 11 2026. No macro, syntax, notation, axiom, sorry.
-/
import Derived.Test.YtkdebhdfbpbcoaaChecked
import GoSem.Claim
import GoSem.ClaimJoined
import GoSem.ClaimMapViews
import Derived.JoinedTies
import Derived.KernelRfl
namespace Go.Proofs.Ytkdebhdfbpbcoaa
/- THE CELL 'sum', in the pinned program and in every row, IS THE sha256 OF THE DUMP (.gsa) THAT YtkdebhdfbpbcoaaProg.lean LOADS. Nothing in Lean hashes anything: it is a label: what it is worth is what the hold of that sum in a sandbox is worth. -/
noncomputable def Try.pinned : Pinned := { name := "ytkdebhdfbpbcoaa", sum := "e887ab8a41315969f9db7ac1e9e5c1271a33b4904eb2632a5f17f80006bd3b14", checked := Try.checked }
namespace Rows
def none {H : Type} : Left H := { results := [], args := [] }

/-- 'wainloadlaw12.CipherBytes': WHATEVER THE INPUT: true; the input reads as it did. -/
def cipherBytesSpec : ChangeSpec := { name := "cipherBytes", fn := fun _ => fun
  | [d1, d2] => { results := [.lit (.bool true)], args := [d1, d2] }
  | _ => none }
def cipherBytesRow : OpenClaim := { program := "ytkdebhdfbpbcoaa", sum := "e887ab8a41315969f9db7ac1e9e5c1271a33b4904eb2632a5f17f80006bd3b14", func := "wainload/wainloadlaw12.CipherBytes", spec := "cipherBytes", apart := false }
def CipherBytesSaid : Prop := cipherBytesRow.holds Try.pinned (OpenSpec.ofChange cipherBytesSpec)

/-- ITS FALSE NEIGHBOUR: 'it returns false'. Refute it at one input. -/
def cipherBytesWrong : ChangeSpec := { name := "cipherBytes", fn := fun _ => fun
  | [d1, d2] => { results := [.lit (.bool false)], args := [d1, d2] }
  | _ => none }
def CipherBytesWrongFalsely : Prop := cipherBytesRow.holds Try.pinned (OpenSpec.ofChange cipherBytesWrong)

/-- 'wainloadlaw12.CipherBlocks': WHATEVER THE INPUT: true; the input reads as it did. -/
def cipherBlocksSpec : ChangeSpec := { name := "cipherBlocks", fn := fun _ => fun
  | [d1, d2] => { results := [.lit (.bool true)], args := [d1, d2] }
  | _ => none }
def cipherBlocksRow : OpenClaim := { program := "ytkdebhdfbpbcoaa", sum := "e887ab8a41315969f9db7ac1e9e5c1271a33b4904eb2632a5f17f80006bd3b14", func := "wainload/wainloadlaw12.CipherBlocks", spec := "cipherBlocks", apart := false }
def CipherBlocksSaid : Prop := cipherBlocksRow.holds Try.pinned (OpenSpec.ofChange cipherBlocksSpec)

/-- ITS FALSE NEIGHBOUR: 'it returns false'. Refute it at one input. -/
def cipherBlocksWrong : ChangeSpec := { name := "cipherBlocks", fn := fun _ => fun
  | [d1, d2] => { results := [.lit (.bool false)], args := [d1, d2] }
  | _ => none }
def CipherBlocksWrongFalsely : Prop := cipherBlocksRow.holds Try.pinned (OpenSpec.ofChange cipherBlocksWrong)

/-- 'wainloadlaw12.CipherUnlike': WHATEVER THE INPUT: true; the input reads as it did. -/
def cipherUnlikeSpec : ChangeSpec := { name := "cipherUnlike", fn := fun _ => fun
  | [d1, d2, d3] => { results := [.lit (.bool true)], args := [d1, d2, d3] }
  | _ => none }
def cipherUnlikeRow : OpenClaim := { program := "ytkdebhdfbpbcoaa", sum := "e887ab8a41315969f9db7ac1e9e5c1271a33b4904eb2632a5f17f80006bd3b14", func := "wainload/wainloadlaw12.CipherUnlike", spec := "cipherUnlike", apart := false }
def CipherUnlikeSaid : Prop := cipherUnlikeRow.holds Try.pinned (OpenSpec.ofChange cipherUnlikeSpec)

/-- ITS FALSE NEIGHBOUR: 'it returns false'. Refute it at one input. -/
def cipherUnlikeWrong : ChangeSpec := { name := "cipherUnlike", fn := fun _ => fun
  | [d1, d2, d3] => { results := [.lit (.bool false)], args := [d1, d2, d3] }
  | _ => none }
def CipherUnlikeWrongFalsely : Prop := cipherUnlikeRow.holds Try.pinned (OpenSpec.ofChange cipherUnlikeWrong)

/-- 'wainloadlaw12.CipherLaws': WHATEVER THE INPUT: true; the input reads as it did. -/
def cipherLawsSpec : ChangeSpec := { name := "cipherLaws", fn := fun _ => fun
  | [d1, d2, d3] => { results := [.lit (.bool true)], args := [d1, d2, d3] }
  | _ => none }
def cipherLawsRow : OpenClaim := { program := "ytkdebhdfbpbcoaa", sum := "e887ab8a41315969f9db7ac1e9e5c1271a33b4904eb2632a5f17f80006bd3b14", func := "wainload/wainloadlaw12.CipherLaws", spec := "cipherLaws", apart := false }
def CipherLawsSaid : Prop := cipherLawsRow.holds Try.pinned (OpenSpec.ofChange cipherLawsSpec)

/-- ITS FALSE NEIGHBOUR: 'it returns false'. Refute it at one input. -/
def cipherLawsWrong : ChangeSpec := { name := "cipherLaws", fn := fun _ => fun
  | [d1, d2, d3] => { results := [.lit (.bool false)], args := [d1, d2, d3] }
  | _ => none }
def CipherLawsWrongFalsely : Prop := cipherLawsRow.holds Try.pinned (OpenSpec.ofChange cipherLawsWrong)

/-- 'wainloadlaw12.CipherBox': WHATEVER THE INPUT: true; the input reads as it did. -/
def cipherBoxSpec : ChangeSpec := { name := "cipherBox", fn := fun _ => fun
  | [d1, d2] => { results := [.lit (.bool true)], args := [d1, d2] }
  | _ => none }
def cipherBoxRow : OpenClaim := { program := "ytkdebhdfbpbcoaa", sum := "e887ab8a41315969f9db7ac1e9e5c1271a33b4904eb2632a5f17f80006bd3b14", func := "wainload/wainloadlaw12.CipherBox", spec := "cipherBox", apart := false }
def CipherBoxSaid : Prop := cipherBoxRow.holds Try.pinned (OpenSpec.ofChange cipherBoxSpec)

/-- ITS FALSE NEIGHBOUR: 'it returns false'. Refute it at one input. -/
def cipherBoxWrong : ChangeSpec := { name := "cipherBox", fn := fun _ => fun
  | [d1, d2] => { results := [.lit (.bool false)], args := [d1, d2] }
  | _ => none }
def CipherBoxWrongFalsely : Prop := cipherBoxRow.holds Try.pinned (OpenSpec.ofChange cipherBoxWrong)

/-- 'wainloadlaw12.CipherKeeps': WHATEVER THE INPUT: true; the input reads as it did. -/
def cipherKeepsSpec : ChangeSpec := { name := "cipherKeeps", fn := fun _ => fun
  | [d1, d2] => { results := [.lit (.bool true)], args := [d1, d2] }
  | _ => none }
def cipherKeepsRow : OpenClaim := { program := "ytkdebhdfbpbcoaa", sum := "e887ab8a41315969f9db7ac1e9e5c1271a33b4904eb2632a5f17f80006bd3b14", func := "wainload/wainloadlaw12.CipherKeeps", spec := "cipherKeeps", apart := false }
def CipherKeepsSaid : Prop := cipherKeepsRow.holds Try.pinned (OpenSpec.ofChange cipherKeepsSpec)

/-- ITS FALSE NEIGHBOUR: 'it returns false'. Refute it at one input. -/
def cipherKeepsWrong : ChangeSpec := { name := "cipherKeeps", fn := fun _ => fun
  | [d1, d2] => { results := [.lit (.bool false)], args := [d1, d2] }
  | _ => none }
def CipherKeepsWrongFalsely : Prop := cipherKeepsRow.holds Try.pinned (OpenSpec.ofChange cipherKeepsWrong)

/- THE SECOND FORM. 'bulk': how many values and letters a reading holds, each counted each time it is reached (what is shared counts as often as it is met; a slice's spare places count too). A statement '..UptoSaid' is the law's where the arguments, and the package variables that the reading takes, are together of bulk at most 1048576: NARROWER than '..Said'. Prove '..Said' where nothing that the law and all that it calls make is longer than what came in: it says more and counts as full. Else prove '..UptoSaid'. A law counts once. -/
mutual
def uptoBulk {H : Type} : DataW H → Nat
  | .lit (.string bytes) => bytes.length + 1
  | .lit _ => 1
  | .nil => 1
  | .ptr d => uptoBulk d + 1
  | .slice elems spare => uptoBulkAll elems + uptoBulkAll spare + 1
  | .agg parts => uptoBulkAll parts + 1
  | .iface _ d => uptoBulk d + 1
  | .map entries => uptoBulkEntries entries + 1
  | .held _ => 1
def uptoBulkAll {H : Type} : List (DataW H) → Nat
  | [] => 0
  | d :: r => uptoBulk d + uptoBulkAll r
def uptoBulkEntries {H : Type} : List (Lit × DataW H) → Nat
  | [] => 0
  | x :: r => uptoBulkEntry x + uptoBulkEntries r
def uptoBulkEntry {H : Type} : Lit × DataW H → Nat
  | (.string bytes, d) => bytes.length + uptoBulk d + 1
  | (_, d) => uptoBulk d + 1
 end
def uptoSmall : (H : Type) → List (DataW H) → Bool := fun _ ds => decide (uptoBulkAll ds ≤ 1048576)
def OpenSpec.upto (s : _root_.Go.ChangeSpec) : _root_.Go.OpenSpec := { _root_.Go.OpenSpec.ofChange s with cond := some uptoSmall }

/-- 'wainloadlaw12.CipherBytes', WHERE WHAT IT READS IS OF BULK AT MOST 1048576: true; the input reads as it did. -/
def cipherBytesUptoRow : OpenClaim := { program := "ytkdebhdfbpbcoaa", sum := "e887ab8a41315969f9db7ac1e9e5c1271a33b4904eb2632a5f17f80006bd3b14", func := "wainload/wainloadlaw12.CipherBytes", spec := "cipherBytes", apart := false, narrowed := true }
def CipherBytesUptoSaid : Prop := cipherBytesUptoRow.holds Try.pinned (OpenSpec.upto cipherBytesSpec)

/-- 'wainloadlaw12.CipherBlocks', WHERE WHAT IT READS IS OF BULK AT MOST 1048576: true; the input reads as it did. -/
def cipherBlocksUptoRow : OpenClaim := { program := "ytkdebhdfbpbcoaa", sum := "e887ab8a41315969f9db7ac1e9e5c1271a33b4904eb2632a5f17f80006bd3b14", func := "wainload/wainloadlaw12.CipherBlocks", spec := "cipherBlocks", apart := false, narrowed := true }
def CipherBlocksUptoSaid : Prop := cipherBlocksUptoRow.holds Try.pinned (OpenSpec.upto cipherBlocksSpec)

/-- 'wainloadlaw12.CipherUnlike', WHERE WHAT IT READS IS OF BULK AT MOST 1048576: true; the input reads as it did. -/
def cipherUnlikeUptoRow : OpenClaim := { program := "ytkdebhdfbpbcoaa", sum := "e887ab8a41315969f9db7ac1e9e5c1271a33b4904eb2632a5f17f80006bd3b14", func := "wainload/wainloadlaw12.CipherUnlike", spec := "cipherUnlike", apart := false, narrowed := true }
def CipherUnlikeUptoSaid : Prop := cipherUnlikeUptoRow.holds Try.pinned (OpenSpec.upto cipherUnlikeSpec)

/-- 'wainloadlaw12.CipherLaws', WHERE WHAT IT READS IS OF BULK AT MOST 1048576: true; the input reads as it did. -/
def cipherLawsUptoRow : OpenClaim := { program := "ytkdebhdfbpbcoaa", sum := "e887ab8a41315969f9db7ac1e9e5c1271a33b4904eb2632a5f17f80006bd3b14", func := "wainload/wainloadlaw12.CipherLaws", spec := "cipherLaws", apart := false, narrowed := true }
def CipherLawsUptoSaid : Prop := cipherLawsUptoRow.holds Try.pinned (OpenSpec.upto cipherLawsSpec)

/-- 'wainloadlaw12.CipherBox', WHERE WHAT IT READS IS OF BULK AT MOST 1048576: true; the input reads as it did. -/
def cipherBoxUptoRow : OpenClaim := { program := "ytkdebhdfbpbcoaa", sum := "e887ab8a41315969f9db7ac1e9e5c1271a33b4904eb2632a5f17f80006bd3b14", func := "wainload/wainloadlaw12.CipherBox", spec := "cipherBox", apart := false, narrowed := true }
def CipherBoxUptoSaid : Prop := cipherBoxUptoRow.holds Try.pinned (OpenSpec.upto cipherBoxSpec)

/-- 'wainloadlaw12.CipherKeeps', WHERE WHAT IT READS IS OF BULK AT MOST 1048576: true; the input reads as it did. -/
def cipherKeepsUptoRow : OpenClaim := { program := "ytkdebhdfbpbcoaa", sum := "e887ab8a41315969f9db7ac1e9e5c1271a33b4904eb2632a5f17f80006bd3b14", func := "wainload/wainloadlaw12.CipherKeeps", spec := "cipherKeeps", apart := false, narrowed := true }
def CipherKeepsUptoSaid : Prop := cipherKeepsUptoRow.holds Try.pinned (OpenSpec.upto cipherKeepsSpec)

end Rows
end Go.Proofs.Ytkdebhdfbpbcoaa
