/-
  No cell of these rows narrows 'for every input' (looked for: loops, veiled, ifaces, maps, wideKeys, modest, calm, conditions, laid).
  DERIVED. THE GIVEN ROWS OF THIS SEAT. 4 by the template 'for every input the law returns true; each argument reads behind the call as it read before'; 0 by the template 'total and deterministic' (their statements: YtdhfajmcakneiaaGreatTotals.lean).
  GIVEN WITH THE SEED: the statements are not yours to turn. If you find one false, say at which input.
  Laid BY PROGRAM, IN A SANDBOX (cutbox-rows.mjs): the forced cells as the released guide's own fill.sh prints them over the translation 0c72ca772dbc35d0… (all of the seat's roots in one cut). By AI agents, Wed Nov 11 2026. No macro, syntax, notation, axiom, sorry.
-/
import Derived.Test.YtdhfajmcakneiaaGreatChecked
import GoSem.Claim
import GoSem.ClaimJoined
import GoSem.ClaimMapViews
import Derived.JoinedTies
import Derived.KernelRfl
namespace Go.Proofs.YtdhfajmcakneiaaGreat
/- THE CELL 'sum', in the pinned program and in every row, IS THE sha256 OF THE DUMP (.gsa) THAT YtdhfajmcakneiaaGreatProg.lean LOADS. Nothing in Lean hashes anything: it is a label: what it is worth is what the hold of that sum in a sandbox is worth. -/
noncomputable def Tryz.pinned : Pinned := { name := "ytdhfajmcakneiaagreat", sum := "0c72ca772dbc35d03b4c0b7fcf9f29c17b076129e0c694bf516468df89b41faa", checked := Tryz.checked }
namespace Rows
def none {H : Type} : Left H := { results := [], args := [] }

/-- 'tscodeclaw22.SimpieceForms': WHATEVER THE INPUT: true; the input reads as it did. -/
def simpieceFormsSpec : ChangeSpec := { name := "simpieceForms", fn := fun _ => fun
  | [d1, d2] => { results := [.lit (.bool true)], args := [d1, d2] }
  | _ => none }
def simpieceFormsRow : OpenClaim := { program := "ytdhfajmcakneiaagreat", sum := "0c72ca772dbc35d03b4c0b7fcf9f29c17b076129e0c694bf516468df89b41faa", func := "tscodec/tscodeclaw22.SimpieceForms", spec := "simpieceForms", inPlace := ["math/bits.Sub64", "math/bits.Add64"], unfollowed := true, recurses := true, named := ["math/bits.divideError", "math/bits.overflowError"], apart := false }
def SimpieceFormsSaid : Prop := simpieceFormsRow.holds Tryz.pinned (OpenSpec.ofChange simpieceFormsSpec)

/-- ITS FALSE NEIGHBOUR: 'it returns false'. Refute it at one input. -/
def simpieceFormsWrong : ChangeSpec := { name := "simpieceForms", fn := fun _ => fun
  | [d1, d2] => { results := [.lit (.bool false)], args := [d1, d2] }
  | _ => none }
def SimpieceFormsWrongFalsely : Prop := simpieceFormsRow.holds Tryz.pinned (OpenSpec.ofChange simpieceFormsWrong)

/-- 'tscodeclaw22.SimpieceReads': WHATEVER THE INPUT: true; the input reads as it did. -/
def simpieceReadsSpec : ChangeSpec := { name := "simpieceReads", fn := fun _ => fun
  | [d1, d2, d3, d4] => { results := [.lit (.bool true)], args := [d1, d2, d3, d4] }
  | _ => none }
def simpieceReadsRow : OpenClaim := { program := "ytdhfajmcakneiaagreat", sum := "0c72ca772dbc35d03b4c0b7fcf9f29c17b076129e0c694bf516468df89b41faa", func := "tscodec/tscodeclaw22.SimpieceReads", spec := "simpieceReads", inPlace := ["math/bits.Sub64", "math/bits.Add64"], unfollowed := true, recurses := true, named := ["math/bits.divideError", "math/bits.overflowError"], apart := false }
def SimpieceReadsSaid : Prop := simpieceReadsRow.holds Tryz.pinned (OpenSpec.ofChange simpieceReadsSpec)

/-- ITS FALSE NEIGHBOUR: 'it returns false'. Refute it at one input. -/
def simpieceReadsWrong : ChangeSpec := { name := "simpieceReads", fn := fun _ => fun
  | [d1, d2, d3, d4] => { results := [.lit (.bool false)], args := [d1, d2, d3, d4] }
  | _ => none }
def SimpieceReadsWrongFalsely : Prop := simpieceReadsRow.holds Tryz.pinned (OpenSpec.ofChange simpieceReadsWrong)

/-- 'tscodeclaw22.SimpieceBack': WHATEVER THE INPUT: true; the input reads as it did. -/
def simpieceBackSpec : ChangeSpec := { name := "simpieceBack", fn := fun _ => fun
  | [d1, d2, d3] => { results := [.lit (.bool true)], args := [d1, d2, d3] }
  | _ => none }
def simpieceBackRow : OpenClaim := { program := "ytdhfajmcakneiaagreat", sum := "0c72ca772dbc35d03b4c0b7fcf9f29c17b076129e0c694bf516468df89b41faa", func := "tscodec/tscodeclaw22.SimpieceBack", spec := "simpieceBack", inPlace := ["math/bits.Sub64", "math/bits.Add64"], unfollowed := true, recurses := true, named := ["math/bits.divideError", "math/bits.overflowError"], apart := false }
def SimpieceBackSaid : Prop := simpieceBackRow.holds Tryz.pinned (OpenSpec.ofChange simpieceBackSpec)

/-- ITS FALSE NEIGHBOUR: 'it returns false'. Refute it at one input. -/
def simpieceBackWrong : ChangeSpec := { name := "simpieceBack", fn := fun _ => fun
  | [d1, d2, d3] => { results := [.lit (.bool false)], args := [d1, d2, d3] }
  | _ => none }
def SimpieceBackWrongFalsely : Prop := simpieceBackRow.holds Tryz.pinned (OpenSpec.ofChange simpieceBackWrong)

/-- 'tscodeclaw22.SimpieceCanonical': WHATEVER THE INPUT: true; the input reads as it did. -/
def simpieceCanonicalSpec : ChangeSpec := { name := "simpieceCanonical", fn := fun _ => fun
  | [d1, d2, d3] => { results := [.lit (.bool true)], args := [d1, d2, d3] }
  | _ => none }
def simpieceCanonicalRow : OpenClaim := { program := "ytdhfajmcakneiaagreat", sum := "0c72ca772dbc35d03b4c0b7fcf9f29c17b076129e0c694bf516468df89b41faa", func := "tscodec/tscodeclaw22.SimpieceCanonical", spec := "simpieceCanonical", inPlace := ["math/bits.Sub64", "math/bits.Add64"], unfollowed := true, recurses := true, named := ["math/bits.divideError", "math/bits.overflowError"], apart := false }
def SimpieceCanonicalSaid : Prop := simpieceCanonicalRow.holds Tryz.pinned (OpenSpec.ofChange simpieceCanonicalSpec)

/-- ITS FALSE NEIGHBOUR: 'it returns false'. Refute it at one input. -/
def simpieceCanonicalWrong : ChangeSpec := { name := "simpieceCanonical", fn := fun _ => fun
  | [d1, d2, d3] => { results := [.lit (.bool false)], args := [d1, d2, d3] }
  | _ => none }
def SimpieceCanonicalWrongFalsely : Prop := simpieceCanonicalRow.holds Tryz.pinned (OpenSpec.ofChange simpieceCanonicalWrong)

/- THE SECOND FORM. 'bulk': how many values and letters a reading holds, each counted each time it is reached (what is shared counts as often as it is met; a slice's spare places count too). A statement '..UptoSaid' is the law's where the arguments, and the package variables that the reading takes, are together of bulk at most 1048576: NARROWER than '..Said'. Prove '..Said' where nothing that the law and all that it calls make is longer than what came in: it says more and counts as full. Else prove '..UptoSaid'. A law counts once. -/
mutual
def uptoBulk {H : Type} : DataW H → Nat
  | .lit (.string bytes) => bytes.length + 1
  | .lit _ => 1
  | .nil => 1
  | .ptr d => uptoBulk d + 1
  | .slice elems spare => uptoBulkAll elems + uptoBulkAll spare + 1
  | .agg parts => uptoBulkAll parts + 1
  | .iface _ d => uptoBulk d + 1
  | .map entries => uptoBulkEntries entries + 1
  | .held _ => 1
def uptoBulkAll {H : Type} : List (DataW H) → Nat
  | [] => 0
  | d :: r => uptoBulk d + uptoBulkAll r
def uptoBulkEntries {H : Type} : List (Lit × DataW H) → Nat
  | [] => 0
  | x :: r => uptoBulkEntry x + uptoBulkEntries r
def uptoBulkEntry {H : Type} : Lit × DataW H → Nat
  | (.string bytes, d) => bytes.length + uptoBulk d + 1
  | (_, d) => uptoBulk d + 1
 end
def uptoSmall : (H : Type) → List (DataW H) → Bool := fun _ ds => decide (uptoBulkAll ds ≤ 1048576)
def OpenSpec.upto (s : _root_.Go.ChangeSpec) : _root_.Go.OpenSpec := { _root_.Go.OpenSpec.ofChange s with cond := some uptoSmall }

/-- 'tscodeclaw22.SimpieceForms', WHERE WHAT IT READS IS OF BULK AT MOST 1048576: true; the input reads as it did. -/
def simpieceFormsUptoRow : OpenClaim := { program := "ytdhfajmcakneiaagreat", sum := "0c72ca772dbc35d03b4c0b7fcf9f29c17b076129e0c694bf516468df89b41faa", func := "tscodec/tscodeclaw22.SimpieceForms", spec := "simpieceForms", inPlace := ["math/bits.Sub64", "math/bits.Add64"], unfollowed := true, recurses := true, named := ["math/bits.divideError", "math/bits.overflowError"], apart := false, narrowed := true }
def SimpieceFormsUptoSaid : Prop := simpieceFormsUptoRow.holds Tryz.pinned (OpenSpec.upto simpieceFormsSpec)

/-- 'tscodeclaw22.SimpieceReads', WHERE WHAT IT READS IS OF BULK AT MOST 1048576: true; the input reads as it did. -/
def simpieceReadsUptoRow : OpenClaim := { program := "ytdhfajmcakneiaagreat", sum := "0c72ca772dbc35d03b4c0b7fcf9f29c17b076129e0c694bf516468df89b41faa", func := "tscodec/tscodeclaw22.SimpieceReads", spec := "simpieceReads", inPlace := ["math/bits.Sub64", "math/bits.Add64"], unfollowed := true, recurses := true, named := ["math/bits.divideError", "math/bits.overflowError"], apart := false, narrowed := true }
def SimpieceReadsUptoSaid : Prop := simpieceReadsUptoRow.holds Tryz.pinned (OpenSpec.upto simpieceReadsSpec)

/-- 'tscodeclaw22.SimpieceBack', WHERE WHAT IT READS IS OF BULK AT MOST 1048576: true; the input reads as it did. -/
def simpieceBackUptoRow : OpenClaim := { program := "ytdhfajmcakneiaagreat", sum := "0c72ca772dbc35d03b4c0b7fcf9f29c17b076129e0c694bf516468df89b41faa", func := "tscodec/tscodeclaw22.SimpieceBack", spec := "simpieceBack", inPlace := ["math/bits.Sub64", "math/bits.Add64"], unfollowed := true, recurses := true, named := ["math/bits.divideError", "math/bits.overflowError"], apart := false, narrowed := true }
def SimpieceBackUptoSaid : Prop := simpieceBackUptoRow.holds Tryz.pinned (OpenSpec.upto simpieceBackSpec)

/-- 'tscodeclaw22.SimpieceCanonical', WHERE WHAT IT READS IS OF BULK AT MOST 1048576: true; the input reads as it did. -/
def simpieceCanonicalUptoRow : OpenClaim := { program := "ytdhfajmcakneiaagreat", sum := "0c72ca772dbc35d03b4c0b7fcf9f29c17b076129e0c694bf516468df89b41faa", func := "tscodec/tscodeclaw22.SimpieceCanonical", spec := "simpieceCanonical", inPlace := ["math/bits.Sub64", "math/bits.Add64"], unfollowed := true, recurses := true, named := ["math/bits.divideError", "math/bits.overflowError"], apart := false, narrowed := true }
def SimpieceCanonicalUptoSaid : Prop := simpieceCanonicalUptoRow.holds Tryz.pinned (OpenSpec.upto simpieceCanonicalSpec)

end Rows
end Go.Proofs.YtdhfajmcakneiaaGreat
