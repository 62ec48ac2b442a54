/-
  No cell of these rows narrows 'for every input' (looked for: loops, veiled, ifaces, maps, wideKeys, modest, calm, conditions, laid).
  DERIVED. THE GIVEN ROWS OF THIS SEAT. 5 by the template 'for every input the law returns true; each argument reads behind the call as it read before'; 0 by the template 'total and deterministic' (their statements: YtppoifpabafdlaaGreatTotals.lean).
  GIVEN WITH THE SEED: the statements are not yours to turn. If you find one false, say at which input.
  Laid BY PROGRAM, IN A SANDBOX (cutbox-rows.mjs): the forced cells as the released guide's own fill.sh prints them over the translation 6a8439cbbdbeeb99… (all of the seat's roots in one cut). By AI agents, Wed Nov 11 2026. No macro, syntax, notation, axiom, sorry.
-/
import Derived.Test.YtppoifpabafdlaaGreatChecked
import GoSem.Claim
import GoSem.ClaimJoined
import GoSem.ClaimMapViews
import Derived.JoinedTies
import Derived.KernelRfl
namespace Go.Proofs.YtppoifpabafdlaaGreat
/- THE CELL 'sum', in the pinned program and in every row, IS THE sha256 OF THE DUMP (.gsa) THAT YtppoifpabafdlaaGreatProg.lean LOADS. Nothing in Lean hashes anything: it is a label: what it is worth is what the hold of that sum in a sandbox is worth. -/
noncomputable def Tryz.pinned : Pinned := { name := "ytppoifpabafdlaagreat", sum := "6a8439cbbdbeeb992fb754dfe90be8f147e23a5d89cb3f34c178bdb3da875185", checked := Tryz.checked }
namespace Rows
def none {H : Type} : Left H := { results := [], args := [] }

/-- 'tscodectop.TopLeast': WHATEVER THE INPUT: true; the input reads as it did. -/
def topLeastSpec : ChangeSpec := { name := "topLeast", fn := fun _ => fun
  | [d] => { results := [.lit (.bool true)], args := [d] }
  | _ => none }
def topLeastRow : OpenClaim := { program := "ytppoifpabafdlaagreat", sum := "6a8439cbbdbeeb992fb754dfe90be8f147e23a5d89cb3f34c178bdb3da875185", func := "tscodec/tscodectop.TopLeast", spec := "topLeast", unfollowed := true, recurses := true, apart := false }
def TopLeastSaid : Prop := topLeastRow.holds Tryz.pinned (OpenSpec.ofChange topLeastSpec)

/-- ITS FALSE NEIGHBOUR: 'it returns false'. Refute it at one input. -/
def topLeastWrong : ChangeSpec := { name := "topLeast", fn := fun _ => fun
  | [d] => { results := [.lit (.bool false)], args := [d] }
  | _ => none }
def TopLeastWrongFalsely : Prop := topLeastRow.holds Tryz.pinned (OpenSpec.ofChange topLeastWrong)

/-- 'tscodectop.TopTwice': WHATEVER THE INPUT: true; the input reads as it did. -/
def topTwiceSpec : ChangeSpec := { name := "topTwice", fn := fun _ => fun
  | [d] => { results := [.lit (.bool true)], args := [d] }
  | _ => none }
def topTwiceRow : OpenClaim := { program := "ytppoifpabafdlaagreat", sum := "6a8439cbbdbeeb992fb754dfe90be8f147e23a5d89cb3f34c178bdb3da875185", func := "tscodec/tscodectop.TopTwice", spec := "topTwice", inPlace := ["math/bits.Add64", "math/bits.Sub64"], unfollowed := true, recurses := true, apart := false }
def TopTwiceSaid : Prop := topTwiceRow.holds Tryz.pinned (OpenSpec.ofChange topTwiceSpec)

/-- ITS FALSE NEIGHBOUR: 'it returns false'. Refute it at one input. -/
def topTwiceWrong : ChangeSpec := { name := "topTwice", fn := fun _ => fun
  | [d] => { results := [.lit (.bool false)], args := [d] }
  | _ => none }
def TopTwiceWrongFalsely : Prop := topTwiceRow.holds Tryz.pinned (OpenSpec.ofChange topTwiceWrong)

/-- 'tscodectop.TopCanonical': WHATEVER THE INPUT: true; the input reads as it did. -/
def topCanonicalSpec : ChangeSpec := { name := "topCanonical", fn := fun _ => fun
  | [d1, d2] => { results := [.lit (.bool true)], args := [d1, d2] }
  | _ => none }
def topCanonicalRow : OpenClaim := { program := "ytppoifpabafdlaagreat", sum := "6a8439cbbdbeeb992fb754dfe90be8f147e23a5d89cb3f34c178bdb3da875185", func := "tscodec/tscodectop.TopCanonical", spec := "topCanonical", inPlace := ["math/bits.Sub64", "math/bits.Add64"], unfollowed := true, recurses := true, named := ["math/bits.divideError", "math/bits.overflowError"], apart := false }
def TopCanonicalSaid : Prop := topCanonicalRow.holds Tryz.pinned (OpenSpec.ofChange topCanonicalSpec)

/-- ITS FALSE NEIGHBOUR: 'it returns false'. Refute it at one input. -/
def topCanonicalWrong : ChangeSpec := { name := "topCanonical", fn := fun _ => fun
  | [d1, d2] => { results := [.lit (.bool false)], args := [d1, d2] }
  | _ => none }
def TopCanonicalWrongFalsely : Prop := topCanonicalRow.holds Tryz.pinned (OpenSpec.ofChange topCanonicalWrong)

/-- 'tscodectop.TopDownsample': WHATEVER THE INPUT: true; the input reads as it did. -/
def topDownsampleSpec : ChangeSpec := { name := "topDownsample", fn := fun _ => fun
  | [d] => { results := [.lit (.bool true)], args := [d] }
  | _ => none }
def topDownsampleRow : OpenClaim := { program := "ytppoifpabafdlaagreat", sum := "6a8439cbbdbeeb992fb754dfe90be8f147e23a5d89cb3f34c178bdb3da875185", func := "tscodec/tscodectop.TopDownsample", spec := "topDownsample", inPlace := ["math/bits.Add64", "math/bits.Sub64"], unfollowed := true, recurses := true, apart := false }
def TopDownsampleSaid : Prop := topDownsampleRow.holds Tryz.pinned (OpenSpec.ofChange topDownsampleSpec)

/-- ITS FALSE NEIGHBOUR: 'it returns false'. Refute it at one input. -/
def topDownsampleWrong : ChangeSpec := { name := "topDownsample", fn := fun _ => fun
  | [d] => { results := [.lit (.bool false)], args := [d] }
  | _ => none }
def TopDownsampleWrongFalsely : Prop := topDownsampleRow.holds Tryz.pinned (OpenSpec.ofChange topDownsampleWrong)

/-- 'tscodectop.TopErrors': WHATEVER THE INPUT: true; the input reads as it did. -/
def topErrorsSpec : ChangeSpec := { name := "topErrors", fn := fun _ => fun
  | [d1, d2, d3] => { results := [.lit (.bool true)], args := [d1, d2, d3] }
  | _ => none }
def topErrorsRow : OpenClaim := { program := "ytppoifpabafdlaagreat", sum := "6a8439cbbdbeeb992fb754dfe90be8f147e23a5d89cb3f34c178bdb3da875185", func := "tscodec/tscodectop.TopErrors", spec := "topErrors", unfollowed := true, recurses := true, apart := false }
def TopErrorsSaid : Prop := topErrorsRow.holds Tryz.pinned (OpenSpec.ofChange topErrorsSpec)

/-- ITS FALSE NEIGHBOUR: 'it returns false'. Refute it at one input. -/
def topErrorsWrong : ChangeSpec := { name := "topErrors", fn := fun _ => fun
  | [d1, d2, d3] => { results := [.lit (.bool false)], args := [d1, d2, d3] }
  | _ => none }
def TopErrorsWrongFalsely : Prop := topErrorsRow.holds Tryz.pinned (OpenSpec.ofChange topErrorsWrong)

/- THE SECOND FORM. 'bulk': how many values and letters a reading holds, each counted each time it is reached (what is shared counts as often as it is met; a slice's spare places count too). A statement '..UptoSaid' is the law's where the arguments, and the package variables that the reading takes, are together of bulk at most 1048576: NARROWER than '..Said'. Prove '..Said' where nothing that the law and all that it calls make is longer than what came in: it says more and counts as full. Else prove '..UptoSaid'. A law counts once. -/
mutual
def uptoBulk {H : Type} : DataW H → Nat
  | .lit (.string bytes) => bytes.length + 1
  | .lit _ => 1
  | .nil => 1
  | .ptr d => uptoBulk d + 1
  | .slice elems spare => uptoBulkAll elems + uptoBulkAll spare + 1
  | .agg parts => uptoBulkAll parts + 1
  | .iface _ d => uptoBulk d + 1
  | .map entries => uptoBulkEntries entries + 1
  | .held _ => 1
def uptoBulkAll {H : Type} : List (DataW H) → Nat
  | [] => 0
  | d :: r => uptoBulk d + uptoBulkAll r
def uptoBulkEntries {H : Type} : List (Lit × DataW H) → Nat
  | [] => 0
  | x :: r => uptoBulkEntry x + uptoBulkEntries r
def uptoBulkEntry {H : Type} : Lit × DataW H → Nat
  | (.string bytes, d) => bytes.length + uptoBulk d + 1
  | (_, d) => uptoBulk d + 1
 end
def uptoSmall : (H : Type) → List (DataW H) → Bool := fun _ ds => decide (uptoBulkAll ds ≤ 1048576)
def OpenSpec.upto (s : _root_.Go.ChangeSpec) : _root_.Go.OpenSpec := { _root_.Go.OpenSpec.ofChange s with cond := some uptoSmall }

/-- 'tscodectop.TopLeast', WHERE WHAT IT READS IS OF BULK AT MOST 1048576: true; the input reads as it did. -/
def topLeastUptoRow : OpenClaim := { program := "ytppoifpabafdlaagreat", sum := "6a8439cbbdbeeb992fb754dfe90be8f147e23a5d89cb3f34c178bdb3da875185", func := "tscodec/tscodectop.TopLeast", spec := "topLeast", unfollowed := true, recurses := true, apart := false, narrowed := true }
def TopLeastUptoSaid : Prop := topLeastUptoRow.holds Tryz.pinned (OpenSpec.upto topLeastSpec)

/-- 'tscodectop.TopTwice', WHERE WHAT IT READS IS OF BULK AT MOST 1048576: true; the input reads as it did. -/
def topTwiceUptoRow : OpenClaim := { program := "ytppoifpabafdlaagreat", sum := "6a8439cbbdbeeb992fb754dfe90be8f147e23a5d89cb3f34c178bdb3da875185", func := "tscodec/tscodectop.TopTwice", spec := "topTwice", inPlace := ["math/bits.Add64", "math/bits.Sub64"], unfollowed := true, recurses := true, apart := false, narrowed := true }
def TopTwiceUptoSaid : Prop := topTwiceUptoRow.holds Tryz.pinned (OpenSpec.upto topTwiceSpec)

/-- 'tscodectop.TopCanonical', WHERE WHAT IT READS IS OF BULK AT MOST 1048576: true; the input reads as it did. -/
def topCanonicalUptoRow : OpenClaim := { program := "ytppoifpabafdlaagreat", sum := "6a8439cbbdbeeb992fb754dfe90be8f147e23a5d89cb3f34c178bdb3da875185", func := "tscodec/tscodectop.TopCanonical", spec := "topCanonical", inPlace := ["math/bits.Sub64", "math/bits.Add64"], unfollowed := true, recurses := true, named := ["math/bits.divideError", "math/bits.overflowError"], apart := false, narrowed := true }
def TopCanonicalUptoSaid : Prop := topCanonicalUptoRow.holds Tryz.pinned (OpenSpec.upto topCanonicalSpec)

/-- 'tscodectop.TopDownsample', WHERE WHAT IT READS IS OF BULK AT MOST 1048576: true; the input reads as it did. -/
def topDownsampleUptoRow : OpenClaim := { program := "ytppoifpabafdlaagreat", sum := "6a8439cbbdbeeb992fb754dfe90be8f147e23a5d89cb3f34c178bdb3da875185", func := "tscodec/tscodectop.TopDownsample", spec := "topDownsample", inPlace := ["math/bits.Add64", "math/bits.Sub64"], unfollowed := true, recurses := true, apart := false, narrowed := true }
def TopDownsampleUptoSaid : Prop := topDownsampleUptoRow.holds Tryz.pinned (OpenSpec.upto topDownsampleSpec)

/-- 'tscodectop.TopErrors', WHERE WHAT IT READS IS OF BULK AT MOST 1048576: true; the input reads as it did. -/
def topErrorsUptoRow : OpenClaim := { program := "ytppoifpabafdlaagreat", sum := "6a8439cbbdbeeb992fb754dfe90be8f147e23a5d89cb3f34c178bdb3da875185", func := "tscodec/tscodectop.TopErrors", spec := "topErrors", unfollowed := true, recurses := true, apart := false, narrowed := true }
def TopErrorsUptoSaid : Prop := topErrorsUptoRow.holds Tryz.pinned (OpenSpec.upto topErrorsSpec)

end Rows
end Go.Proofs.YtppoifpabafdlaaGreat
