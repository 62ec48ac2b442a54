/-
  No cell of these rows narrows 'for every input' (looked for: loops, veiled, ifaces, maps, wideKeys, modest, calm, conditions, laid).
  DERIVED. THE GIVEN ROWS OF THIS SEAT. 12 by the template 'for every input the law returns true; each argument reads behind the call as it read before'; 0 by the template 'total and deterministic' (their statements: YtlgfiljadnafeaaTotals.lean).
  GIVEN WITH THE SEED: the statements are not yours to turn. If you find one false, say at which input.
  Laid BY PROGRAM, IN A SANDBOX (cutbox-rows.mjs): the forced cells as the released guide's own fill.sh prints them over the translation 4733b76f381ac9eb… (all of the seat's roots in one cut). By AI agents, Wed Nov 11 2026. No macro, syntax, notation, axiom, sorry.
-/
import Derived.Test.YtlgfiljadnafeaaChecked
import GoSem.Claim
import GoSem.ClaimJoined
import GoSem.ClaimMapViews
import Derived.JoinedTies
import Derived.KernelRfl
namespace Go.Proofs.Ytlgfiljadnafeaa
/- THE CELL 'sum', in the pinned program and in every row, IS THE sha256 OF THE DUMP (.gsa) THAT YtlgfiljadnafeaaProg.lean LOADS. Nothing in Lean hashes anything: it is a label: what it is worth is what the hold of that sum in a sandbox is worth. -/
noncomputable def Try.pinned : Pinned := { name := "ytlgfiljadnafeaa", sum := "4733b76f381ac9eb0513f5c34740b0f669892b9919c43ec0d4ea8544a42ce118", checked := Try.checked }
namespace Rows
def none {H : Type} : Left H := { results := [], args := [] }

/-- 'tscodeclaw24.BucketsForms': WHATEVER THE INPUT: true; the input reads as it did. -/
def bucketsFormsSpec : ChangeSpec := { name := "bucketsForms", fn := fun _ => fun
  | [d1, d2] => { results := [.lit (.bool true)], args := [d1, d2] }
  | _ => none }
def bucketsFormsRow : OpenClaim := { program := "ytlgfiljadnafeaa", sum := "4733b76f381ac9eb0513f5c34740b0f669892b9919c43ec0d4ea8544a42ce118", func := "tscodec/tscodeclaw24.BucketsForms", spec := "bucketsForms", apart := false }
def BucketsFormsSaid : Prop := bucketsFormsRow.holds Try.pinned (OpenSpec.ofChange bucketsFormsSpec)

/-- ITS FALSE NEIGHBOUR: 'it returns false'. Refute it at one input. -/
def bucketsFormsWrong : ChangeSpec := { name := "bucketsForms", fn := fun _ => fun
  | [d1, d2] => { results := [.lit (.bool false)], args := [d1, d2] }
  | _ => none }
def BucketsFormsWrongFalsely : Prop := bucketsFormsRow.holds Try.pinned (OpenSpec.ofChange bucketsFormsWrong)

/-- 'tscodeclaw24.BucketsCover': WHATEVER THE INPUT: true; the input reads as it did. -/
def bucketsCoverSpec : ChangeSpec := { name := "bucketsCover", fn := fun _ => fun
  | [d1, d2] => { results := [.lit (.bool true)], args := [d1, d2] }
  | _ => none }
def bucketsCoverRow : OpenClaim := { program := "ytlgfiljadnafeaa", sum := "4733b76f381ac9eb0513f5c34740b0f669892b9919c43ec0d4ea8544a42ce118", func := "tscodec/tscodeclaw24.BucketsCover", spec := "bucketsCover", apart := false }
def BucketsCoverSaid : Prop := bucketsCoverRow.holds Try.pinned (OpenSpec.ofChange bucketsCoverSpec)

/-- ITS FALSE NEIGHBOUR: 'it returns false'. Refute it at one input. -/
def bucketsCoverWrong : ChangeSpec := { name := "bucketsCover", fn := fun _ => fun
  | [d1, d2] => { results := [.lit (.bool false)], args := [d1, d2] }
  | _ => none }
def BucketsCoverWrongFalsely : Prop := bucketsCoverRow.holds Try.pinned (OpenSpec.ofChange bucketsCoverWrong)

/-- 'tscodeclaw08.BitpackForms': WHATEVER THE INPUT: true; the input reads as it did. -/
def bitpackFormsSpec : ChangeSpec := { name := "bitpackForms", fn := fun _ => fun
  | [d1, d2, d3, d4] => { results := [.lit (.bool true)], args := [d1, d2, d3, d4] }
  | _ => none }
def bitpackFormsRow : OpenClaim := { program := "ytlgfiljadnafeaa", sum := "4733b76f381ac9eb0513f5c34740b0f669892b9919c43ec0d4ea8544a42ce118", func := "tscodec/tscodeclaw08.BitpackForms", spec := "bitpackForms", apart := false }
def BitpackFormsSaid : Prop := bitpackFormsRow.holds Try.pinned (OpenSpec.ofChange bitpackFormsSpec)

/-- ITS FALSE NEIGHBOUR: 'it returns false'. Refute it at one input. -/
def bitpackFormsWrong : ChangeSpec := { name := "bitpackForms", fn := fun _ => fun
  | [d1, d2, d3, d4] => { results := [.lit (.bool false)], args := [d1, d2, d3, d4] }
  | _ => none }
def BitpackFormsWrongFalsely : Prop := bitpackFormsRow.holds Try.pinned (OpenSpec.ofChange bitpackFormsWrong)

/-- 'tscodeclaw08.BitpackReads': WHATEVER THE INPUT: true; the input reads as it did. -/
def bitpackReadsSpec : ChangeSpec := { name := "bitpackReads", fn := fun _ => fun
  | [d1, d2, d3, d4] => { results := [.lit (.bool true)], args := [d1, d2, d3, d4] }
  | _ => none }
def bitpackReadsRow : OpenClaim := { program := "ytlgfiljadnafeaa", sum := "4733b76f381ac9eb0513f5c34740b0f669892b9919c43ec0d4ea8544a42ce118", func := "tscodec/tscodeclaw08.BitpackReads", spec := "bitpackReads", apart := false }
def BitpackReadsSaid : Prop := bitpackReadsRow.holds Try.pinned (OpenSpec.ofChange bitpackReadsSpec)

/-- ITS FALSE NEIGHBOUR: 'it returns false'. Refute it at one input. -/
def bitpackReadsWrong : ChangeSpec := { name := "bitpackReads", fn := fun _ => fun
  | [d1, d2, d3, d4] => { results := [.lit (.bool false)], args := [d1, d2, d3, d4] }
  | _ => none }
def BitpackReadsWrongFalsely : Prop := bitpackReadsRow.holds Try.pinned (OpenSpec.ofChange bitpackReadsWrong)

/-- 'tscodeclaw08.BitpackBack': WHATEVER THE INPUT: true; the input reads as it did. -/
def bitpackBackSpec : ChangeSpec := { name := "bitpackBack", fn := fun _ => fun
  | [d1, d2] => { results := [.lit (.bool true)], args := [d1, d2] }
  | _ => none }
def bitpackBackRow : OpenClaim := { program := "ytlgfiljadnafeaa", sum := "4733b76f381ac9eb0513f5c34740b0f669892b9919c43ec0d4ea8544a42ce118", func := "tscodec/tscodeclaw08.BitpackBack", spec := "bitpackBack", apart := false }
def BitpackBackSaid : Prop := bitpackBackRow.holds Try.pinned (OpenSpec.ofChange bitpackBackSpec)

/-- ITS FALSE NEIGHBOUR: 'it returns false'. Refute it at one input. -/
def bitpackBackWrong : ChangeSpec := { name := "bitpackBack", fn := fun _ => fun
  | [d1, d2] => { results := [.lit (.bool false)], args := [d1, d2] }
  | _ => none }
def BitpackBackWrongFalsely : Prop := bitpackBackRow.holds Try.pinned (OpenSpec.ofChange bitpackBackWrong)

/-- 'tscodeclaw08.BitpackCanonical': WHATEVER THE INPUT: true; the input reads as it did. -/
def bitpackCanonicalSpec : ChangeSpec := { name := "bitpackCanonical", fn := fun _ => fun
  | [d1, d2] => { results := [.lit (.bool true)], args := [d1, d2] }
  | _ => none }
def bitpackCanonicalRow : OpenClaim := { program := "ytlgfiljadnafeaa", sum := "4733b76f381ac9eb0513f5c34740b0f669892b9919c43ec0d4ea8544a42ce118", func := "tscodec/tscodeclaw08.BitpackCanonical", spec := "bitpackCanonical", apart := false }
def BitpackCanonicalSaid : Prop := bitpackCanonicalRow.holds Try.pinned (OpenSpec.ofChange bitpackCanonicalSpec)

/-- ITS FALSE NEIGHBOUR: 'it returns false'. Refute it at one input. -/
def bitpackCanonicalWrong : ChangeSpec := { name := "bitpackCanonical", fn := fun _ => fun
  | [d1, d2] => { results := [.lit (.bool false)], args := [d1, d2] }
  | _ => none }
def BitpackCanonicalWrongFalsely : Prop := bitpackCanonicalRow.holds Try.pinned (OpenSpec.ofChange bitpackCanonicalWrong)

/-- 'tscodeclaw05.VarintZigzag': WHATEVER THE INPUT: true; the input reads as it did. -/
def varintZigzagSpec : ChangeSpec := { name := "varintZigzag", fn := fun _ => fun
  | [d1, d2, d3] => { results := [.lit (.bool true)], args := [d1, d2, d3] }
  | _ => none }
def varintZigzagRow : OpenClaim := { program := "ytlgfiljadnafeaa", sum := "4733b76f381ac9eb0513f5c34740b0f669892b9919c43ec0d4ea8544a42ce118", func := "tscodec/tscodeclaw05.VarintZigzag", spec := "varintZigzag", unfollowed := true, recurses := true, apart := false }
def VarintZigzagSaid : Prop := varintZigzagRow.holds Try.pinned (OpenSpec.ofChange varintZigzagSpec)

/-- ITS FALSE NEIGHBOUR: 'it returns false'. Refute it at one input. -/
def varintZigzagWrong : ChangeSpec := { name := "varintZigzag", fn := fun _ => fun
  | [d1, d2, d3] => { results := [.lit (.bool false)], args := [d1, d2, d3] }
  | _ => none }
def VarintZigzagWrongFalsely : Prop := varintZigzagRow.holds Try.pinned (OpenSpec.ofChange varintZigzagWrong)

/-- 'tscodeclaw05.VarintCut': WHATEVER THE INPUT: true; the input reads as it did. -/
def varintCutSpec : ChangeSpec := { name := "varintCut", fn := fun _ => fun
  | [d1, d2, d3] => { results := [.lit (.bool true)], args := [d1, d2, d3] }
  | _ => none }
def varintCutRow : OpenClaim := { program := "ytlgfiljadnafeaa", sum := "4733b76f381ac9eb0513f5c34740b0f669892b9919c43ec0d4ea8544a42ce118", func := "tscodec/tscodeclaw05.VarintCut", spec := "varintCut", unfollowed := true, recurses := true, apart := false }
def VarintCutSaid : Prop := varintCutRow.holds Try.pinned (OpenSpec.ofChange varintCutSpec)

/-- ITS FALSE NEIGHBOUR: 'it returns false'. Refute it at one input. -/
def varintCutWrong : ChangeSpec := { name := "varintCut", fn := fun _ => fun
  | [d1, d2, d3] => { results := [.lit (.bool false)], args := [d1, d2, d3] }
  | _ => none }
def VarintCutWrongFalsely : Prop := varintCutRow.holds Try.pinned (OpenSpec.ofChange varintCutWrong)

/-- 'tscodeclaw05.VarintBack': WHATEVER THE INPUT: true; the input reads as it did. -/
def varintBackSpec : ChangeSpec := { name := "varintBack", fn := fun _ => fun
  | [d1, d2, d3, d4, d5] => { results := [.lit (.bool true)], args := [d1, d2, d3, d4, d5] }
  | _ => none }
def varintBackRow : OpenClaim := { program := "ytlgfiljadnafeaa", sum := "4733b76f381ac9eb0513f5c34740b0f669892b9919c43ec0d4ea8544a42ce118", func := "tscodec/tscodeclaw05.VarintBack", spec := "varintBack", unfollowed := true, recurses := true, apart := false }
def VarintBackSaid : Prop := varintBackRow.holds Try.pinned (OpenSpec.ofChange varintBackSpec)

/-- ITS FALSE NEIGHBOUR: 'it returns false'. Refute it at one input. -/
def varintBackWrong : ChangeSpec := { name := "varintBack", fn := fun _ => fun
  | [d1, d2, d3, d4, d5] => { results := [.lit (.bool false)], args := [d1, d2, d3, d4, d5] }
  | _ => none }
def VarintBackWrongFalsely : Prop := varintBackRow.holds Try.pinned (OpenSpec.ofChange varintBackWrong)

/-- 'tscodeclaw05.VarintForms': WHATEVER THE INPUT: true; the input reads as it did. -/
def varintFormsSpec : ChangeSpec := { name := "varintForms", fn := fun _ => fun
  | [d1, d2, d3, d4, d5] => { results := [.lit (.bool true)], args := [d1, d2, d3, d4, d5] }
  | _ => none }
def varintFormsRow : OpenClaim := { program := "ytlgfiljadnafeaa", sum := "4733b76f381ac9eb0513f5c34740b0f669892b9919c43ec0d4ea8544a42ce118", func := "tscodec/tscodeclaw05.VarintForms", spec := "varintForms", inPlace := ["math/bits.Sub64", "math/bits.Add64"], unfollowed := true, recurses := true, named := ["math/bits.divideError", "math/bits.overflowError"], apart := false }
def VarintFormsSaid : Prop := varintFormsRow.holds Try.pinned (OpenSpec.ofChange varintFormsSpec)

/-- ITS FALSE NEIGHBOUR: 'it returns false'. Refute it at one input. -/
def varintFormsWrong : ChangeSpec := { name := "varintForms", fn := fun _ => fun
  | [d1, d2, d3, d4, d5] => { results := [.lit (.bool false)], args := [d1, d2, d3, d4, d5] }
  | _ => none }
def VarintFormsWrongFalsely : Prop := varintFormsRow.holds Try.pinned (OpenSpec.ofChange varintFormsWrong)

/-- 'tscodeclaw05.VarintReads': WHATEVER THE INPUT: true; the input reads as it did. -/
def varintReadsSpec : ChangeSpec := { name := "varintReads", fn := fun _ => fun
  | [d1, d2, d3, d4, d5] => { results := [.lit (.bool true)], args := [d1, d2, d3, d4, d5] }
  | _ => none }
def varintReadsRow : OpenClaim := { program := "ytlgfiljadnafeaa", sum := "4733b76f381ac9eb0513f5c34740b0f669892b9919c43ec0d4ea8544a42ce118", func := "tscodec/tscodeclaw05.VarintReads", spec := "varintReads", inPlace := ["math/bits.Sub64", "math/bits.Add64"], unfollowed := true, recurses := true, named := ["math/bits.divideError", "math/bits.overflowError"], apart := false }
def VarintReadsSaid : Prop := varintReadsRow.holds Try.pinned (OpenSpec.ofChange varintReadsSpec)

/-- ITS FALSE NEIGHBOUR: 'it returns false'. Refute it at one input. -/
def varintReadsWrong : ChangeSpec := { name := "varintReads", fn := fun _ => fun
  | [d1, d2, d3, d4, d5] => { results := [.lit (.bool false)], args := [d1, d2, d3, d4, d5] }
  | _ => none }
def VarintReadsWrongFalsely : Prop := varintReadsRow.holds Try.pinned (OpenSpec.ofChange varintReadsWrong)

/-- 'tscodeclaw05.VarintCanonical': WHATEVER THE INPUT: true; the input reads as it did. -/
def varintCanonicalSpec : ChangeSpec := { name := "varintCanonical", fn := fun _ => fun
  | [d1, d2] => { results := [.lit (.bool true)], args := [d1, d2] }
  | _ => none }
def varintCanonicalRow : OpenClaim := { program := "ytlgfiljadnafeaa", sum := "4733b76f381ac9eb0513f5c34740b0f669892b9919c43ec0d4ea8544a42ce118", func := "tscodec/tscodeclaw05.VarintCanonical", spec := "varintCanonical", inPlace := ["math/bits.Sub64", "math/bits.Add64"], unfollowed := true, recurses := true, named := ["math/bits.divideError", "math/bits.overflowError"], apart := false }
def VarintCanonicalSaid : Prop := varintCanonicalRow.holds Try.pinned (OpenSpec.ofChange varintCanonicalSpec)

/-- ITS FALSE NEIGHBOUR: 'it returns false'. Refute it at one input. -/
def varintCanonicalWrong : ChangeSpec := { name := "varintCanonical", fn := fun _ => fun
  | [d1, d2] => { results := [.lit (.bool false)], args := [d1, d2] }
  | _ => none }
def VarintCanonicalWrongFalsely : Prop := varintCanonicalRow.holds Try.pinned (OpenSpec.ofChange varintCanonicalWrong)

/- THE SECOND FORM. 'bulk': how many values and letters a reading holds, each counted each time it is reached (what is shared counts as often as it is met; a slice's spare places count too). A statement '..UptoSaid' is the law's where the arguments, and the package variables that the reading takes, are together of bulk at most 1048576: NARROWER than '..Said'. Prove '..Said' where nothing that the law and all that it calls make is longer than what came in: it says more and counts as full. Else prove '..UptoSaid'. A law counts once. -/
mutual
def uptoBulk {H : Type} : DataW H → Nat
  | .lit (.string bytes) => bytes.length + 1
  | .lit _ => 1
  | .nil => 1
  | .ptr d => uptoBulk d + 1
  | .slice elems spare => uptoBulkAll elems + uptoBulkAll spare + 1
  | .agg parts => uptoBulkAll parts + 1
  | .iface _ d => uptoBulk d + 1
  | .map entries => uptoBulkEntries entries + 1
  | .held _ => 1
def uptoBulkAll {H : Type} : List (DataW H) → Nat
  | [] => 0
  | d :: r => uptoBulk d + uptoBulkAll r
def uptoBulkEntries {H : Type} : List (Lit × DataW H) → Nat
  | [] => 0
  | x :: r => uptoBulkEntry x + uptoBulkEntries r
def uptoBulkEntry {H : Type} : Lit × DataW H → Nat
  | (.string bytes, d) => bytes.length + uptoBulk d + 1
  | (_, d) => uptoBulk d + 1
 end
def uptoSmall : (H : Type) → List (DataW H) → Bool := fun _ ds => decide (uptoBulkAll ds ≤ 1048576)
def OpenSpec.upto (s : _root_.Go.ChangeSpec) : _root_.Go.OpenSpec := { _root_.Go.OpenSpec.ofChange s with cond := some uptoSmall }

/-- 'tscodeclaw24.BucketsForms', WHERE WHAT IT READS IS OF BULK AT MOST 1048576: true; the input reads as it did. -/
def bucketsFormsUptoRow : OpenClaim := { program := "ytlgfiljadnafeaa", sum := "4733b76f381ac9eb0513f5c34740b0f669892b9919c43ec0d4ea8544a42ce118", func := "tscodec/tscodeclaw24.BucketsForms", spec := "bucketsForms", apart := false, narrowed := true }
def BucketsFormsUptoSaid : Prop := bucketsFormsUptoRow.holds Try.pinned (OpenSpec.upto bucketsFormsSpec)

/-- 'tscodeclaw24.BucketsCover', WHERE WHAT IT READS IS OF BULK AT MOST 1048576: true; the input reads as it did. -/
def bucketsCoverUptoRow : OpenClaim := { program := "ytlgfiljadnafeaa", sum := "4733b76f381ac9eb0513f5c34740b0f669892b9919c43ec0d4ea8544a42ce118", func := "tscodec/tscodeclaw24.BucketsCover", spec := "bucketsCover", apart := false, narrowed := true }
def BucketsCoverUptoSaid : Prop := bucketsCoverUptoRow.holds Try.pinned (OpenSpec.upto bucketsCoverSpec)

/-- 'tscodeclaw08.BitpackForms', WHERE WHAT IT READS IS OF BULK AT MOST 1048576: true; the input reads as it did. -/
def bitpackFormsUptoRow : OpenClaim := { program := "ytlgfiljadnafeaa", sum := "4733b76f381ac9eb0513f5c34740b0f669892b9919c43ec0d4ea8544a42ce118", func := "tscodec/tscodeclaw08.BitpackForms", spec := "bitpackForms", apart := false, narrowed := true }
def BitpackFormsUptoSaid : Prop := bitpackFormsUptoRow.holds Try.pinned (OpenSpec.upto bitpackFormsSpec)

/-- 'tscodeclaw08.BitpackReads', WHERE WHAT IT READS IS OF BULK AT MOST 1048576: true; the input reads as it did. -/
def bitpackReadsUptoRow : OpenClaim := { program := "ytlgfiljadnafeaa", sum := "4733b76f381ac9eb0513f5c34740b0f669892b9919c43ec0d4ea8544a42ce118", func := "tscodec/tscodeclaw08.BitpackReads", spec := "bitpackReads", apart := false, narrowed := true }
def BitpackReadsUptoSaid : Prop := bitpackReadsUptoRow.holds Try.pinned (OpenSpec.upto bitpackReadsSpec)

/-- 'tscodeclaw08.BitpackBack', WHERE WHAT IT READS IS OF BULK AT MOST 1048576: true; the input reads as it did. -/
def bitpackBackUptoRow : OpenClaim := { program := "ytlgfiljadnafeaa", sum := "4733b76f381ac9eb0513f5c34740b0f669892b9919c43ec0d4ea8544a42ce118", func := "tscodec/tscodeclaw08.BitpackBack", spec := "bitpackBack", apart := false, narrowed := true }
def BitpackBackUptoSaid : Prop := bitpackBackUptoRow.holds Try.pinned (OpenSpec.upto bitpackBackSpec)

/-- 'tscodeclaw08.BitpackCanonical', WHERE WHAT IT READS IS OF BULK AT MOST 1048576: true; the input reads as it did. -/
def bitpackCanonicalUptoRow : OpenClaim := { program := "ytlgfiljadnafeaa", sum := "4733b76f381ac9eb0513f5c34740b0f669892b9919c43ec0d4ea8544a42ce118", func := "tscodec/tscodeclaw08.BitpackCanonical", spec := "bitpackCanonical", apart := false, narrowed := true }
def BitpackCanonicalUptoSaid : Prop := bitpackCanonicalUptoRow.holds Try.pinned (OpenSpec.upto bitpackCanonicalSpec)

/-- 'tscodeclaw05.VarintZigzag', WHERE WHAT IT READS IS OF BULK AT MOST 1048576: true; the input reads as it did. -/
def varintZigzagUptoRow : OpenClaim := { program := "ytlgfiljadnafeaa", sum := "4733b76f381ac9eb0513f5c34740b0f669892b9919c43ec0d4ea8544a42ce118", func := "tscodec/tscodeclaw05.VarintZigzag", spec := "varintZigzag", unfollowed := true, recurses := true, apart := false, narrowed := true }
def VarintZigzagUptoSaid : Prop := varintZigzagUptoRow.holds Try.pinned (OpenSpec.upto varintZigzagSpec)

/-- 'tscodeclaw05.VarintCut', WHERE WHAT IT READS IS OF BULK AT MOST 1048576: true; the input reads as it did. -/
def varintCutUptoRow : OpenClaim := { program := "ytlgfiljadnafeaa", sum := "4733b76f381ac9eb0513f5c34740b0f669892b9919c43ec0d4ea8544a42ce118", func := "tscodec/tscodeclaw05.VarintCut", spec := "varintCut", unfollowed := true, recurses := true, apart := false, narrowed := true }
def VarintCutUptoSaid : Prop := varintCutUptoRow.holds Try.pinned (OpenSpec.upto varintCutSpec)

/-- 'tscodeclaw05.VarintBack', WHERE WHAT IT READS IS OF BULK AT MOST 1048576: true; the input reads as it did. -/
def varintBackUptoRow : OpenClaim := { program := "ytlgfiljadnafeaa", sum := "4733b76f381ac9eb0513f5c34740b0f669892b9919c43ec0d4ea8544a42ce118", func := "tscodec/tscodeclaw05.VarintBack", spec := "varintBack", unfollowed := true, recurses := true, apart := false, narrowed := true }
def VarintBackUptoSaid : Prop := varintBackUptoRow.holds Try.pinned (OpenSpec.upto varintBackSpec)

/-- 'tscodeclaw05.VarintForms', WHERE WHAT IT READS IS OF BULK AT MOST 1048576: true; the input reads as it did. -/
def varintFormsUptoRow : OpenClaim := { program := "ytlgfiljadnafeaa", sum := "4733b76f381ac9eb0513f5c34740b0f669892b9919c43ec0d4ea8544a42ce118", func := "tscodec/tscodeclaw05.VarintForms", spec := "varintForms", inPlace := ["math/bits.Sub64", "math/bits.Add64"], unfollowed := true, recurses := true, named := ["math/bits.divideError", "math/bits.overflowError"], apart := false, narrowed := true }
def VarintFormsUptoSaid : Prop := varintFormsUptoRow.holds Try.pinned (OpenSpec.upto varintFormsSpec)

/-- 'tscodeclaw05.VarintReads', WHERE WHAT IT READS IS OF BULK AT MOST 1048576: true; the input reads as it did. -/
def varintReadsUptoRow : OpenClaim := { program := "ytlgfiljadnafeaa", sum := "4733b76f381ac9eb0513f5c34740b0f669892b9919c43ec0d4ea8544a42ce118", func := "tscodec/tscodeclaw05.VarintReads", spec := "varintReads", inPlace := ["math/bits.Sub64", "math/bits.Add64"], unfollowed := true, recurses := true, named := ["math/bits.divideError", "math/bits.overflowError"], apart := false, narrowed := true }
def VarintReadsUptoSaid : Prop := varintReadsUptoRow.holds Try.pinned (OpenSpec.upto varintReadsSpec)

/-- 'tscodeclaw05.VarintCanonical', WHERE WHAT IT READS IS OF BULK AT MOST 1048576: true; the input reads as it did. -/
def varintCanonicalUptoRow : OpenClaim := { program := "ytlgfiljadnafeaa", sum := "4733b76f381ac9eb0513f5c34740b0f669892b9919c43ec0d4ea8544a42ce118", func := "tscodec/tscodeclaw05.VarintCanonical", spec := "varintCanonical", inPlace := ["math/bits.Sub64", "math/bits.Add64"], unfollowed := true, recurses := true, named := ["math/bits.divideError", "math/bits.overflowError"], apart := false, narrowed := true }
def VarintCanonicalUptoSaid : Prop := varintCanonicalUptoRow.holds Try.pinned (OpenSpec.upto varintCanonicalSpec)

end Rows
end Go.Proofs.Ytlgfiljadnafeaa
