/-
  No cell of these rows narrows 'for every input' (looked for: loops, veiled, ifaces, maps, wideKeys, modest, calm, conditions, laid).
  DERIVED. THE GIVEN ROWS OF THIS SEAT. 19 by the template 'for every input the law returns true; each argument reads behind the call as it read before'; 0 by the template 'total and deterministic' (their statements: YtfmjokmjaghehaaTotals.lean).
  GIVEN WITH THE SEED: the statements are not yours to turn. If you find one false, say at which input.
  Laid BY PROGRAM, IN A SANDBOX (cutbox-rows.mjs): the forced cells as the released guide's own fill.sh prints them over the translation f1ebe61d639fda5c… (all of the seat's roots in one cut). By AI agents, Wed Nov 11 2026. No macro, syntax, notation, axiom, sorry.
-/
import Derived.Test.YtfmjokmjaghehaaChecked
import GoSem.Claim
import GoSem.ClaimJoined
import GoSem.ClaimMapViews
import Derived.JoinedTies
import Derived.KernelRfl
namespace Go.Proofs.Ytfmjokmjaghehaa
/- THE CELL 'sum', in the pinned program and in every row, IS THE sha256 OF THE DUMP (.gsa) THAT YtfmjokmjaghehaaProg.lean LOADS. Nothing in Lean hashes anything: it is a label: what it is worth is what the hold of that sum in a sandbox is worth. -/
noncomputable def Try.pinned : Pinned := { name := "ytfmjokmjaghehaa", sum := "f1ebe61d639fda5c622c49f94f93acff9882be87f7248f00710e0f2acbae1e5d", checked := Try.checked }
namespace Rows
def none {H : Type} : Left H := { results := [], args := [] }

/-- 'tscodeclaw09.NumbersForms': WHATEVER THE INPUT: true; the input reads as it did. -/
def numbersFormsSpec : ChangeSpec := { name := "numbersForms", fn := fun _ => fun
  | [d1, d2] => { results := [.lit (.bool true)], args := [d1, d2] }
  | _ => none }
def numbersFormsRow : OpenClaim := { program := "ytfmjokmjaghehaa", sum := "f1ebe61d639fda5c622c49f94f93acff9882be87f7248f00710e0f2acbae1e5d", func := "tscodec/tscodeclaw09.NumbersForms", spec := "numbersForms", unfollowed := true, recurses := true, apart := false }
def NumbersFormsSaid : Prop := numbersFormsRow.holds Try.pinned (OpenSpec.ofChange numbersFormsSpec)

/-- ITS FALSE NEIGHBOUR: 'it returns false'. Refute it at one input. -/
def numbersFormsWrong : ChangeSpec := { name := "numbersForms", fn := fun _ => fun
  | [d1, d2] => { results := [.lit (.bool false)], args := [d1, d2] }
  | _ => none }
def NumbersFormsWrongFalsely : Prop := numbersFormsRow.holds Try.pinned (OpenSpec.ofChange numbersFormsWrong)

/-- 'tscodeclaw09.NumbersReads': WHATEVER THE INPUT: true; the input reads as it did. -/
def numbersReadsSpec : ChangeSpec := { name := "numbersReads", fn := fun _ => fun
  | [d1, d2, d3, d4] => { results := [.lit (.bool true)], args := [d1, d2, d3, d4] }
  | _ => none }
def numbersReadsRow : OpenClaim := { program := "ytfmjokmjaghehaa", sum := "f1ebe61d639fda5c622c49f94f93acff9882be87f7248f00710e0f2acbae1e5d", func := "tscodec/tscodeclaw09.NumbersReads", spec := "numbersReads", unfollowed := true, recurses := true, apart := false }
def NumbersReadsSaid : Prop := numbersReadsRow.holds Try.pinned (OpenSpec.ofChange numbersReadsSpec)

/-- ITS FALSE NEIGHBOUR: 'it returns false'. Refute it at one input. -/
def numbersReadsWrong : ChangeSpec := { name := "numbersReads", fn := fun _ => fun
  | [d1, d2, d3, d4] => { results := [.lit (.bool false)], args := [d1, d2, d3, d4] }
  | _ => none }
def NumbersReadsWrongFalsely : Prop := numbersReadsRow.holds Try.pinned (OpenSpec.ofChange numbersReadsWrong)

/-- 'tscodeclaw09.NumbersBack': WHATEVER THE INPUT: true; the input reads as it did. -/
def numbersBackSpec : ChangeSpec := { name := "numbersBack", fn := fun _ => fun
  | [d1, d2, d3] => { results := [.lit (.bool true)], args := [d1, d2, d3] }
  | _ => none }
def numbersBackRow : OpenClaim := { program := "ytfmjokmjaghehaa", sum := "f1ebe61d639fda5c622c49f94f93acff9882be87f7248f00710e0f2acbae1e5d", func := "tscodec/tscodeclaw09.NumbersBack", spec := "numbersBack", unfollowed := true, recurses := true, apart := false }
def NumbersBackSaid : Prop := numbersBackRow.holds Try.pinned (OpenSpec.ofChange numbersBackSpec)

/-- ITS FALSE NEIGHBOUR: 'it returns false'. Refute it at one input. -/
def numbersBackWrong : ChangeSpec := { name := "numbersBack", fn := fun _ => fun
  | [d1, d2, d3] => { results := [.lit (.bool false)], args := [d1, d2, d3] }
  | _ => none }
def NumbersBackWrongFalsely : Prop := numbersBackRow.holds Try.pinned (OpenSpec.ofChange numbersBackWrong)

/-- 'tscodeclaw09.NumbersCanonical': WHATEVER THE INPUT: true; the input reads as it did. -/
def numbersCanonicalSpec : ChangeSpec := { name := "numbersCanonical", fn := fun _ => fun
  | [d1, d2, d3] => { results := [.lit (.bool true)], args := [d1, d2, d3] }
  | _ => none }
def numbersCanonicalRow : OpenClaim := { program := "ytfmjokmjaghehaa", sum := "f1ebe61d639fda5c622c49f94f93acff9882be87f7248f00710e0f2acbae1e5d", func := "tscodec/tscodeclaw09.NumbersCanonical", spec := "numbersCanonical", unfollowed := true, recurses := true, apart := false }
def NumbersCanonicalSaid : Prop := numbersCanonicalRow.holds Try.pinned (OpenSpec.ofChange numbersCanonicalSpec)

/-- ITS FALSE NEIGHBOUR: 'it returns false'. Refute it at one input. -/
def numbersCanonicalWrong : ChangeSpec := { name := "numbersCanonical", fn := fun _ => fun
  | [d1, d2, d3] => { results := [.lit (.bool false)], args := [d1, d2, d3] }
  | _ => none }
def NumbersCanonicalWrongFalsely : Prop := numbersCanonicalRow.holds Try.pinned (OpenSpec.ofChange numbersCanonicalWrong)

/-- 'tscodeclaw09.NumbersShort': WHATEVER THE INPUT: true; the input reads as it did. -/
def numbersShortSpec : ChangeSpec := { name := "numbersShort", fn := fun _ => fun
  | [d] => { results := [.lit (.bool true)], args := [d] }
  | _ => none }
def numbersShortRow : OpenClaim := { program := "ytfmjokmjaghehaa", sum := "f1ebe61d639fda5c622c49f94f93acff9882be87f7248f00710e0f2acbae1e5d", func := "tscodec/tscodeclaw09.NumbersShort", spec := "numbersShort", unfollowed := true, recurses := true, apart := false }
def NumbersShortSaid : Prop := numbersShortRow.holds Try.pinned (OpenSpec.ofChange numbersShortSpec)

/-- ITS FALSE NEIGHBOUR: 'it returns false'. Refute it at one input. -/
def numbersShortWrong : ChangeSpec := { name := "numbersShort", fn := fun _ => fun
  | [d] => { results := [.lit (.bool false)], args := [d] }
  | _ => none }
def NumbersShortWrongFalsely : Prop := numbersShortRow.holds Try.pinned (OpenSpec.ofChange numbersShortWrong)

/-- 'tscodeclaw10.StampsForms': WHATEVER THE INPUT: true; the input reads as it did. -/
def stampsFormsSpec : ChangeSpec := { name := "stampsForms", fn := fun _ => fun
  | [d1, d2] => { results := [.lit (.bool true)], args := [d1, d2] }
  | _ => none }
def stampsFormsRow : OpenClaim := { program := "ytfmjokmjaghehaa", sum := "f1ebe61d639fda5c622c49f94f93acff9882be87f7248f00710e0f2acbae1e5d", func := "tscodec/tscodeclaw10.StampsForms", spec := "stampsForms", unfollowed := true, recurses := true, apart := false }
def StampsFormsSaid : Prop := stampsFormsRow.holds Try.pinned (OpenSpec.ofChange stampsFormsSpec)

/-- ITS FALSE NEIGHBOUR: 'it returns false'. Refute it at one input. -/
def stampsFormsWrong : ChangeSpec := { name := "stampsForms", fn := fun _ => fun
  | [d1, d2] => { results := [.lit (.bool false)], args := [d1, d2] }
  | _ => none }
def StampsFormsWrongFalsely : Prop := stampsFormsRow.holds Try.pinned (OpenSpec.ofChange stampsFormsWrong)

/-- 'tscodeclaw10.StampsReads': WHATEVER THE INPUT: true; the input reads as it did. -/
def stampsReadsSpec : ChangeSpec := { name := "stampsReads", fn := fun _ => fun
  | [d1, d2, d3, d4, d5] => { results := [.lit (.bool true)], args := [d1, d2, d3, d4, d5] }
  | _ => none }
def stampsReadsRow : OpenClaim := { program := "ytfmjokmjaghehaa", sum := "f1ebe61d639fda5c622c49f94f93acff9882be87f7248f00710e0f2acbae1e5d", func := "tscodec/tscodeclaw10.StampsReads", spec := "stampsReads", unfollowed := true, recurses := true, apart := false }
def StampsReadsSaid : Prop := stampsReadsRow.holds Try.pinned (OpenSpec.ofChange stampsReadsSpec)

/-- ITS FALSE NEIGHBOUR: 'it returns false'. Refute it at one input. -/
def stampsReadsWrong : ChangeSpec := { name := "stampsReads", fn := fun _ => fun
  | [d1, d2, d3, d4, d5] => { results := [.lit (.bool false)], args := [d1, d2, d3, d4, d5] }
  | _ => none }
def StampsReadsWrongFalsely : Prop := stampsReadsRow.holds Try.pinned (OpenSpec.ofChange stampsReadsWrong)

/-- 'tscodeclaw10.StampsBack': WHATEVER THE INPUT: true; the input reads as it did. -/
def stampsBackSpec : ChangeSpec := { name := "stampsBack", fn := fun _ => fun
  | [d1, d2, d3] => { results := [.lit (.bool true)], args := [d1, d2, d3] }
  | _ => none }
def stampsBackRow : OpenClaim := { program := "ytfmjokmjaghehaa", sum := "f1ebe61d639fda5c622c49f94f93acff9882be87f7248f00710e0f2acbae1e5d", func := "tscodec/tscodeclaw10.StampsBack", spec := "stampsBack", unfollowed := true, recurses := true, apart := false }
def StampsBackSaid : Prop := stampsBackRow.holds Try.pinned (OpenSpec.ofChange stampsBackSpec)

/-- ITS FALSE NEIGHBOUR: 'it returns false'. Refute it at one input. -/
def stampsBackWrong : ChangeSpec := { name := "stampsBack", fn := fun _ => fun
  | [d1, d2, d3] => { results := [.lit (.bool false)], args := [d1, d2, d3] }
  | _ => none }
def StampsBackWrongFalsely : Prop := stampsBackRow.holds Try.pinned (OpenSpec.ofChange stampsBackWrong)

/-- 'tscodeclaw10.StampsCanonical': WHATEVER THE INPUT: true; the input reads as it did. -/
def stampsCanonicalSpec : ChangeSpec := { name := "stampsCanonical", fn := fun _ => fun
  | [d1, d2, d3, d4] => { results := [.lit (.bool true)], args := [d1, d2, d3, d4] }
  | _ => none }
def stampsCanonicalRow : OpenClaim := { program := "ytfmjokmjaghehaa", sum := "f1ebe61d639fda5c622c49f94f93acff9882be87f7248f00710e0f2acbae1e5d", func := "tscodec/tscodeclaw10.StampsCanonical", spec := "stampsCanonical", unfollowed := true, recurses := true, apart := false }
def StampsCanonicalSaid : Prop := stampsCanonicalRow.holds Try.pinned (OpenSpec.ofChange stampsCanonicalSpec)

/-- ITS FALSE NEIGHBOUR: 'it returns false'. Refute it at one input. -/
def stampsCanonicalWrong : ChangeSpec := { name := "stampsCanonical", fn := fun _ => fun
  | [d1, d2, d3, d4] => { results := [.lit (.bool false)], args := [d1, d2, d3, d4] }
  | _ => none }
def StampsCanonicalWrongFalsely : Prop := stampsCanonicalRow.holds Try.pinned (OpenSpec.ofChange stampsCanonicalWrong)

/-- 'tscodeclaw10.StampsRegular': WHATEVER THE INPUT: true; the input reads as it did. -/
def stampsRegularSpec : ChangeSpec := { name := "stampsRegular", fn := fun _ => fun
  | [d1, d2, d3] => { results := [.lit (.bool true)], args := [d1, d2, d3] }
  | _ => none }
def stampsRegularRow : OpenClaim := { program := "ytfmjokmjaghehaa", sum := "f1ebe61d639fda5c622c49f94f93acff9882be87f7248f00710e0f2acbae1e5d", func := "tscodec/tscodeclaw10.StampsRegular", spec := "stampsRegular", unfollowed := true, recurses := true, apart := false }
def StampsRegularSaid : Prop := stampsRegularRow.holds Try.pinned (OpenSpec.ofChange stampsRegularSpec)

/-- ITS FALSE NEIGHBOUR: 'it returns false'. Refute it at one input. -/
def stampsRegularWrong : ChangeSpec := { name := "stampsRegular", fn := fun _ => fun
  | [d1, d2, d3] => { results := [.lit (.bool false)], args := [d1, d2, d3] }
  | _ => none }
def StampsRegularWrongFalsely : Prop := stampsRegularRow.holds Try.pinned (OpenSpec.ofChange stampsRegularWrong)

/-- 'tscodeclaw11.ResidualForms': WHATEVER THE INPUT: true; the input reads as it did. -/
def residualFormsSpec : ChangeSpec := { name := "residualForms", fn := fun _ => fun
  | [d1, d2, d3] => { results := [.lit (.bool true)], args := [d1, d2, d3] }
  | _ => none }
def residualFormsRow : OpenClaim := { program := "ytfmjokmjaghehaa", sum := "f1ebe61d639fda5c622c49f94f93acff9882be87f7248f00710e0f2acbae1e5d", func := "tscodec/tscodeclaw11.ResidualForms", spec := "residualForms", unfollowed := true, recurses := true, apart := false }
def ResidualFormsSaid : Prop := residualFormsRow.holds Try.pinned (OpenSpec.ofChange residualFormsSpec)

/-- ITS FALSE NEIGHBOUR: 'it returns false'. Refute it at one input. -/
def residualFormsWrong : ChangeSpec := { name := "residualForms", fn := fun _ => fun
  | [d1, d2, d3] => { results := [.lit (.bool false)], args := [d1, d2, d3] }
  | _ => none }
def ResidualFormsWrongFalsely : Prop := residualFormsRow.holds Try.pinned (OpenSpec.ofChange residualFormsWrong)

/-- 'tscodeclaw11.ResidualReads': WHATEVER THE INPUT: true; the input reads as it did. -/
def residualReadsSpec : ChangeSpec := { name := "residualReads", fn := fun _ => fun
  | [d1, d2, d3, d4] => { results := [.lit (.bool true)], args := [d1, d2, d3, d4] }
  | _ => none }
def residualReadsRow : OpenClaim := { program := "ytfmjokmjaghehaa", sum := "f1ebe61d639fda5c622c49f94f93acff9882be87f7248f00710e0f2acbae1e5d", func := "tscodec/tscodeclaw11.ResidualReads", spec := "residualReads", unfollowed := true, recurses := true, apart := false }
def ResidualReadsSaid : Prop := residualReadsRow.holds Try.pinned (OpenSpec.ofChange residualReadsSpec)

/-- ITS FALSE NEIGHBOUR: 'it returns false'. Refute it at one input. -/
def residualReadsWrong : ChangeSpec := { name := "residualReads", fn := fun _ => fun
  | [d1, d2, d3, d4] => { results := [.lit (.bool false)], args := [d1, d2, d3, d4] }
  | _ => none }
def ResidualReadsWrongFalsely : Prop := residualReadsRow.holds Try.pinned (OpenSpec.ofChange residualReadsWrong)

/-- 'tscodeclaw11.ResidualBack': WHATEVER THE INPUT: true; the input reads as it did. -/
def residualBackSpec : ChangeSpec := { name := "residualBack", fn := fun _ => fun
  | [d1, d2, d3, d4] => { results := [.lit (.bool true)], args := [d1, d2, d3, d4] }
  | _ => none }
def residualBackRow : OpenClaim := { program := "ytfmjokmjaghehaa", sum := "f1ebe61d639fda5c622c49f94f93acff9882be87f7248f00710e0f2acbae1e5d", func := "tscodec/tscodeclaw11.ResidualBack", spec := "residualBack", unfollowed := true, recurses := true, apart := false }
def ResidualBackSaid : Prop := residualBackRow.holds Try.pinned (OpenSpec.ofChange residualBackSpec)

/-- ITS FALSE NEIGHBOUR: 'it returns false'. Refute it at one input. -/
def residualBackWrong : ChangeSpec := { name := "residualBack", fn := fun _ => fun
  | [d1, d2, d3, d4] => { results := [.lit (.bool false)], args := [d1, d2, d3, d4] }
  | _ => none }
def ResidualBackWrongFalsely : Prop := residualBackRow.holds Try.pinned (OpenSpec.ofChange residualBackWrong)

/-- 'tscodeclaw11.ResidualCanonical': WHATEVER THE INPUT: true; the input reads as it did. -/
def residualCanonicalSpec : ChangeSpec := { name := "residualCanonical", fn := fun _ => fun
  | [d1, d2, d3] => { results := [.lit (.bool true)], args := [d1, d2, d3] }
  | _ => none }
def residualCanonicalRow : OpenClaim := { program := "ytfmjokmjaghehaa", sum := "f1ebe61d639fda5c622c49f94f93acff9882be87f7248f00710e0f2acbae1e5d", func := "tscodec/tscodeclaw11.ResidualCanonical", spec := "residualCanonical", unfollowed := true, recurses := true, apart := false }
def ResidualCanonicalSaid : Prop := residualCanonicalRow.holds Try.pinned (OpenSpec.ofChange residualCanonicalSpec)

/-- ITS FALSE NEIGHBOUR: 'it returns false'. Refute it at one input. -/
def residualCanonicalWrong : ChangeSpec := { name := "residualCanonical", fn := fun _ => fun
  | [d1, d2, d3] => { results := [.lit (.bool false)], args := [d1, d2, d3] }
  | _ => none }
def ResidualCanonicalWrongFalsely : Prop := residualCanonicalRow.holds Try.pinned (OpenSpec.ofChange residualCanonicalWrong)

/-- 'tscodeclaw11.ResidualShortest': WHATEVER THE INPUT: true; the input reads as it did. -/
def residualShortestSpec : ChangeSpec := { name := "residualShortest", fn := fun _ => fun
  | [d1, d2, d3, d4] => { results := [.lit (.bool true)], args := [d1, d2, d3, d4] }
  | _ => none }
def residualShortestRow : OpenClaim := { program := "ytfmjokmjaghehaa", sum := "f1ebe61d639fda5c622c49f94f93acff9882be87f7248f00710e0f2acbae1e5d", func := "tscodec/tscodeclaw11.ResidualShortest", spec := "residualShortest", unfollowed := true, recurses := true, apart := false }
def ResidualShortestSaid : Prop := residualShortestRow.holds Try.pinned (OpenSpec.ofChange residualShortestSpec)

/-- ITS FALSE NEIGHBOUR: 'it returns false'. Refute it at one input. -/
def residualShortestWrong : ChangeSpec := { name := "residualShortest", fn := fun _ => fun
  | [d1, d2, d3, d4] => { results := [.lit (.bool false)], args := [d1, d2, d3, d4] }
  | _ => none }
def ResidualShortestWrongFalsely : Prop := residualShortestRow.holds Try.pinned (OpenSpec.ofChange residualShortestWrong)

/-- 'tscodeclaw17.ConstantsForms': WHATEVER THE INPUT: true; the input reads as it did. -/
def constantsFormsSpec : ChangeSpec := { name := "constantsForms", fn := fun _ => fun
  | [d1, d2, d3] => { results := [.lit (.bool true)], args := [d1, d2, d3] }
  | _ => none }
def constantsFormsRow : OpenClaim := { program := "ytfmjokmjaghehaa", sum := "f1ebe61d639fda5c622c49f94f93acff9882be87f7248f00710e0f2acbae1e5d", func := "tscodec/tscodeclaw17.ConstantsForms", spec := "constantsForms", unfollowed := true, recurses := true, apart := false }
def ConstantsFormsSaid : Prop := constantsFormsRow.holds Try.pinned (OpenSpec.ofChange constantsFormsSpec)

/-- ITS FALSE NEIGHBOUR: 'it returns false'. Refute it at one input. -/
def constantsFormsWrong : ChangeSpec := { name := "constantsForms", fn := fun _ => fun
  | [d1, d2, d3] => { results := [.lit (.bool false)], args := [d1, d2, d3] }
  | _ => none }
def ConstantsFormsWrongFalsely : Prop := constantsFormsRow.holds Try.pinned (OpenSpec.ofChange constantsFormsWrong)

/-- 'tscodeclaw17.ConstantsReads': WHATEVER THE INPUT: true; the input reads as it did. -/
def constantsReadsSpec : ChangeSpec := { name := "constantsReads", fn := fun _ => fun
  | [d1, d2, d3, d4] => { results := [.lit (.bool true)], args := [d1, d2, d3, d4] }
  | _ => none }
def constantsReadsRow : OpenClaim := { program := "ytfmjokmjaghehaa", sum := "f1ebe61d639fda5c622c49f94f93acff9882be87f7248f00710e0f2acbae1e5d", func := "tscodec/tscodeclaw17.ConstantsReads", spec := "constantsReads", unfollowed := true, recurses := true, apart := false }
def ConstantsReadsSaid : Prop := constantsReadsRow.holds Try.pinned (OpenSpec.ofChange constantsReadsSpec)

/-- ITS FALSE NEIGHBOUR: 'it returns false'. Refute it at one input. -/
def constantsReadsWrong : ChangeSpec := { name := "constantsReads", fn := fun _ => fun
  | [d1, d2, d3, d4] => { results := [.lit (.bool false)], args := [d1, d2, d3, d4] }
  | _ => none }
def ConstantsReadsWrongFalsely : Prop := constantsReadsRow.holds Try.pinned (OpenSpec.ofChange constantsReadsWrong)

/-- 'tscodeclaw17.ConstantsBack': WHATEVER THE INPUT: true; the input reads as it did. -/
def constantsBackSpec : ChangeSpec := { name := "constantsBack", fn := fun _ => fun
  | [d1, d2, d3] => { results := [.lit (.bool true)], args := [d1, d2, d3] }
  | _ => none }
def constantsBackRow : OpenClaim := { program := "ytfmjokmjaghehaa", sum := "f1ebe61d639fda5c622c49f94f93acff9882be87f7248f00710e0f2acbae1e5d", func := "tscodec/tscodeclaw17.ConstantsBack", spec := "constantsBack", unfollowed := true, recurses := true, apart := false }
def ConstantsBackSaid : Prop := constantsBackRow.holds Try.pinned (OpenSpec.ofChange constantsBackSpec)

/-- ITS FALSE NEIGHBOUR: 'it returns false'. Refute it at one input. -/
def constantsBackWrong : ChangeSpec := { name := "constantsBack", fn := fun _ => fun
  | [d1, d2, d3] => { results := [.lit (.bool false)], args := [d1, d2, d3] }
  | _ => none }
def ConstantsBackWrongFalsely : Prop := constantsBackRow.holds Try.pinned (OpenSpec.ofChange constantsBackWrong)

/-- 'tscodeclaw17.ConstantsCanonical': WHATEVER THE INPUT: true; the input reads as it did. -/
def constantsCanonicalSpec : ChangeSpec := { name := "constantsCanonical", fn := fun _ => fun
  | [d1, d2, d3] => { results := [.lit (.bool true)], args := [d1, d2, d3] }
  | _ => none }
def constantsCanonicalRow : OpenClaim := { program := "ytfmjokmjaghehaa", sum := "f1ebe61d639fda5c622c49f94f93acff9882be87f7248f00710e0f2acbae1e5d", func := "tscodec/tscodeclaw17.ConstantsCanonical", spec := "constantsCanonical", unfollowed := true, recurses := true, apart := false }
def ConstantsCanonicalSaid : Prop := constantsCanonicalRow.holds Try.pinned (OpenSpec.ofChange constantsCanonicalSpec)

/-- ITS FALSE NEIGHBOUR: 'it returns false'. Refute it at one input. -/
def constantsCanonicalWrong : ChangeSpec := { name := "constantsCanonical", fn := fun _ => fun
  | [d1, d2, d3] => { results := [.lit (.bool false)], args := [d1, d2, d3] }
  | _ => none }
def ConstantsCanonicalWrongFalsely : Prop := constantsCanonicalRow.holds Try.pinned (OpenSpec.ofChange constantsCanonicalWrong)

/- THE SECOND FORM. 'bulk': how many values and letters a reading holds, each counted each time it is reached (what is shared counts as often as it is met; a slice's spare places count too). A statement '..UptoSaid' is the law's where the arguments, and the package variables that the reading takes, are together of bulk at most 1048576: NARROWER than '..Said'. Prove '..Said' where nothing that the law and all that it calls make is longer than what came in: it says more and counts as full. Else prove '..UptoSaid'. A law counts once. -/
mutual
def uptoBulk {H : Type} : DataW H → Nat
  | .lit (.string bytes) => bytes.length + 1
  | .lit _ => 1
  | .nil => 1
  | .ptr d => uptoBulk d + 1
  | .slice elems spare => uptoBulkAll elems + uptoBulkAll spare + 1
  | .agg parts => uptoBulkAll parts + 1
  | .iface _ d => uptoBulk d + 1
  | .map entries => uptoBulkEntries entries + 1
  | .held _ => 1
def uptoBulkAll {H : Type} : List (DataW H) → Nat
  | [] => 0
  | d :: r => uptoBulk d + uptoBulkAll r
def uptoBulkEntries {H : Type} : List (Lit × DataW H) → Nat
  | [] => 0
  | x :: r => uptoBulkEntry x + uptoBulkEntries r
def uptoBulkEntry {H : Type} : Lit × DataW H → Nat
  | (.string bytes, d) => bytes.length + uptoBulk d + 1
  | (_, d) => uptoBulk d + 1
 end
def uptoSmall : (H : Type) → List (DataW H) → Bool := fun _ ds => decide (uptoBulkAll ds ≤ 1048576)
def OpenSpec.upto (s : _root_.Go.ChangeSpec) : _root_.Go.OpenSpec := { _root_.Go.OpenSpec.ofChange s with cond := some uptoSmall }

/-- 'tscodeclaw09.NumbersForms', WHERE WHAT IT READS IS OF BULK AT MOST 1048576: true; the input reads as it did. -/
def numbersFormsUptoRow : OpenClaim := { program := "ytfmjokmjaghehaa", sum := "f1ebe61d639fda5c622c49f94f93acff9882be87f7248f00710e0f2acbae1e5d", func := "tscodec/tscodeclaw09.NumbersForms", spec := "numbersForms", unfollowed := true, recurses := true, apart := false, narrowed := true }
def NumbersFormsUptoSaid : Prop := numbersFormsUptoRow.holds Try.pinned (OpenSpec.upto numbersFormsSpec)

/-- 'tscodeclaw09.NumbersReads', WHERE WHAT IT READS IS OF BULK AT MOST 1048576: true; the input reads as it did. -/
def numbersReadsUptoRow : OpenClaim := { program := "ytfmjokmjaghehaa", sum := "f1ebe61d639fda5c622c49f94f93acff9882be87f7248f00710e0f2acbae1e5d", func := "tscodec/tscodeclaw09.NumbersReads", spec := "numbersReads", unfollowed := true, recurses := true, apart := false, narrowed := true }
def NumbersReadsUptoSaid : Prop := numbersReadsUptoRow.holds Try.pinned (OpenSpec.upto numbersReadsSpec)

/-- 'tscodeclaw09.NumbersBack', WHERE WHAT IT READS IS OF BULK AT MOST 1048576: true; the input reads as it did. -/
def numbersBackUptoRow : OpenClaim := { program := "ytfmjokmjaghehaa", sum := "f1ebe61d639fda5c622c49f94f93acff9882be87f7248f00710e0f2acbae1e5d", func := "tscodec/tscodeclaw09.NumbersBack", spec := "numbersBack", unfollowed := true, recurses := true, apart := false, narrowed := true }
def NumbersBackUptoSaid : Prop := numbersBackUptoRow.holds Try.pinned (OpenSpec.upto numbersBackSpec)

/-- 'tscodeclaw09.NumbersCanonical', WHERE WHAT IT READS IS OF BULK AT MOST 1048576: true; the input reads as it did. -/
def numbersCanonicalUptoRow : OpenClaim := { program := "ytfmjokmjaghehaa", sum := "f1ebe61d639fda5c622c49f94f93acff9882be87f7248f00710e0f2acbae1e5d", func := "tscodec/tscodeclaw09.NumbersCanonical", spec := "numbersCanonical", unfollowed := true, recurses := true, apart := false, narrowed := true }
def NumbersCanonicalUptoSaid : Prop := numbersCanonicalUptoRow.holds Try.pinned (OpenSpec.upto numbersCanonicalSpec)

/-- 'tscodeclaw09.NumbersShort', WHERE WHAT IT READS IS OF BULK AT MOST 1048576: true; the input reads as it did. -/
def numbersShortUptoRow : OpenClaim := { program := "ytfmjokmjaghehaa", sum := "f1ebe61d639fda5c622c49f94f93acff9882be87f7248f00710e0f2acbae1e5d", func := "tscodec/tscodeclaw09.NumbersShort", spec := "numbersShort", unfollowed := true, recurses := true, apart := false, narrowed := true }
def NumbersShortUptoSaid : Prop := numbersShortUptoRow.holds Try.pinned (OpenSpec.upto numbersShortSpec)

/-- 'tscodeclaw10.StampsForms', WHERE WHAT IT READS IS OF BULK AT MOST 1048576: true; the input reads as it did. -/
def stampsFormsUptoRow : OpenClaim := { program := "ytfmjokmjaghehaa", sum := "f1ebe61d639fda5c622c49f94f93acff9882be87f7248f00710e0f2acbae1e5d", func := "tscodec/tscodeclaw10.StampsForms", spec := "stampsForms", unfollowed := true, recurses := true, apart := false, narrowed := true }
def StampsFormsUptoSaid : Prop := stampsFormsUptoRow.holds Try.pinned (OpenSpec.upto stampsFormsSpec)

/-- 'tscodeclaw10.StampsReads', WHERE WHAT IT READS IS OF BULK AT MOST 1048576: true; the input reads as it did. -/
def stampsReadsUptoRow : OpenClaim := { program := "ytfmjokmjaghehaa", sum := "f1ebe61d639fda5c622c49f94f93acff9882be87f7248f00710e0f2acbae1e5d", func := "tscodec/tscodeclaw10.StampsReads", spec := "stampsReads", unfollowed := true, recurses := true, apart := false, narrowed := true }
def StampsReadsUptoSaid : Prop := stampsReadsUptoRow.holds Try.pinned (OpenSpec.upto stampsReadsSpec)

/-- 'tscodeclaw10.StampsBack', WHERE WHAT IT READS IS OF BULK AT MOST 1048576: true; the input reads as it did. -/
def stampsBackUptoRow : OpenClaim := { program := "ytfmjokmjaghehaa", sum := "f1ebe61d639fda5c622c49f94f93acff9882be87f7248f00710e0f2acbae1e5d", func := "tscodec/tscodeclaw10.StampsBack", spec := "stampsBack", unfollowed := true, recurses := true, apart := false, narrowed := true }
def StampsBackUptoSaid : Prop := stampsBackUptoRow.holds Try.pinned (OpenSpec.upto stampsBackSpec)

/-- 'tscodeclaw10.StampsCanonical', WHERE WHAT IT READS IS OF BULK AT MOST 1048576: true; the input reads as it did. -/
def stampsCanonicalUptoRow : OpenClaim := { program := "ytfmjokmjaghehaa", sum := "f1ebe61d639fda5c622c49f94f93acff9882be87f7248f00710e0f2acbae1e5d", func := "tscodec/tscodeclaw10.StampsCanonical", spec := "stampsCanonical", unfollowed := true, recurses := true, apart := false, narrowed := true }
def StampsCanonicalUptoSaid : Prop := stampsCanonicalUptoRow.holds Try.pinned (OpenSpec.upto stampsCanonicalSpec)

/-- 'tscodeclaw10.StampsRegular', WHERE WHAT IT READS IS OF BULK AT MOST 1048576: true; the input reads as it did. -/
def stampsRegularUptoRow : OpenClaim := { program := "ytfmjokmjaghehaa", sum := "f1ebe61d639fda5c622c49f94f93acff9882be87f7248f00710e0f2acbae1e5d", func := "tscodec/tscodeclaw10.StampsRegular", spec := "stampsRegular", unfollowed := true, recurses := true, apart := false, narrowed := true }
def StampsRegularUptoSaid : Prop := stampsRegularUptoRow.holds Try.pinned (OpenSpec.upto stampsRegularSpec)

/-- 'tscodeclaw11.ResidualForms', WHERE WHAT IT READS IS OF BULK AT MOST 1048576: true; the input reads as it did. -/
def residualFormsUptoRow : OpenClaim := { program := "ytfmjokmjaghehaa", sum := "f1ebe61d639fda5c622c49f94f93acff9882be87f7248f00710e0f2acbae1e5d", func := "tscodec/tscodeclaw11.ResidualForms", spec := "residualForms", unfollowed := true, recurses := true, apart := false, narrowed := true }
def ResidualFormsUptoSaid : Prop := residualFormsUptoRow.holds Try.pinned (OpenSpec.upto residualFormsSpec)

/-- 'tscodeclaw11.ResidualReads', WHERE WHAT IT READS IS OF BULK AT MOST 1048576: true; the input reads as it did. -/
def residualReadsUptoRow : OpenClaim := { program := "ytfmjokmjaghehaa", sum := "f1ebe61d639fda5c622c49f94f93acff9882be87f7248f00710e0f2acbae1e5d", func := "tscodec/tscodeclaw11.ResidualReads", spec := "residualReads", unfollowed := true, recurses := true, apart := false, narrowed := true }
def ResidualReadsUptoSaid : Prop := residualReadsUptoRow.holds Try.pinned (OpenSpec.upto residualReadsSpec)

/-- 'tscodeclaw11.ResidualBack', WHERE WHAT IT READS IS OF BULK AT MOST 1048576: true; the input reads as it did. -/
def residualBackUptoRow : OpenClaim := { program := "ytfmjokmjaghehaa", sum := "f1ebe61d639fda5c622c49f94f93acff9882be87f7248f00710e0f2acbae1e5d", func := "tscodec/tscodeclaw11.ResidualBack", spec := "residualBack", unfollowed := true, recurses := true, apart := false, narrowed := true }
def ResidualBackUptoSaid : Prop := residualBackUptoRow.holds Try.pinned (OpenSpec.upto residualBackSpec)

/-- 'tscodeclaw11.ResidualCanonical', WHERE WHAT IT READS IS OF BULK AT MOST 1048576: true; the input reads as it did. -/
def residualCanonicalUptoRow : OpenClaim := { program := "ytfmjokmjaghehaa", sum := "f1ebe61d639fda5c622c49f94f93acff9882be87f7248f00710e0f2acbae1e5d", func := "tscodec/tscodeclaw11.ResidualCanonical", spec := "residualCanonical", unfollowed := true, recurses := true, apart := false, narrowed := true }
def ResidualCanonicalUptoSaid : Prop := residualCanonicalUptoRow.holds Try.pinned (OpenSpec.upto residualCanonicalSpec)

/-- 'tscodeclaw11.ResidualShortest', WHERE WHAT IT READS IS OF BULK AT MOST 1048576: true; the input reads as it did. -/
def residualShortestUptoRow : OpenClaim := { program := "ytfmjokmjaghehaa", sum := "f1ebe61d639fda5c622c49f94f93acff9882be87f7248f00710e0f2acbae1e5d", func := "tscodec/tscodeclaw11.ResidualShortest", spec := "residualShortest", unfollowed := true, recurses := true, apart := false, narrowed := true }
def ResidualShortestUptoSaid : Prop := residualShortestUptoRow.holds Try.pinned (OpenSpec.upto residualShortestSpec)

/-- 'tscodeclaw17.ConstantsForms', WHERE WHAT IT READS IS OF BULK AT MOST 1048576: true; the input reads as it did. -/
def constantsFormsUptoRow : OpenClaim := { program := "ytfmjokmjaghehaa", sum := "f1ebe61d639fda5c622c49f94f93acff9882be87f7248f00710e0f2acbae1e5d", func := "tscodec/tscodeclaw17.ConstantsForms", spec := "constantsForms", unfollowed := true, recurses := true, apart := false, narrowed := true }
def ConstantsFormsUptoSaid : Prop := constantsFormsUptoRow.holds Try.pinned (OpenSpec.upto constantsFormsSpec)

/-- 'tscodeclaw17.ConstantsReads', WHERE WHAT IT READS IS OF BULK AT MOST 1048576: true; the input reads as it did. -/
def constantsReadsUptoRow : OpenClaim := { program := "ytfmjokmjaghehaa", sum := "f1ebe61d639fda5c622c49f94f93acff9882be87f7248f00710e0f2acbae1e5d", func := "tscodec/tscodeclaw17.ConstantsReads", spec := "constantsReads", unfollowed := true, recurses := true, apart := false, narrowed := true }
def ConstantsReadsUptoSaid : Prop := constantsReadsUptoRow.holds Try.pinned (OpenSpec.upto constantsReadsSpec)

/-- 'tscodeclaw17.ConstantsBack', WHERE WHAT IT READS IS OF BULK AT MOST 1048576: true; the input reads as it did. -/
def constantsBackUptoRow : OpenClaim := { program := "ytfmjokmjaghehaa", sum := "f1ebe61d639fda5c622c49f94f93acff9882be87f7248f00710e0f2acbae1e5d", func := "tscodec/tscodeclaw17.ConstantsBack", spec := "constantsBack", unfollowed := true, recurses := true, apart := false, narrowed := true }
def ConstantsBackUptoSaid : Prop := constantsBackUptoRow.holds Try.pinned (OpenSpec.upto constantsBackSpec)

/-- 'tscodeclaw17.ConstantsCanonical', WHERE WHAT IT READS IS OF BULK AT MOST 1048576: true; the input reads as it did. -/
def constantsCanonicalUptoRow : OpenClaim := { program := "ytfmjokmjaghehaa", sum := "f1ebe61d639fda5c622c49f94f93acff9882be87f7248f00710e0f2acbae1e5d", func := "tscodec/tscodeclaw17.ConstantsCanonical", spec := "constantsCanonical", unfollowed := true, recurses := true, apart := false, narrowed := true }
def ConstantsCanonicalUptoSaid : Prop := constantsCanonicalUptoRow.holds Try.pinned (OpenSpec.upto constantsCanonicalSpec)

end Rows
end Go.Proofs.Ytfmjokmjaghehaa
