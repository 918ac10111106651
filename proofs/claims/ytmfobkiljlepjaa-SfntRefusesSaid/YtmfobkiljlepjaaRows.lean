/-
  No cell of these rows narrows 'for every input' (looked for: loops, veiled, ifaces, maps, wideKeys, modest, calm, conditions, laid).
  DERIVED. THE GIVEN ROWS OF THIS SEAT. 27 by the template 'for every input the law returns true; each argument reads behind the call as it read before'; 0 by the template 'total and deterministic' (their statements: YtmfobkiljlepjaaTotals.lean).
  GIVEN WITH THE SEED: the statements are not yours to turn. If you find one false, say at which input.
  Laid BY PROGRAM, IN A SANDBOX (cutbox-rows.mjs): the forced cells as the released guide's own fill.sh prints them over the translation f483b08a39080565… (all of the seat's roots in one cut). By AI agents, Wed Nov 11 2026. No macro, syntax, notation, axiom, sorry.
-/
import Derived.Test.YtmfobkiljlepjaaChecked
import GoSem.Claim
import GoSem.ClaimJoined
import GoSem.ClaimMapViews
import Derived.JoinedTies
import Derived.KernelRfl
namespace Go.Proofs.Ytmfobkiljlepjaa
/- THE CELL 'sum', in the pinned program and in every row, IS THE sha256 OF THE DUMP (.gsa) THAT YtmfobkiljlepjaaProg.lean LOADS. Nothing in Lean hashes anything: it is a label: what it is worth is what the hold of that sum in a sandbox is worth. -/
noncomputable def Try.pinned : Pinned := { name := "ytmfobkiljlepjaa", sum := "f483b08a390805657b9ac88a93e99643b0c2004f6d739b72672cdbf7e49edf32", checked := Try.checked }
namespace Rows
def none {H : Type} : Left H := { results := [], args := [] }

/-- 'punchcutlaw02.TallyParts': WHATEVER THE INPUT: true; the input reads as it did. -/
def tallyPartsSpec : ChangeSpec := { name := "tallyParts", fn := fun _ => fun
  | [d] => { results := [.lit (.bool true)], args := [d] }
  | _ => none }
def tallyPartsRow : OpenClaim := { program := "ytmfobkiljlepjaa", sum := "f483b08a390805657b9ac88a93e99643b0c2004f6d739b72672cdbf7e49edf32", func := "punchcut/punchcutlaw02.TallyParts", spec := "tallyParts", unfollowed := true, recurses := true, plainKeys := false, apart := false }
def TallyPartsSaid : Prop := tallyPartsRow.holds Try.pinned (OpenSpec.ofChange tallyPartsSpec)

/-- ITS FALSE NEIGHBOUR: 'it returns false'. Refute it at one input. -/
def tallyPartsWrong : ChangeSpec := { name := "tallyParts", fn := fun _ => fun
  | [d] => { results := [.lit (.bool false)], args := [d] }
  | _ => none }
def TallyPartsWrongFalsely : Prop := tallyPartsRow.holds Try.pinned (OpenSpec.ofChange tallyPartsWrong)

/-- 'punchcutlaw02.TallyOrders': WHATEVER THE INPUT: true; the input reads as it did. -/
def tallyOrdersSpec : ChangeSpec := { name := "tallyOrders", fn := fun _ => fun
  | [d1, d2] => { results := [.lit (.bool true)], args := [d1, d2] }
  | _ => none }
def tallyOrdersRow : OpenClaim := { program := "ytmfobkiljlepjaa", sum := "f483b08a390805657b9ac88a93e99643b0c2004f6d739b72672cdbf7e49edf32", func := "punchcut/punchcutlaw02.TallyOrders", spec := "tallyOrders", unfollowed := true, recurses := true, plainKeys := false, apart := false }
def TallyOrdersSaid : Prop := tallyOrdersRow.holds Try.pinned (OpenSpec.ofChange tallyOrdersSpec)

/-- ITS FALSE NEIGHBOUR: 'it returns false'. Refute it at one input. -/
def tallyOrdersWrong : ChangeSpec := { name := "tallyOrders", fn := fun _ => fun
  | [d1, d2] => { results := [.lit (.bool false)], args := [d1, d2] }
  | _ => none }
def TallyOrdersWrongFalsely : Prop := tallyOrdersRow.holds Try.pinned (OpenSpec.ofChange tallyOrdersWrong)

/-- 'punchcutlaw02.TallySums': WHATEVER THE INPUT: true; the input reads as it did. -/
def tallySumsSpec : ChangeSpec := { name := "tallySums", fn := fun _ => fun
  | [d] => { results := [.lit (.bool true)], args := [d] }
  | _ => none }
def tallySumsRow : OpenClaim := { program := "ytmfobkiljlepjaa", sum := "f483b08a390805657b9ac88a93e99643b0c2004f6d739b72672cdbf7e49edf32", func := "punchcut/punchcutlaw02.TallySums", spec := "tallySums", unfollowed := true, recurses := true, plainKeys := false, apart := false }
def TallySumsSaid : Prop := tallySumsRow.holds Try.pinned (OpenSpec.ofChange tallySumsSpec)

/-- ITS FALSE NEIGHBOUR: 'it returns false'. Refute it at one input. -/
def tallySumsWrong : ChangeSpec := { name := "tallySums", fn := fun _ => fun
  | [d] => { results := [.lit (.bool false)], args := [d] }
  | _ => none }
def TallySumsWrongFalsely : Prop := tallySumsRow.holds Try.pinned (OpenSpec.ofChange tallySumsWrong)

/-- 'punchcutlaw02.TallyZeroes': WHATEVER THE INPUT: true; the input reads as it did. -/
def tallyZeroesSpec : ChangeSpec := { name := "tallyZeroes", fn := fun _ => fun
  | [d1, d2, d3] => { results := [.lit (.bool true)], args := [d1, d2, d3] }
  | _ => none }
def tallyZeroesRow : OpenClaim := { program := "ytmfobkiljlepjaa", sum := "f483b08a390805657b9ac88a93e99643b0c2004f6d739b72672cdbf7e49edf32", func := "punchcut/punchcutlaw02.TallyZeroes", spec := "tallyZeroes", unfollowed := true, recurses := true, plainKeys := false, apart := false }
def TallyZeroesSaid : Prop := tallyZeroesRow.holds Try.pinned (OpenSpec.ofChange tallyZeroesSpec)

/-- ITS FALSE NEIGHBOUR: 'it returns false'. Refute it at one input. -/
def tallyZeroesWrong : ChangeSpec := { name := "tallyZeroes", fn := fun _ => fun
  | [d1, d2, d3] => { results := [.lit (.bool false)], args := [d1, d2, d3] }
  | _ => none }
def TallyZeroesWrongFalsely : Prop := tallyZeroesRow.holds Try.pinned (OpenSpec.ofChange tallyZeroesWrong)

/-- 'punchcutlaw02.TallyWhole': WHATEVER THE INPUT: true; the input reads as it did. -/
def tallyWholeSpec : ChangeSpec := { name := "tallyWhole", fn := fun _ => fun
  | [d1, d2] => { results := [.lit (.bool true)], args := [d1, d2] }
  | _ => none }
def tallyWholeRow : OpenClaim := { program := "ytmfobkiljlepjaa", sum := "f483b08a390805657b9ac88a93e99643b0c2004f6d739b72672cdbf7e49edf32", func := "punchcut/punchcutlaw02.TallyWhole", spec := "tallyWhole", unfollowed := true, recurses := true, plainKeys := false, apart := false }
def TallyWholeSaid : Prop := tallyWholeRow.holds Try.pinned (OpenSpec.ofChange tallyWholeSpec)

/-- ITS FALSE NEIGHBOUR: 'it returns false'. Refute it at one input. -/
def tallyWholeWrong : ChangeSpec := { name := "tallyWhole", fn := fun _ => fun
  | [d1, d2] => { results := [.lit (.bool false)], args := [d1, d2] }
  | _ => none }
def TallyWholeWrongFalsely : Prop := tallyWholeRow.holds Try.pinned (OpenSpec.ofChange tallyWholeWrong)

/-- 'punchcutlaw10.GroupBuilds': WHATEVER THE INPUT: true; the input reads as it did. -/
def groupBuildsSpec : ChangeSpec := { name := "groupBuilds", fn := fun _ => fun
  | [d1, d2, d3] => { results := [.lit (.bool true)], args := [d1, d2, d3] }
  | _ => none }
def groupBuildsRow : OpenClaim := { program := "ytmfobkiljlepjaa", sum := "f483b08a390805657b9ac88a93e99643b0c2004f6d739b72672cdbf7e49edf32", func := "punchcut/punchcutlaw10.GroupBuilds", spec := "groupBuilds", unfollowed := true, recurses := true, plainKeys := false, apart := false }
def GroupBuildsSaid : Prop := groupBuildsRow.holds Try.pinned (OpenSpec.ofChange groupBuildsSpec)

/-- ITS FALSE NEIGHBOUR: 'it returns false'. Refute it at one input. -/
def groupBuildsWrong : ChangeSpec := { name := "groupBuilds", fn := fun _ => fun
  | [d1, d2, d3] => { results := [.lit (.bool false)], args := [d1, d2, d3] }
  | _ => none }
def GroupBuildsWrongFalsely : Prop := groupBuildsRow.holds Try.pinned (OpenSpec.ofChange groupBuildsWrong)

/-- 'punchcutlaw10.GroupParses': WHATEVER THE INPUT: true; the input reads as it did. -/
def groupParsesSpec : ChangeSpec := { name := "groupParses", fn := fun _ => fun
  | [d1, d2] => { results := [.lit (.bool true)], args := [d1, d2] }
  | _ => none }
def groupParsesRow : OpenClaim := { program := "ytmfobkiljlepjaa", sum := "f483b08a390805657b9ac88a93e99643b0c2004f6d739b72672cdbf7e49edf32", func := "punchcut/punchcutlaw10.GroupParses", spec := "groupParses", unfollowed := true, recurses := true, plainKeys := false, apart := false }
def GroupParsesSaid : Prop := groupParsesRow.holds Try.pinned (OpenSpec.ofChange groupParsesSpec)

/-- ITS FALSE NEIGHBOUR: 'it returns false'. Refute it at one input. -/
def groupParsesWrong : ChangeSpec := { name := "groupParses", fn := fun _ => fun
  | [d1, d2] => { results := [.lit (.bool false)], args := [d1, d2] }
  | _ => none }
def GroupParsesWrongFalsely : Prop := groupParsesRow.holds Try.pinned (OpenSpec.ofChange groupParsesWrong)

/-- 'punchcutlaw10.GroupBends': WHATEVER THE INPUT: true; the input reads as it did. -/
def groupBendsSpec : ChangeSpec := { name := "groupBends", fn := fun _ => fun
  | [d1, d2, d3, d4, d5] => { results := [.lit (.bool true)], args := [d1, d2, d3, d4, d5] }
  | _ => none }
def groupBendsRow : OpenClaim := { program := "ytmfobkiljlepjaa", sum := "f483b08a390805657b9ac88a93e99643b0c2004f6d739b72672cdbf7e49edf32", func := "punchcut/punchcutlaw10.GroupBends", spec := "groupBends", unfollowed := true, recurses := true, plainKeys := false, apart := false }
def GroupBendsSaid : Prop := groupBendsRow.holds Try.pinned (OpenSpec.ofChange groupBendsSpec)

/-- ITS FALSE NEIGHBOUR: 'it returns false'. Refute it at one input. -/
def groupBendsWrong : ChangeSpec := { name := "groupBends", fn := fun _ => fun
  | [d1, d2, d3, d4, d5] => { results := [.lit (.bool false)], args := [d1, d2, d3, d4, d5] }
  | _ => none }
def GroupBendsWrongFalsely : Prop := groupBendsRow.holds Try.pinned (OpenSpec.ofChange groupBendsWrong)

/-- 'punchcutlaw10.GroupRefuses': WHATEVER THE INPUT: true; the input reads as it did. -/
def groupRefusesSpec : ChangeSpec := { name := "groupRefuses", fn := fun _ => fun
  | [d] => { results := [.lit (.bool true)], args := [d] }
  | _ => none }
def groupRefusesRow : OpenClaim := { program := "ytmfobkiljlepjaa", sum := "f483b08a390805657b9ac88a93e99643b0c2004f6d739b72672cdbf7e49edf32", func := "punchcut/punchcutlaw10.GroupRefuses", spec := "groupRefuses", unfollowed := true, recurses := true, plainKeys := false, apart := false }
def GroupRefusesSaid : Prop := groupRefusesRow.holds Try.pinned (OpenSpec.ofChange groupRefusesSpec)

/-- ITS FALSE NEIGHBOUR: 'it returns false'. Refute it at one input. -/
def groupRefusesWrong : ChangeSpec := { name := "groupRefuses", fn := fun _ => fun
  | [d] => { results := [.lit (.bool false)], args := [d] }
  | _ => none }
def GroupRefusesWrongFalsely : Prop := groupRefusesRow.holds Try.pinned (OpenSpec.ofChange groupRefusesWrong)

/-- 'punchcutlaw10.GroupRuns': WHATEVER THE INPUT: true; the input reads as it did. -/
def groupRunsSpec : ChangeSpec := { name := "groupRuns", fn := fun _ => fun
  | [d1, d2, d3, d4] => { results := [.lit (.bool true)], args := [d1, d2, d3, d4] }
  | _ => none }
def groupRunsRow : OpenClaim := { program := "ytmfobkiljlepjaa", sum := "f483b08a390805657b9ac88a93e99643b0c2004f6d739b72672cdbf7e49edf32", func := "punchcut/punchcutlaw10.GroupRuns", spec := "groupRuns", unfollowed := true, recurses := true, plainKeys := false, apart := false }
def GroupRunsSaid : Prop := groupRunsRow.holds Try.pinned (OpenSpec.ofChange groupRunsSpec)

/-- ITS FALSE NEIGHBOUR: 'it returns false'. Refute it at one input. -/
def groupRunsWrong : ChangeSpec := { name := "groupRuns", fn := fun _ => fun
  | [d1, d2, d3, d4] => { results := [.lit (.bool false)], args := [d1, d2, d3, d4] }
  | _ => none }
def GroupRunsWrongFalsely : Prop := groupRunsRow.holds Try.pinned (OpenSpec.ofChange groupRunsWrong)

/-- 'punchcutlaw09.SegBuilds': WHATEVER THE INPUT: true; the input reads as it did. -/
def segBuildsSpec : ChangeSpec := { name := "segBuilds", fn := fun _ => fun
  | [d1, d2, d3] => { results := [.lit (.bool true)], args := [d1, d2, d3] }
  | _ => none }
def segBuildsRow : OpenClaim := { program := "ytmfobkiljlepjaa", sum := "f483b08a390805657b9ac88a93e99643b0c2004f6d739b72672cdbf7e49edf32", func := "punchcut/punchcutlaw09.SegBuilds", spec := "segBuilds", plainKeys := false, apart := false }
def SegBuildsSaid : Prop := segBuildsRow.holds Try.pinned (OpenSpec.ofChange segBuildsSpec)

/-- ITS FALSE NEIGHBOUR: 'it returns false'. Refute it at one input. -/
def segBuildsWrong : ChangeSpec := { name := "segBuilds", fn := fun _ => fun
  | [d1, d2, d3] => { results := [.lit (.bool false)], args := [d1, d2, d3] }
  | _ => none }
def SegBuildsWrongFalsely : Prop := segBuildsRow.holds Try.pinned (OpenSpec.ofChange segBuildsWrong)

/-- 'punchcutlaw09.SegParses': WHATEVER THE INPUT: true; the input reads as it did. -/
def segParsesSpec : ChangeSpec := { name := "segParses", fn := fun _ => fun
  | [d1, d2] => { results := [.lit (.bool true)], args := [d1, d2] }
  | _ => none }
def segParsesRow : OpenClaim := { program := "ytmfobkiljlepjaa", sum := "f483b08a390805657b9ac88a93e99643b0c2004f6d739b72672cdbf7e49edf32", func := "punchcut/punchcutlaw09.SegParses", spec := "segParses", plainKeys := false, apart := false }
def SegParsesSaid : Prop := segParsesRow.holds Try.pinned (OpenSpec.ofChange segParsesSpec)

/-- ITS FALSE NEIGHBOUR: 'it returns false'. Refute it at one input. -/
def segParsesWrong : ChangeSpec := { name := "segParses", fn := fun _ => fun
  | [d1, d2] => { results := [.lit (.bool false)], args := [d1, d2] }
  | _ => none }
def SegParsesWrongFalsely : Prop := segParsesRow.holds Try.pinned (OpenSpec.ofChange segParsesWrong)

/-- 'punchcutlaw09.SegBends': WHATEVER THE INPUT: true; the input reads as it did. -/
def segBendsSpec : ChangeSpec := { name := "segBends", fn := fun _ => fun
  | [d1, d2, d3, d4, d5] => { results := [.lit (.bool true)], args := [d1, d2, d3, d4, d5] }
  | _ => none }
def segBendsRow : OpenClaim := { program := "ytmfobkiljlepjaa", sum := "f483b08a390805657b9ac88a93e99643b0c2004f6d739b72672cdbf7e49edf32", func := "punchcut/punchcutlaw09.SegBends", spec := "segBends", plainKeys := false, apart := false }
def SegBendsSaid : Prop := segBendsRow.holds Try.pinned (OpenSpec.ofChange segBendsSpec)

/-- ITS FALSE NEIGHBOUR: 'it returns false'. Refute it at one input. -/
def segBendsWrong : ChangeSpec := { name := "segBends", fn := fun _ => fun
  | [d1, d2, d3, d4, d5] => { results := [.lit (.bool false)], args := [d1, d2, d3, d4, d5] }
  | _ => none }
def SegBendsWrongFalsely : Prop := segBendsRow.holds Try.pinned (OpenSpec.ofChange segBendsWrong)

/-- 'punchcutlaw09.SegOffsets': WHATEVER THE INPUT: true; the input reads as it did. -/
def segOffsetsSpec : ChangeSpec := { name := "segOffsets", fn := fun _ => fun
  | [d1, d2, d3, d4] => { results := [.lit (.bool true)], args := [d1, d2, d3, d4] }
  | _ => none }
def segOffsetsRow : OpenClaim := { program := "ytmfobkiljlepjaa", sum := "f483b08a390805657b9ac88a93e99643b0c2004f6d739b72672cdbf7e49edf32", func := "punchcut/punchcutlaw09.SegOffsets", spec := "segOffsets", plainKeys := false, apart := false }
def SegOffsetsSaid : Prop := segOffsetsRow.holds Try.pinned (OpenSpec.ofChange segOffsetsSpec)

/-- ITS FALSE NEIGHBOUR: 'it returns false'. Refute it at one input. -/
def segOffsetsWrong : ChangeSpec := { name := "segOffsets", fn := fun _ => fun
  | [d1, d2, d3, d4] => { results := [.lit (.bool false)], args := [d1, d2, d3, d4] }
  | _ => none }
def SegOffsetsWrongFalsely : Prop := segOffsetsRow.holds Try.pinned (OpenSpec.ofChange segOffsetsWrong)

/-- 'punchcutlaw09.SegRises': WHATEVER THE INPUT: true; the input reads as it did. -/
def segRisesSpec : ChangeSpec := { name := "segRises", fn := fun _ => fun
  | [d1, d2] => { results := [.lit (.bool true)], args := [d1, d2] }
  | _ => none }
def segRisesRow : OpenClaim := { program := "ytmfobkiljlepjaa", sum := "f483b08a390805657b9ac88a93e99643b0c2004f6d739b72672cdbf7e49edf32", func := "punchcut/punchcutlaw09.SegRises", spec := "segRises", plainKeys := false, apart := false }
def SegRisesSaid : Prop := segRisesRow.holds Try.pinned (OpenSpec.ofChange segRisesSpec)

/-- ITS FALSE NEIGHBOUR: 'it returns false'. Refute it at one input. -/
def segRisesWrong : ChangeSpec := { name := "segRises", fn := fun _ => fun
  | [d1, d2] => { results := [.lit (.bool false)], args := [d1, d2] }
  | _ => none }
def SegRisesWrongFalsely : Prop := segRisesRow.holds Try.pinned (OpenSpec.ofChange segRisesWrong)

/-- 'punchcutlaw09.SegRuns': WHATEVER THE INPUT: true; the input reads as it did. -/
def segRunsSpec : ChangeSpec := { name := "segRuns", fn := fun _ => fun
  | [d1, d2, d3, d4] => { results := [.lit (.bool true)], args := [d1, d2, d3, d4] }
  | _ => none }
def segRunsRow : OpenClaim := { program := "ytmfobkiljlepjaa", sum := "f483b08a390805657b9ac88a93e99643b0c2004f6d739b72672cdbf7e49edf32", func := "punchcut/punchcutlaw09.SegRuns", spec := "segRuns", plainKeys := false, apart := false }
def SegRunsSaid : Prop := segRunsRow.holds Try.pinned (OpenSpec.ofChange segRunsSpec)

/-- ITS FALSE NEIGHBOUR: 'it returns false'. Refute it at one input. -/
def segRunsWrong : ChangeSpec := { name := "segRuns", fn := fun _ => fun
  | [d1, d2, d3, d4] => { results := [.lit (.bool false)], args := [d1, d2, d3, d4] }
  | _ => none }
def SegRunsWrongFalsely : Prop := segRunsRow.holds Try.pinned (OpenSpec.ofChange segRunsWrong)

/-- 'punchcutlaw10.GroupAgrees': WHATEVER THE INPUT: true; the input reads as it did. -/
def groupAgreesSpec : ChangeSpec := { name := "groupAgrees", fn := fun _ => fun
  | [d1, d2, d3] => { results := [.lit (.bool true)], args := [d1, d2, d3] }
  | _ => none }
def groupAgreesRow : OpenClaim := { program := "ytmfobkiljlepjaa", sum := "f483b08a390805657b9ac88a93e99643b0c2004f6d739b72672cdbf7e49edf32", func := "punchcut/punchcutlaw10.GroupAgrees", spec := "groupAgrees", unfollowed := true, recurses := true, plainKeys := false, apart := false }
def GroupAgreesSaid : Prop := groupAgreesRow.holds Try.pinned (OpenSpec.ofChange groupAgreesSpec)

/-- ITS FALSE NEIGHBOUR: 'it returns false'. Refute it at one input. -/
def groupAgreesWrong : ChangeSpec := { name := "groupAgrees", fn := fun _ => fun
  | [d1, d2, d3] => { results := [.lit (.bool false)], args := [d1, d2, d3] }
  | _ => none }
def GroupAgreesWrongFalsely : Prop := groupAgreesRow.holds Try.pinned (OpenSpec.ofChange groupAgreesWrong)

/-- 'punchcutlaw03.SfntSearches': WHATEVER THE INPUT: true; the input reads as it did. -/
def sfntSearchesSpec : ChangeSpec := { name := "sfntSearches", fn := fun _ => fun
  | [d] => { results := [.lit (.bool true)], args := [d] }
  | _ => none }
def sfntSearchesRow : OpenClaim := { program := "ytmfobkiljlepjaa", sum := "f483b08a390805657b9ac88a93e99643b0c2004f6d739b72672cdbf7e49edf32", func := "punchcut/punchcutlaw03.SfntSearches", spec := "sfntSearches", inPlace := ["internal/bytealg.abigen_runtime_cmpstring"], unfollowed := true, recurses := true, plainKeys := false, apart := false }
def SfntSearchesSaid : Prop := sfntSearchesRow.holds Try.pinned (OpenSpec.ofChange sfntSearchesSpec)

/-- ITS FALSE NEIGHBOUR: 'it returns false'. Refute it at one input. -/
def sfntSearchesWrong : ChangeSpec := { name := "sfntSearches", fn := fun _ => fun
  | [d] => { results := [.lit (.bool false)], args := [d] }
  | _ => none }
def SfntSearchesWrongFalsely : Prop := sfntSearchesRow.holds Try.pinned (OpenSpec.ofChange sfntSearchesWrong)

/-- 'punchcutlaw11.CmapBuilds': WHATEVER THE INPUT: true; the input reads as it did. -/
def cmapBuildsSpec : ChangeSpec := { name := "cmapBuilds", fn := fun _ => fun
  | [d1, d2, d3, d4] => { results := [.lit (.bool true)], args := [d1, d2, d3, d4] }
  | _ => none }
def cmapBuildsRow : OpenClaim := { program := "ytmfobkiljlepjaa", sum := "f483b08a390805657b9ac88a93e99643b0c2004f6d739b72672cdbf7e49edf32", func := "punchcut/punchcutlaw11.CmapBuilds", spec := "cmapBuilds", unfollowed := true, recurses := true, plainKeys := false, apart := false }
def CmapBuildsSaid : Prop := cmapBuildsRow.holds Try.pinned (OpenSpec.ofChange cmapBuildsSpec)

/-- ITS FALSE NEIGHBOUR: 'it returns false'. Refute it at one input. -/
def cmapBuildsWrong : ChangeSpec := { name := "cmapBuilds", fn := fun _ => fun
  | [d1, d2, d3, d4] => { results := [.lit (.bool false)], args := [d1, d2, d3, d4] }
  | _ => none }
def CmapBuildsWrongFalsely : Prop := cmapBuildsRow.holds Try.pinned (OpenSpec.ofChange cmapBuildsWrong)

/-- 'punchcutlaw11.CmapParses': WHATEVER THE INPUT: true; the input reads as it did. -/
def cmapParsesSpec : ChangeSpec := { name := "cmapParses", fn := fun _ => fun
  | [d1, d2] => { results := [.lit (.bool true)], args := [d1, d2] }
  | _ => none }
def cmapParsesRow : OpenClaim := { program := "ytmfobkiljlepjaa", sum := "f483b08a390805657b9ac88a93e99643b0c2004f6d739b72672cdbf7e49edf32", func := "punchcut/punchcutlaw11.CmapParses", spec := "cmapParses", unfollowed := true, recurses := true, plainKeys := false, apart := false }
def CmapParsesSaid : Prop := cmapParsesRow.holds Try.pinned (OpenSpec.ofChange cmapParsesSpec)

/-- ITS FALSE NEIGHBOUR: 'it returns false'. Refute it at one input. -/
def cmapParsesWrong : ChangeSpec := { name := "cmapParses", fn := fun _ => fun
  | [d1, d2] => { results := [.lit (.bool false)], args := [d1, d2] }
  | _ => none }
def CmapParsesWrongFalsely : Prop := cmapParsesRow.holds Try.pinned (OpenSpec.ofChange cmapParsesWrong)

/-- 'punchcutlaw11.CmapChooses': WHATEVER THE INPUT: true; the input reads as it did. -/
def cmapChoosesSpec : ChangeSpec := { name := "cmapChooses", fn := fun _ => fun
  | [d1, d2, d3, d4] => { results := [.lit (.bool true)], args := [d1, d2, d3, d4] }
  | _ => none }
def cmapChoosesRow : OpenClaim := { program := "ytmfobkiljlepjaa", sum := "f483b08a390805657b9ac88a93e99643b0c2004f6d739b72672cdbf7e49edf32", func := "punchcut/punchcutlaw11.CmapChooses", spec := "cmapChooses", unfollowed := true, recurses := true, plainKeys := false, apart := false }
def CmapChoosesSaid : Prop := cmapChoosesRow.holds Try.pinned (OpenSpec.ofChange cmapChoosesSpec)

/-- ITS FALSE NEIGHBOUR: 'it returns false'. Refute it at one input. -/
def cmapChoosesWrong : ChangeSpec := { name := "cmapChooses", fn := fun _ => fun
  | [d1, d2, d3, d4] => { results := [.lit (.bool false)], args := [d1, d2, d3, d4] }
  | _ => none }
def CmapChoosesWrongFalsely : Prop := cmapChoosesRow.holds Try.pinned (OpenSpec.ofChange cmapChoosesWrong)

/-- 'punchcutlaw11.CmapBends': WHATEVER THE INPUT: true; the input reads as it did. -/
def cmapBendsSpec : ChangeSpec := { name := "cmapBends", fn := fun _ => fun
  | [d1, d2, d3, d4, d5] => { results := [.lit (.bool true)], args := [d1, d2, d3, d4, d5] }
  | _ => none }
def cmapBendsRow : OpenClaim := { program := "ytmfobkiljlepjaa", sum := "f483b08a390805657b9ac88a93e99643b0c2004f6d739b72672cdbf7e49edf32", func := "punchcut/punchcutlaw11.CmapBends", spec := "cmapBends", unfollowed := true, recurses := true, plainKeys := false, apart := false }
def CmapBendsSaid : Prop := cmapBendsRow.holds Try.pinned (OpenSpec.ofChange cmapBendsSpec)

/-- ITS FALSE NEIGHBOUR: 'it returns false'. Refute it at one input. -/
def cmapBendsWrong : ChangeSpec := { name := "cmapBends", fn := fun _ => fun
  | [d1, d2, d3, d4, d5] => { results := [.lit (.bool false)], args := [d1, d2, d3, d4, d5] }
  | _ => none }
def CmapBendsWrongFalsely : Prop := cmapBendsRow.holds Try.pinned (OpenSpec.ofChange cmapBendsWrong)

/-- 'punchcutlaw11.CmapWides': WHATEVER THE INPUT: true; the input reads as it did. -/
def cmapWidesSpec : ChangeSpec := { name := "cmapWides", fn := fun _ => fun
  | [d1, d2, d3, d4] => { results := [.lit (.bool true)], args := [d1, d2, d3, d4] }
  | _ => none }
def cmapWidesRow : OpenClaim := { program := "ytmfobkiljlepjaa", sum := "f483b08a390805657b9ac88a93e99643b0c2004f6d739b72672cdbf7e49edf32", func := "punchcut/punchcutlaw11.CmapWides", spec := "cmapWides", unfollowed := true, recurses := true, plainKeys := false, apart := false }
def CmapWidesSaid : Prop := cmapWidesRow.holds Try.pinned (OpenSpec.ofChange cmapWidesSpec)

/-- ITS FALSE NEIGHBOUR: 'it returns false'. Refute it at one input. -/
def cmapWidesWrong : ChangeSpec := { name := "cmapWides", fn := fun _ => fun
  | [d1, d2, d3, d4] => { results := [.lit (.bool false)], args := [d1, d2, d3, d4] }
  | _ => none }
def CmapWidesWrongFalsely : Prop := cmapWidesRow.holds Try.pinned (OpenSpec.ofChange cmapWidesWrong)

/-- 'punchcutlaw03.SfntRefuses': WHATEVER THE INPUT: true; the input reads as it did. -/
def sfntRefusesSpec : ChangeSpec := { name := "sfntRefuses", fn := fun _ => fun
  | [d1, d2, d3] => { results := [.lit (.bool true)], args := [d1, d2, d3] }
  | _ => none }
def sfntRefusesRow : OpenClaim := { program := "ytmfobkiljlepjaa", sum := "f483b08a390805657b9ac88a93e99643b0c2004f6d739b72672cdbf7e49edf32", func := "punchcut/punchcutlaw03.SfntRefuses", spec := "sfntRefuses", inPlace := ["internal/bytealg.abigen_runtime_cmpstring"], unfollowed := true, recurses := true, plainKeys := false, apart := false }
def SfntRefusesSaid : Prop := sfntRefusesRow.holds Try.pinned (OpenSpec.ofChange sfntRefusesSpec)

/-- ITS FALSE NEIGHBOUR: 'it returns false'. Refute it at one input. -/
def sfntRefusesWrong : ChangeSpec := { name := "sfntRefuses", fn := fun _ => fun
  | [d1, d2, d3] => { results := [.lit (.bool false)], args := [d1, d2, d3] }
  | _ => none }
def SfntRefusesWrongFalsely : Prop := sfntRefusesRow.holds Try.pinned (OpenSpec.ofChange sfntRefusesWrong)

/-- 'punchcutlaw03.SfntBuilds': WHATEVER THE INPUT: true; the input reads as it did. -/
def sfntBuildsSpec : ChangeSpec := { name := "sfntBuilds", fn := fun _ => fun
  | [d1, d2] => { results := [.lit (.bool true)], args := [d1, d2] }
  | _ => none }
def sfntBuildsRow : OpenClaim := { program := "ytmfobkiljlepjaa", sum := "f483b08a390805657b9ac88a93e99643b0c2004f6d739b72672cdbf7e49edf32", func := "punchcut/punchcutlaw03.SfntBuilds", spec := "sfntBuilds", inPlace := ["internal/bytealg.abigen_runtime_cmpstring"], unfollowed := true, recurses := true, plainKeys := false, apart := false }
def SfntBuildsSaid : Prop := sfntBuildsRow.holds Try.pinned (OpenSpec.ofChange sfntBuildsSpec)

/-- ITS FALSE NEIGHBOUR: 'it returns false'. Refute it at one input. -/
def sfntBuildsWrong : ChangeSpec := { name := "sfntBuilds", fn := fun _ => fun
  | [d1, d2] => { results := [.lit (.bool false)], args := [d1, d2] }
  | _ => none }
def SfntBuildsWrongFalsely : Prop := sfntBuildsRow.holds Try.pinned (OpenSpec.ofChange sfntBuildsWrong)

/-- 'punchcutlaw03.SfntParses': WHATEVER THE INPUT: true; the input reads as it did. -/
def sfntParsesSpec : ChangeSpec := { name := "sfntParses", fn := fun _ => fun
  | [d] => { results := [.lit (.bool true)], args := [d] }
  | _ => none }
def sfntParsesRow : OpenClaim := { program := "ytmfobkiljlepjaa", sum := "f483b08a390805657b9ac88a93e99643b0c2004f6d739b72672cdbf7e49edf32", func := "punchcut/punchcutlaw03.SfntParses", spec := "sfntParses", inPlace := ["internal/bytealg.abigen_runtime_cmpstring"], unfollowed := true, recurses := true, plainKeys := false, apart := false }
def SfntParsesSaid : Prop := sfntParsesRow.holds Try.pinned (OpenSpec.ofChange sfntParsesSpec)

/-- ITS FALSE NEIGHBOUR: 'it returns false'. Refute it at one input. -/
def sfntParsesWrong : ChangeSpec := { name := "sfntParses", fn := fun _ => fun
  | [d] => { results := [.lit (.bool false)], args := [d] }
  | _ => none }
def SfntParsesWrongFalsely : Prop := sfntParsesRow.holds Try.pinned (OpenSpec.ofChange sfntParsesWrong)

/-- 'punchcutlaw03.SfntOwns': WHATEVER THE INPUT: true; the input reads as it did. -/
def sfntOwnsSpec : ChangeSpec := { name := "sfntOwns", fn := fun _ => fun
  | [d] => { results := [.lit (.bool true)], args := [d] }
  | _ => none }
def sfntOwnsRow : OpenClaim := { program := "ytmfobkiljlepjaa", sum := "f483b08a390805657b9ac88a93e99643b0c2004f6d739b72672cdbf7e49edf32", func := "punchcut/punchcutlaw03.SfntOwns", spec := "sfntOwns", inPlace := ["internal/bytealg.abigen_runtime_cmpstring"], unfollowed := true, recurses := true, plainKeys := false, apart := false }
def SfntOwnsSaid : Prop := sfntOwnsRow.holds Try.pinned (OpenSpec.ofChange sfntOwnsSpec)

/-- ITS FALSE NEIGHBOUR: 'it returns false'. Refute it at one input. -/
def sfntOwnsWrong : ChangeSpec := { name := "sfntOwns", fn := fun _ => fun
  | [d] => { results := [.lit (.bool false)], args := [d] }
  | _ => none }
def SfntOwnsWrongFalsely : Prop := sfntOwnsRow.holds Try.pinned (OpenSpec.ofChange sfntOwnsWrong)

/- THE SECOND FORM. 'bulk': how many values and letters a reading holds, each counted each time it is reached (what is shared counts as often as it is met; a slice's spare places count too). A statement '..UptoSaid' is the law's where the arguments, and the package variables that the reading takes, are together of bulk at most 1048576: NARROWER than '..Said'. Prove '..Said' where nothing that the law and all that it calls make is longer than what came in: it says more and counts as full. Else prove '..UptoSaid'. A law counts once. -/
mutual
def uptoBulk {H : Type} : DataW H → Nat
  | .lit (.string bytes) => bytes.length + 1
  | .lit _ => 1
  | .nil => 1
  | .ptr d => uptoBulk d + 1
  | .slice elems spare => uptoBulkAll elems + uptoBulkAll spare + 1
  | .agg parts => uptoBulkAll parts + 1
  | .iface _ d => uptoBulk d + 1
  | .map entries => uptoBulkEntries entries + 1
  | .held _ => 1
def uptoBulkAll {H : Type} : List (DataW H) → Nat
  | [] => 0
  | d :: r => uptoBulk d + uptoBulkAll r
def uptoBulkEntries {H : Type} : List (Lit × DataW H) → Nat
  | [] => 0
  | x :: r => uptoBulkEntry x + uptoBulkEntries r
def uptoBulkEntry {H : Type} : Lit × DataW H → Nat
  | (.string bytes, d) => bytes.length + uptoBulk d + 1
  | (_, d) => uptoBulk d + 1
 end
def uptoSmall : (H : Type) → List (DataW H) → Bool := fun _ ds => decide (uptoBulkAll ds ≤ 1048576)
def OpenSpec.upto (s : _root_.Go.ChangeSpec) : _root_.Go.OpenSpec := { _root_.Go.OpenSpec.ofChange s with cond := some uptoSmall }

/-- 'punchcutlaw02.TallyParts', WHERE WHAT IT READS IS OF BULK AT MOST 1048576: true; the input reads as it did. -/
def tallyPartsUptoRow : OpenClaim := { program := "ytmfobkiljlepjaa", sum := "f483b08a390805657b9ac88a93e99643b0c2004f6d739b72672cdbf7e49edf32", func := "punchcut/punchcutlaw02.TallyParts", spec := "tallyParts", unfollowed := true, recurses := true, plainKeys := false, apart := false, narrowed := true }
def TallyPartsUptoSaid : Prop := tallyPartsUptoRow.holds Try.pinned (OpenSpec.upto tallyPartsSpec)

/-- 'punchcutlaw02.TallyOrders', WHERE WHAT IT READS IS OF BULK AT MOST 1048576: true; the input reads as it did. -/
def tallyOrdersUptoRow : OpenClaim := { program := "ytmfobkiljlepjaa", sum := "f483b08a390805657b9ac88a93e99643b0c2004f6d739b72672cdbf7e49edf32", func := "punchcut/punchcutlaw02.TallyOrders", spec := "tallyOrders", unfollowed := true, recurses := true, plainKeys := false, apart := false, narrowed := true }
def TallyOrdersUptoSaid : Prop := tallyOrdersUptoRow.holds Try.pinned (OpenSpec.upto tallyOrdersSpec)

/-- 'punchcutlaw02.TallySums', WHERE WHAT IT READS IS OF BULK AT MOST 1048576: true; the input reads as it did. -/
def tallySumsUptoRow : OpenClaim := { program := "ytmfobkiljlepjaa", sum := "f483b08a390805657b9ac88a93e99643b0c2004f6d739b72672cdbf7e49edf32", func := "punchcut/punchcutlaw02.TallySums", spec := "tallySums", unfollowed := true, recurses := true, plainKeys := false, apart := false, narrowed := true }
def TallySumsUptoSaid : Prop := tallySumsUptoRow.holds Try.pinned (OpenSpec.upto tallySumsSpec)

/-- 'punchcutlaw02.TallyZeroes', WHERE WHAT IT READS IS OF BULK AT MOST 1048576: true; the input reads as it did. -/
def tallyZeroesUptoRow : OpenClaim := { program := "ytmfobkiljlepjaa", sum := "f483b08a390805657b9ac88a93e99643b0c2004f6d739b72672cdbf7e49edf32", func := "punchcut/punchcutlaw02.TallyZeroes", spec := "tallyZeroes", unfollowed := true, recurses := true, plainKeys := false, apart := false, narrowed := true }
def TallyZeroesUptoSaid : Prop := tallyZeroesUptoRow.holds Try.pinned (OpenSpec.upto tallyZeroesSpec)

/-- 'punchcutlaw02.TallyWhole', WHERE WHAT IT READS IS OF BULK AT MOST 1048576: true; the input reads as it did. -/
def tallyWholeUptoRow : OpenClaim := { program := "ytmfobkiljlepjaa", sum := "f483b08a390805657b9ac88a93e99643b0c2004f6d739b72672cdbf7e49edf32", func := "punchcut/punchcutlaw02.TallyWhole", spec := "tallyWhole", unfollowed := true, recurses := true, plainKeys := false, apart := false, narrowed := true }
def TallyWholeUptoSaid : Prop := tallyWholeUptoRow.holds Try.pinned (OpenSpec.upto tallyWholeSpec)

/-- 'punchcutlaw10.GroupBuilds', WHERE WHAT IT READS IS OF BULK AT MOST 1048576: true; the input reads as it did. -/
def groupBuildsUptoRow : OpenClaim := { program := "ytmfobkiljlepjaa", sum := "f483b08a390805657b9ac88a93e99643b0c2004f6d739b72672cdbf7e49edf32", func := "punchcut/punchcutlaw10.GroupBuilds", spec := "groupBuilds", unfollowed := true, recurses := true, plainKeys := false, apart := false, narrowed := true }
def GroupBuildsUptoSaid : Prop := groupBuildsUptoRow.holds Try.pinned (OpenSpec.upto groupBuildsSpec)

/-- 'punchcutlaw10.GroupParses', WHERE WHAT IT READS IS OF BULK AT MOST 1048576: true; the input reads as it did. -/
def groupParsesUptoRow : OpenClaim := { program := "ytmfobkiljlepjaa", sum := "f483b08a390805657b9ac88a93e99643b0c2004f6d739b72672cdbf7e49edf32", func := "punchcut/punchcutlaw10.GroupParses", spec := "groupParses", unfollowed := true, recurses := true, plainKeys := false, apart := false, narrowed := true }
def GroupParsesUptoSaid : Prop := groupParsesUptoRow.holds Try.pinned (OpenSpec.upto groupParsesSpec)

/-- 'punchcutlaw10.GroupBends', WHERE WHAT IT READS IS OF BULK AT MOST 1048576: true; the input reads as it did. -/
def groupBendsUptoRow : OpenClaim := { program := "ytmfobkiljlepjaa", sum := "f483b08a390805657b9ac88a93e99643b0c2004f6d739b72672cdbf7e49edf32", func := "punchcut/punchcutlaw10.GroupBends", spec := "groupBends", unfollowed := true, recurses := true, plainKeys := false, apart := false, narrowed := true }
def GroupBendsUptoSaid : Prop := groupBendsUptoRow.holds Try.pinned (OpenSpec.upto groupBendsSpec)

/-- 'punchcutlaw10.GroupRefuses', WHERE WHAT IT READS IS OF BULK AT MOST 1048576: true; the input reads as it did. -/
def groupRefusesUptoRow : OpenClaim := { program := "ytmfobkiljlepjaa", sum := "f483b08a390805657b9ac88a93e99643b0c2004f6d739b72672cdbf7e49edf32", func := "punchcut/punchcutlaw10.GroupRefuses", spec := "groupRefuses", unfollowed := true, recurses := true, plainKeys := false, apart := false, narrowed := true }
def GroupRefusesUptoSaid : Prop := groupRefusesUptoRow.holds Try.pinned (OpenSpec.upto groupRefusesSpec)

/-- 'punchcutlaw10.GroupRuns', WHERE WHAT IT READS IS OF BULK AT MOST 1048576: true; the input reads as it did. -/
def groupRunsUptoRow : OpenClaim := { program := "ytmfobkiljlepjaa", sum := "f483b08a390805657b9ac88a93e99643b0c2004f6d739b72672cdbf7e49edf32", func := "punchcut/punchcutlaw10.GroupRuns", spec := "groupRuns", unfollowed := true, recurses := true, plainKeys := false, apart := false, narrowed := true }
def GroupRunsUptoSaid : Prop := groupRunsUptoRow.holds Try.pinned (OpenSpec.upto groupRunsSpec)

/-- 'punchcutlaw09.SegBuilds', WHERE WHAT IT READS IS OF BULK AT MOST 1048576: true; the input reads as it did. -/
def segBuildsUptoRow : OpenClaim := { program := "ytmfobkiljlepjaa", sum := "f483b08a390805657b9ac88a93e99643b0c2004f6d739b72672cdbf7e49edf32", func := "punchcut/punchcutlaw09.SegBuilds", spec := "segBuilds", plainKeys := false, apart := false, narrowed := true }
def SegBuildsUptoSaid : Prop := segBuildsUptoRow.holds Try.pinned (OpenSpec.upto segBuildsSpec)

/-- 'punchcutlaw09.SegParses', WHERE WHAT IT READS IS OF BULK AT MOST 1048576: true; the input reads as it did. -/
def segParsesUptoRow : OpenClaim := { program := "ytmfobkiljlepjaa", sum := "f483b08a390805657b9ac88a93e99643b0c2004f6d739b72672cdbf7e49edf32", func := "punchcut/punchcutlaw09.SegParses", spec := "segParses", plainKeys := false, apart := false, narrowed := true }
def SegParsesUptoSaid : Prop := segParsesUptoRow.holds Try.pinned (OpenSpec.upto segParsesSpec)

/-- 'punchcutlaw09.SegBends', WHERE WHAT IT READS IS OF BULK AT MOST 1048576: true; the input reads as it did. -/
def segBendsUptoRow : OpenClaim := { program := "ytmfobkiljlepjaa", sum := "f483b08a390805657b9ac88a93e99643b0c2004f6d739b72672cdbf7e49edf32", func := "punchcut/punchcutlaw09.SegBends", spec := "segBends", plainKeys := false, apart := false, narrowed := true }
def SegBendsUptoSaid : Prop := segBendsUptoRow.holds Try.pinned (OpenSpec.upto segBendsSpec)

/-- 'punchcutlaw09.SegOffsets', WHERE WHAT IT READS IS OF BULK AT MOST 1048576: true; the input reads as it did. -/
def segOffsetsUptoRow : OpenClaim := { program := "ytmfobkiljlepjaa", sum := "f483b08a390805657b9ac88a93e99643b0c2004f6d739b72672cdbf7e49edf32", func := "punchcut/punchcutlaw09.SegOffsets", spec := "segOffsets", plainKeys := false, apart := false, narrowed := true }
def SegOffsetsUptoSaid : Prop := segOffsetsUptoRow.holds Try.pinned (OpenSpec.upto segOffsetsSpec)

/-- 'punchcutlaw09.SegRises', WHERE WHAT IT READS IS OF BULK AT MOST 1048576: true; the input reads as it did. -/
def segRisesUptoRow : OpenClaim := { program := "ytmfobkiljlepjaa", sum := "f483b08a390805657b9ac88a93e99643b0c2004f6d739b72672cdbf7e49edf32", func := "punchcut/punchcutlaw09.SegRises", spec := "segRises", plainKeys := false, apart := false, narrowed := true }
def SegRisesUptoSaid : Prop := segRisesUptoRow.holds Try.pinned (OpenSpec.upto segRisesSpec)

/-- 'punchcutlaw09.SegRuns', WHERE WHAT IT READS IS OF BULK AT MOST 1048576: true; the input reads as it did. -/
def segRunsUptoRow : OpenClaim := { program := "ytmfobkiljlepjaa", sum := "f483b08a390805657b9ac88a93e99643b0c2004f6d739b72672cdbf7e49edf32", func := "punchcut/punchcutlaw09.SegRuns", spec := "segRuns", plainKeys := false, apart := false, narrowed := true }
def SegRunsUptoSaid : Prop := segRunsUptoRow.holds Try.pinned (OpenSpec.upto segRunsSpec)

/-- 'punchcutlaw10.GroupAgrees', WHERE WHAT IT READS IS OF BULK AT MOST 1048576: true; the input reads as it did. -/
def groupAgreesUptoRow : OpenClaim := { program := "ytmfobkiljlepjaa", sum := "f483b08a390805657b9ac88a93e99643b0c2004f6d739b72672cdbf7e49edf32", func := "punchcut/punchcutlaw10.GroupAgrees", spec := "groupAgrees", unfollowed := true, recurses := true, plainKeys := false, apart := false, narrowed := true }
def GroupAgreesUptoSaid : Prop := groupAgreesUptoRow.holds Try.pinned (OpenSpec.upto groupAgreesSpec)

/-- 'punchcutlaw03.SfntSearches', WHERE WHAT IT READS IS OF BULK AT MOST 1048576: true; the input reads as it did. -/
def sfntSearchesUptoRow : OpenClaim := { program := "ytmfobkiljlepjaa", sum := "f483b08a390805657b9ac88a93e99643b0c2004f6d739b72672cdbf7e49edf32", func := "punchcut/punchcutlaw03.SfntSearches", spec := "sfntSearches", inPlace := ["internal/bytealg.abigen_runtime_cmpstring"], unfollowed := true, recurses := true, plainKeys := false, apart := false, narrowed := true }
def SfntSearchesUptoSaid : Prop := sfntSearchesUptoRow.holds Try.pinned (OpenSpec.upto sfntSearchesSpec)

/-- 'punchcutlaw11.CmapBuilds', WHERE WHAT IT READS IS OF BULK AT MOST 1048576: true; the input reads as it did. -/
def cmapBuildsUptoRow : OpenClaim := { program := "ytmfobkiljlepjaa", sum := "f483b08a390805657b9ac88a93e99643b0c2004f6d739b72672cdbf7e49edf32", func := "punchcut/punchcutlaw11.CmapBuilds", spec := "cmapBuilds", unfollowed := true, recurses := true, plainKeys := false, apart := false, narrowed := true }
def CmapBuildsUptoSaid : Prop := cmapBuildsUptoRow.holds Try.pinned (OpenSpec.upto cmapBuildsSpec)

/-- 'punchcutlaw11.CmapParses', WHERE WHAT IT READS IS OF BULK AT MOST 1048576: true; the input reads as it did. -/
def cmapParsesUptoRow : OpenClaim := { program := "ytmfobkiljlepjaa", sum := "f483b08a390805657b9ac88a93e99643b0c2004f6d739b72672cdbf7e49edf32", func := "punchcut/punchcutlaw11.CmapParses", spec := "cmapParses", unfollowed := true, recurses := true, plainKeys := false, apart := false, narrowed := true }
def CmapParsesUptoSaid : Prop := cmapParsesUptoRow.holds Try.pinned (OpenSpec.upto cmapParsesSpec)

/-- 'punchcutlaw11.CmapChooses', WHERE WHAT IT READS IS OF BULK AT MOST 1048576: true; the input reads as it did. -/
def cmapChoosesUptoRow : OpenClaim := { program := "ytmfobkiljlepjaa", sum := "f483b08a390805657b9ac88a93e99643b0c2004f6d739b72672cdbf7e49edf32", func := "punchcut/punchcutlaw11.CmapChooses", spec := "cmapChooses", unfollowed := true, recurses := true, plainKeys := false, apart := false, narrowed := true }
def CmapChoosesUptoSaid : Prop := cmapChoosesUptoRow.holds Try.pinned (OpenSpec.upto cmapChoosesSpec)

/-- 'punchcutlaw11.CmapBends', WHERE WHAT IT READS IS OF BULK AT MOST 1048576: true; the input reads as it did. -/
def cmapBendsUptoRow : OpenClaim := { program := "ytmfobkiljlepjaa", sum := "f483b08a390805657b9ac88a93e99643b0c2004f6d739b72672cdbf7e49edf32", func := "punchcut/punchcutlaw11.CmapBends", spec := "cmapBends", unfollowed := true, recurses := true, plainKeys := false, apart := false, narrowed := true }
def CmapBendsUptoSaid : Prop := cmapBendsUptoRow.holds Try.pinned (OpenSpec.upto cmapBendsSpec)

/-- 'punchcutlaw11.CmapWides', WHERE WHAT IT READS IS OF BULK AT MOST 1048576: true; the input reads as it did. -/
def cmapWidesUptoRow : OpenClaim := { program := "ytmfobkiljlepjaa", sum := "f483b08a390805657b9ac88a93e99643b0c2004f6d739b72672cdbf7e49edf32", func := "punchcut/punchcutlaw11.CmapWides", spec := "cmapWides", unfollowed := true, recurses := true, plainKeys := false, apart := false, narrowed := true }
def CmapWidesUptoSaid : Prop := cmapWidesUptoRow.holds Try.pinned (OpenSpec.upto cmapWidesSpec)

/-- 'punchcutlaw03.SfntRefuses', WHERE WHAT IT READS IS OF BULK AT MOST 1048576: true; the input reads as it did. -/
def sfntRefusesUptoRow : OpenClaim := { program := "ytmfobkiljlepjaa", sum := "f483b08a390805657b9ac88a93e99643b0c2004f6d739b72672cdbf7e49edf32", func := "punchcut/punchcutlaw03.SfntRefuses", spec := "sfntRefuses", inPlace := ["internal/bytealg.abigen_runtime_cmpstring"], unfollowed := true, recurses := true, plainKeys := false, apart := false, narrowed := true }
def SfntRefusesUptoSaid : Prop := sfntRefusesUptoRow.holds Try.pinned (OpenSpec.upto sfntRefusesSpec)

/-- 'punchcutlaw03.SfntBuilds', WHERE WHAT IT READS IS OF BULK AT MOST 1048576: true; the input reads as it did. -/
def sfntBuildsUptoRow : OpenClaim := { program := "ytmfobkiljlepjaa", sum := "f483b08a390805657b9ac88a93e99643b0c2004f6d739b72672cdbf7e49edf32", func := "punchcut/punchcutlaw03.SfntBuilds", spec := "sfntBuilds", inPlace := ["internal/bytealg.abigen_runtime_cmpstring"], unfollowed := true, recurses := true, plainKeys := false, apart := false, narrowed := true }
def SfntBuildsUptoSaid : Prop := sfntBuildsUptoRow.holds Try.pinned (OpenSpec.upto sfntBuildsSpec)

/-- 'punchcutlaw03.SfntParses', WHERE WHAT IT READS IS OF BULK AT MOST 1048576: true; the input reads as it did. -/
def sfntParsesUptoRow : OpenClaim := { program := "ytmfobkiljlepjaa", sum := "f483b08a390805657b9ac88a93e99643b0c2004f6d739b72672cdbf7e49edf32", func := "punchcut/punchcutlaw03.SfntParses", spec := "sfntParses", inPlace := ["internal/bytealg.abigen_runtime_cmpstring"], unfollowed := true, recurses := true, plainKeys := false, apart := false, narrowed := true }
def SfntParsesUptoSaid : Prop := sfntParsesUptoRow.holds Try.pinned (OpenSpec.upto sfntParsesSpec)

/-- 'punchcutlaw03.SfntOwns', WHERE WHAT IT READS IS OF BULK AT MOST 1048576: true; the input reads as it did. -/
def sfntOwnsUptoRow : OpenClaim := { program := "ytmfobkiljlepjaa", sum := "f483b08a390805657b9ac88a93e99643b0c2004f6d739b72672cdbf7e49edf32", func := "punchcut/punchcutlaw03.SfntOwns", spec := "sfntOwns", inPlace := ["internal/bytealg.abigen_runtime_cmpstring"], unfollowed := true, recurses := true, plainKeys := false, apart := false, narrowed := true }
def SfntOwnsUptoSaid : Prop := sfntOwnsUptoRow.holds Try.pinned (OpenSpec.upto sfntOwnsSpec)

end Rows
end Go.Proofs.Ytmfobkiljlepjaa
