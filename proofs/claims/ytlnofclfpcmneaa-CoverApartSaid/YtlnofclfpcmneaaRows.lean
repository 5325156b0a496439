/-
  No cell of these rows narrows 'for every input' (looked for: loops, veiled, ifaces, maps, wideKeys, modest, calm, conditions, laid).
  DERIVED. THE GIVEN ROWS OF THIS SEAT. 30 by the template 'for every input the law returns true; each argument reads behind the call as it read before'; 0 by the template 'total and deterministic' (their statements: YtlnofclfpcmneaaTotals.lean).
  GIVEN WITH THE SEED: the statements are not yours to turn. If you find one false, say at which input.
  Laid BY PROGRAM, IN A SANDBOX (cutbox-rows.mjs): the forced cells as the released guide's own fill.sh prints them over the translation 48e892defe39388b… (all of the seat's roots in one cut). By AI agents, Wed Nov 11 2026. No macro, syntax, notation, axiom, sorry.
-/
import Derived.Test.YtlnofclfpcmneaaChecked
import GoSem.Claim
import GoSem.ClaimJoined
import GoSem.ClaimMapViews
import Derived.JoinedTies
import Derived.KernelRfl
namespace Go.Proofs.Ytlnofclfpcmneaa
/- THE CELL 'sum', in the pinned program and in every row, IS THE sha256 OF THE DUMP (.gsa) THAT YtlnofclfpcmneaaProg.lean LOADS. Nothing in Lean hashes anything: it is a label: what it is worth is what the hold of that sum in a sandbox is worth. -/
noncomputable def Try.pinned : Pinned := { name := "ytlnofclfpcmneaa", sum := "48e892defe39388bdf055cc6050da44b572e3eda8b125a52870bd6ecaf560c7e", checked := Try.checked }
namespace Rows
def none {H : Type} : Left H := { results := [], args := [] }

/-- 'milepostlaw09.WirePuts': WHATEVER THE INPUT: true; the input reads as it did. -/
def wirePutsSpec : ChangeSpec := { name := "wirePuts", fn := fun _ => fun
  | [d1, d2, d3] => { results := [.lit (.bool true)], args := [d1, d2, d3] }
  | _ => none }
def wirePutsRow : OpenClaim := { program := "ytlnofclfpcmneaa", sum := "48e892defe39388bdf055cc6050da44b572e3eda8b125a52870bd6ecaf560c7e", func := "milepost/milepostlaw09.WirePuts", spec := "wirePuts", inPlace := ["internal/bytealg.MakeNoZero"], apart := false }
def WirePutsSaid : Prop := wirePutsRow.holds Try.pinned (OpenSpec.ofChange wirePutsSpec)

/-- ITS FALSE NEIGHBOUR: 'it returns false'. Refute it at one input. -/
def wirePutsWrong : ChangeSpec := { name := "wirePuts", fn := fun _ => fun
  | [d1, d2, d3] => { results := [.lit (.bool false)], args := [d1, d2, d3] }
  | _ => none }
def WirePutsWrongFalsely : Prop := wirePutsRow.holds Try.pinned (OpenSpec.ofChange wirePutsWrong)

/-- 'milepostlaw09.WireTakes': WHATEVER THE INPUT: true; the input reads as it did. -/
def wireTakesSpec : ChangeSpec := { name := "wireTakes", fn := fun _ => fun
  | [d1, d2, d3] => { results := [.lit (.bool true)], args := [d1, d2, d3] }
  | _ => none }
def wireTakesRow : OpenClaim := { program := "ytlnofclfpcmneaa", sum := "48e892defe39388bdf055cc6050da44b572e3eda8b125a52870bd6ecaf560c7e", func := "milepost/milepostlaw09.WireTakes", spec := "wireTakes", inPlace := ["internal/bytealg.MakeNoZero"], apart := false }
def WireTakesSaid : Prop := wireTakesRow.holds Try.pinned (OpenSpec.ofChange wireTakesSpec)

/-- ITS FALSE NEIGHBOUR: 'it returns false'. Refute it at one input. -/
def wireTakesWrong : ChangeSpec := { name := "wireTakes", fn := fun _ => fun
  | [d1, d2, d3] => { results := [.lit (.bool false)], args := [d1, d2, d3] }
  | _ => none }
def WireTakesWrongFalsely : Prop := wireTakesRow.holds Try.pinned (OpenSpec.ofChange wireTakesWrong)

/-- 'milepostlaw09.WireCubes': WHATEVER THE INPUT: true; the input reads as it did. -/
def wireCubesSpec : ChangeSpec := { name := "wireCubes", fn := fun _ => fun
  | [d1, d2, d3] => { results := [.lit (.bool true)], args := [d1, d2, d3] }
  | _ => none }
def wireCubesRow : OpenClaim := { program := "ytlnofclfpcmneaa", sum := "48e892defe39388bdf055cc6050da44b572e3eda8b125a52870bd6ecaf560c7e", func := "milepost/milepostlaw09.WireCubes", spec := "wireCubes", inPlace := ["internal/bytealg.MakeNoZero"], apart := false }
def WireCubesSaid : Prop := wireCubesRow.holds Try.pinned (OpenSpec.ofChange wireCubesSpec)

/-- ITS FALSE NEIGHBOUR: 'it returns false'. Refute it at one input. -/
def wireCubesWrong : ChangeSpec := { name := "wireCubes", fn := fun _ => fun
  | [d1, d2, d3] => { results := [.lit (.bool false)], args := [d1, d2, d3] }
  | _ => none }
def WireCubesWrongFalsely : Prop := wireCubesRow.holds Try.pinned (OpenSpec.ofChange wireCubesWrong)

/-- 'milepostlaw09.WireSeals': WHATEVER THE INPUT: true; the input reads as it did. -/
def wireSealsSpec : ChangeSpec := { name := "wireSeals", fn := fun _ => fun
  | [d1, d2, d3] => { results := [.lit (.bool true)], args := [d1, d2, d3] }
  | _ => none }
def wireSealsRow : OpenClaim := { program := "ytlnofclfpcmneaa", sum := "48e892defe39388bdf055cc6050da44b572e3eda8b125a52870bd6ecaf560c7e", func := "milepost/milepostlaw09.WireSeals", spec := "wireSeals", inPlace := ["internal/bytealg.MakeNoZero"], apart := false }
def WireSealsSaid : Prop := wireSealsRow.holds Try.pinned (OpenSpec.ofChange wireSealsSpec)

/-- ITS FALSE NEIGHBOUR: 'it returns false'. Refute it at one input. -/
def wireSealsWrong : ChangeSpec := { name := "wireSeals", fn := fun _ => fun
  | [d1, d2, d3] => { results := [.lit (.bool false)], args := [d1, d2, d3] }
  | _ => none }
def WireSealsWrongFalsely : Prop := wireSealsRow.holds Try.pinned (OpenSpec.ofChange wireSealsWrong)

/-- 'milepostlaw09.WireOpens': WHATEVER THE INPUT: true; the input reads as it did. -/
def wireOpensSpec : ChangeSpec := { name := "wireOpens", fn := fun _ => fun
  | [d] => { results := [.lit (.bool true)], args := [d] }
  | _ => none }
def wireOpensRow : OpenClaim := { program := "ytlnofclfpcmneaa", sum := "48e892defe39388bdf055cc6050da44b572e3eda8b125a52870bd6ecaf560c7e", func := "milepost/milepostlaw09.WireOpens", spec := "wireOpens", inPlace := ["internal/bytealg.MakeNoZero"], apart := false }
def WireOpensSaid : Prop := wireOpensRow.holds Try.pinned (OpenSpec.ofChange wireOpensSpec)

/-- ITS FALSE NEIGHBOUR: 'it returns false'. Refute it at one input. -/
def wireOpensWrong : ChangeSpec := { name := "wireOpens", fn := fun _ => fun
  | [d] => { results := [.lit (.bool false)], args := [d] }
  | _ => none }
def WireOpensWrongFalsely : Prop := wireOpensRow.holds Try.pinned (OpenSpec.ofChange wireOpensWrong)

/-- 'milepostlaw09.WireOwn': WHATEVER THE INPUT: true; the input reads as it did. -/
def wireOwnSpec : ChangeSpec := { name := "wireOwn", fn := fun _ => fun
  | [d1, d2] => { results := [.lit (.bool true)], args := [d1, d2] }
  | _ => none }
def wireOwnRow : OpenClaim := { program := "ytlnofclfpcmneaa", sum := "48e892defe39388bdf055cc6050da44b572e3eda8b125a52870bd6ecaf560c7e", func := "milepost/milepostlaw09.WireOwn", spec := "wireOwn", inPlace := ["internal/bytealg.MakeNoZero"], apart := false }
def WireOwnSaid : Prop := wireOwnRow.holds Try.pinned (OpenSpec.ofChange wireOwnSpec)

/-- ITS FALSE NEIGHBOUR: 'it returns false'. Refute it at one input. -/
def wireOwnWrong : ChangeSpec := { name := "wireOwn", fn := fun _ => fun
  | [d1, d2] => { results := [.lit (.bool false)], args := [d1, d2] }
  | _ => none }
def WireOwnWrongFalsely : Prop := wireOwnRow.holds Try.pinned (OpenSpec.ofChange wireOwnWrong)

/-- 'milepostlaw15.AroundAbout': WHATEVER THE INPUT: true; the input reads as it did. -/
def aroundAboutSpec : ChangeSpec := { name := "aroundAbout", fn := fun _ => fun
  | [d1, d2] => { results := [.lit (.bool true)], args := [d1, d2] }
  | _ => none }
def aroundAboutRow : OpenClaim := { program := "ytlnofclfpcmneaa", sum := "48e892defe39388bdf055cc6050da44b572e3eda8b125a52870bd6ecaf560c7e", func := "milepost/milepostlaw15.AroundAbout", spec := "aroundAbout", apart := false }
def AroundAboutSaid : Prop := aroundAboutRow.holds Try.pinned (OpenSpec.ofChange aroundAboutSpec)

/-- ITS FALSE NEIGHBOUR: 'it returns false'. Refute it at one input. -/
def aroundAboutWrong : ChangeSpec := { name := "aroundAbout", fn := fun _ => fun
  | [d1, d2] => { results := [.lit (.bool false)], args := [d1, d2] }
  | _ => none }
def AroundAboutWrongFalsely : Prop := aroundAboutRow.holds Try.pinned (OpenSpec.ofChange aroundAboutWrong)

/-- 'milepostlaw15.AroundMost': WHATEVER THE INPUT: true; the input reads as it did. -/
def aroundMostSpec : ChangeSpec := { name := "aroundMost", fn := fun _ => fun
  | [d1, d2, d3] => { results := [.lit (.bool true)], args := [d1, d2, d3] }
  | _ => none }
def aroundMostRow : OpenClaim := { program := "ytlnofclfpcmneaa", sum := "48e892defe39388bdf055cc6050da44b572e3eda8b125a52870bd6ecaf560c7e", func := "milepost/milepostlaw15.AroundMost", spec := "aroundMost", apart := false }
def AroundMostSaid : Prop := aroundMostRow.holds Try.pinned (OpenSpec.ofChange aroundMostSpec)

/-- ITS FALSE NEIGHBOUR: 'it returns false'. Refute it at one input. -/
def aroundMostWrong : ChangeSpec := { name := "aroundMost", fn := fun _ => fun
  | [d1, d2, d3] => { results := [.lit (.bool false)], args := [d1, d2, d3] }
  | _ => none }
def AroundMostWrongFalsely : Prop := aroundMostRow.holds Try.pinned (OpenSpec.ofChange aroundMostWrong)

/-- 'milepostlaw15.AroundSafe': WHATEVER THE INPUT: true; the input reads as it did. -/
def aroundSafeSpec : ChangeSpec := { name := "aroundSafe", fn := fun _ => fun
  | [d1, d2, d3] => { results := [.lit (.bool true)], args := [d1, d2, d3] }
  | _ => none }
def aroundSafeRow : OpenClaim := { program := "ytlnofclfpcmneaa", sum := "48e892defe39388bdf055cc6050da44b572e3eda8b125a52870bd6ecaf560c7e", func := "milepost/milepostlaw15.AroundSafe", spec := "aroundSafe", apart := false }
def AroundSafeSaid : Prop := aroundSafeRow.holds Try.pinned (OpenSpec.ofChange aroundSafeSpec)

/-- ITS FALSE NEIGHBOUR: 'it returns false'. Refute it at one input. -/
def aroundSafeWrong : ChangeSpec := { name := "aroundSafe", fn := fun _ => fun
  | [d1, d2, d3] => { results := [.lit (.bool false)], args := [d1, d2, d3] }
  | _ => none }
def AroundSafeWrongFalsely : Prop := aroundSafeRow.holds Try.pinned (OpenSpec.ofChange aroundSafeWrong)

/-- 'milepostlaw15.AroundTwice': WHATEVER THE INPUT: true; the input reads as it did. -/
def aroundTwiceSpec : ChangeSpec := { name := "aroundTwice", fn := fun _ => fun
  | [d1, d2, d3] => { results := [.lit (.bool true)], args := [d1, d2, d3] }
  | _ => none }
def aroundTwiceRow : OpenClaim := { program := "ytlnofclfpcmneaa", sum := "48e892defe39388bdf055cc6050da44b572e3eda8b125a52870bd6ecaf560c7e", func := "milepost/milepostlaw15.AroundTwice", spec := "aroundTwice", apart := false }
def AroundTwiceSaid : Prop := aroundTwiceRow.holds Try.pinned (OpenSpec.ofChange aroundTwiceSpec)

/-- ITS FALSE NEIGHBOUR: 'it returns false'. Refute it at one input. -/
def aroundTwiceWrong : ChangeSpec := { name := "aroundTwice", fn := fun _ => fun
  | [d1, d2, d3] => { results := [.lit (.bool false)], args := [d1, d2, d3] }
  | _ => none }
def AroundTwiceWrongFalsely : Prop := aroundTwiceRow.holds Try.pinned (OpenSpec.ofChange aroundTwiceWrong)

/-- 'milepostlaw02.CubeMeets': WHATEVER THE INPUT: true; the input reads as it did. -/
def cubeMeetsSpec : ChangeSpec := { name := "cubeMeets", fn := fun _ => fun
  | [d1, d2, d3] => { results := [.lit (.bool true)], args := [d1, d2, d3] }
  | _ => none }
def cubeMeetsRow : OpenClaim := { program := "ytlnofclfpcmneaa", sum := "48e892defe39388bdf055cc6050da44b572e3eda8b125a52870bd6ecaf560c7e", func := "milepost/milepostlaw02.CubeMeets", spec := "cubeMeets", apart := false }
def CubeMeetsSaid : Prop := cubeMeetsRow.holds Try.pinned (OpenSpec.ofChange cubeMeetsSpec)

/-- ITS FALSE NEIGHBOUR: 'it returns false'. Refute it at one input. -/
def cubeMeetsWrong : ChangeSpec := { name := "cubeMeets", fn := fun _ => fun
  | [d1, d2, d3] => { results := [.lit (.bool false)], args := [d1, d2, d3] }
  | _ => none }
def CubeMeetsWrongFalsely : Prop := cubeMeetsRow.holds Try.pinned (OpenSpec.ofChange cubeMeetsWrong)

/-- 'milepostlaw02.CubeFixes': WHATEVER THE INPUT: true; the input reads as it did. -/
def cubeFixesSpec : ChangeSpec := { name := "cubeFixes", fn := fun _ => fun
  | [d1, d2, d3, d4] => { results := [.lit (.bool true)], args := [d1, d2, d3, d4] }
  | _ => none }
def cubeFixesRow : OpenClaim := { program := "ytlnofclfpcmneaa", sum := "48e892defe39388bdf055cc6050da44b572e3eda8b125a52870bd6ecaf560c7e", func := "milepost/milepostlaw02.CubeFixes", spec := "cubeFixes", apart := false }
def CubeFixesSaid : Prop := cubeFixesRow.holds Try.pinned (OpenSpec.ofChange cubeFixesSpec)

/-- ITS FALSE NEIGHBOUR: 'it returns false'. Refute it at one input. -/
def cubeFixesWrong : ChangeSpec := { name := "cubeFixes", fn := fun _ => fun
  | [d1, d2, d3, d4] => { results := [.lit (.bool false)], args := [d1, d2, d3, d4] }
  | _ => none }
def CubeFixesWrongFalsely : Prop := cubeFixesRow.holds Try.pinned (OpenSpec.ofChange cubeFixesWrong)

/-- 'milepostlaw02.CubeMinus': WHATEVER THE INPUT: true; the input reads as it did. -/
def cubeMinusSpec : ChangeSpec := { name := "cubeMinus", fn := fun _ => fun
  | [d1, d2, d3] => { results := [.lit (.bool true)], args := [d1, d2, d3] }
  | _ => none }
def cubeMinusRow : OpenClaim := { program := "ytlnofclfpcmneaa", sum := "48e892defe39388bdf055cc6050da44b572e3eda8b125a52870bd6ecaf560c7e", func := "milepost/milepostlaw02.CubeMinus", spec := "cubeMinus", apart := false }
def CubeMinusSaid : Prop := cubeMinusRow.holds Try.pinned (OpenSpec.ofChange cubeMinusSpec)

/-- ITS FALSE NEIGHBOUR: 'it returns false'. Refute it at one input. -/
def cubeMinusWrong : ChangeSpec := { name := "cubeMinus", fn := fun _ => fun
  | [d1, d2, d3] => { results := [.lit (.bool false)], args := [d1, d2, d3] }
  | _ => none }
def CubeMinusWrongFalsely : Prop := cubeMinusRow.holds Try.pinned (OpenSpec.ofChange cubeMinusWrong)

/-- 'milepostlaw15.AroundNeeds': WHATEVER THE INPUT: true; the input reads as it did. -/
def aroundNeedsSpec : ChangeSpec := { name := "aroundNeeds", fn := fun _ => fun
  | [d1, d2] => { results := [.lit (.bool true)], args := [d1, d2] }
  | _ => none }
def aroundNeedsRow : OpenClaim := { program := "ytlnofclfpcmneaa", sum := "48e892defe39388bdf055cc6050da44b572e3eda8b125a52870bd6ecaf560c7e", func := "milepost/milepostlaw15.AroundNeeds", spec := "aroundNeeds", apart := false }
def AroundNeedsSaid : Prop := aroundNeedsRow.holds Try.pinned (OpenSpec.ofChange aroundNeedsSpec)

/-- ITS FALSE NEIGHBOUR: 'it returns false'. Refute it at one input. -/
def aroundNeedsWrong : ChangeSpec := { name := "aroundNeeds", fn := fun _ => fun
  | [d1, d2] => { results := [.lit (.bool false)], args := [d1, d2] }
  | _ => none }
def AroundNeedsWrongFalsely : Prop := aroundNeedsRow.holds Try.pinned (OpenSpec.ofChange aroundNeedsWrong)

/-- 'milepostlaw02.CubeWithin': WHATEVER THE INPUT: true; the input reads as it did. -/
def cubeWithinSpec : ChangeSpec := { name := "cubeWithin", fn := fun _ => fun
  | [d1, d2, d3] => { results := [.lit (.bool true)], args := [d1, d2, d3] }
  | _ => none }
def cubeWithinRow : OpenClaim := { program := "ytlnofclfpcmneaa", sum := "48e892defe39388bdf055cc6050da44b572e3eda8b125a52870bd6ecaf560c7e", func := "milepost/milepostlaw02.CubeWithin", spec := "cubeWithin", apart := false }
def CubeWithinSaid : Prop := cubeWithinRow.holds Try.pinned (OpenSpec.ofChange cubeWithinSpec)

/-- ITS FALSE NEIGHBOUR: 'it returns false'. Refute it at one input. -/
def cubeWithinWrong : ChangeSpec := { name := "cubeWithin", fn := fun _ => fun
  | [d1, d2, d3] => { results := [.lit (.bool false)], args := [d1, d2, d3] }
  | _ => none }
def CubeWithinWrongFalsely : Prop := cubeWithinRow.holds Try.pinned (OpenSpec.ofChange cubeWithinWrong)

/-- 'milepostlaw02.CubeHas': WHATEVER THE INPUT: true; the input reads as it did. -/
def cubeHasSpec : ChangeSpec := { name := "cubeHas", fn := fun _ => fun
  | [d1, d2] => { results := [.lit (.bool true)], args := [d1, d2] }
  | _ => none }
def cubeHasRow : OpenClaim := { program := "ytlnofclfpcmneaa", sum := "48e892defe39388bdf055cc6050da44b572e3eda8b125a52870bd6ecaf560c7e", func := "milepost/milepostlaw02.CubeHas", spec := "cubeHas", apart := false }
def CubeHasSaid : Prop := cubeHasRow.holds Try.pinned (OpenSpec.ofChange cubeHasSpec)

/-- ITS FALSE NEIGHBOUR: 'it returns false'. Refute it at one input. -/
def cubeHasWrong : ChangeSpec := { name := "cubeHas", fn := fun _ => fun
  | [d1, d2] => { results := [.lit (.bool false)], args := [d1, d2] }
  | _ => none }
def CubeHasWrongFalsely : Prop := cubeHasRow.holds Try.pinned (OpenSpec.ofChange cubeHasWrong)

/-- 'milepostlaw02.CubeEnds': WHATEVER THE INPUT: true; the input reads as it did. -/
def cubeEndsSpec : ChangeSpec := { name := "cubeEnds", fn := fun _ => fun
  | [d] => { results := [.lit (.bool true)], args := [d] }
  | _ => none }
def cubeEndsRow : OpenClaim := { program := "ytlnofclfpcmneaa", sum := "48e892defe39388bdf055cc6050da44b572e3eda8b125a52870bd6ecaf560c7e", func := "milepost/milepostlaw02.CubeEnds", spec := "cubeEnds", apart := false }
def CubeEndsSaid : Prop := cubeEndsRow.holds Try.pinned (OpenSpec.ofChange cubeEndsSpec)

/-- ITS FALSE NEIGHBOUR: 'it returns false'. Refute it at one input. -/
def cubeEndsWrong : ChangeSpec := { name := "cubeEnds", fn := fun _ => fun
  | [d] => { results := [.lit (.bool false)], args := [d] }
  | _ => none }
def CubeEndsWrongFalsely : Prop := cubeEndsRow.holds Try.pinned (OpenSpec.ofChange cubeEndsWrong)

/-- 'milepostlaw02.CubeTexts': WHATEVER THE INPUT: true; the input reads as it did. -/
def cubeTextsSpec : ChangeSpec := { name := "cubeTexts", fn := fun _ => fun
  | [d1, d2] => { results := [.lit (.bool true)], args := [d1, d2] }
  | _ => none }
def cubeTextsRow : OpenClaim := { program := "ytlnofclfpcmneaa", sum := "48e892defe39388bdf055cc6050da44b572e3eda8b125a52870bd6ecaf560c7e", func := "milepost/milepostlaw02.CubeTexts", spec := "cubeTexts", apart := false }
def CubeTextsSaid : Prop := cubeTextsRow.holds Try.pinned (OpenSpec.ofChange cubeTextsSpec)

/-- ITS FALSE NEIGHBOUR: 'it returns false'. Refute it at one input. -/
def cubeTextsWrong : ChangeSpec := { name := "cubeTexts", fn := fun _ => fun
  | [d1, d2] => { results := [.lit (.bool false)], args := [d1, d2] }
  | _ => none }
def CubeTextsWrongFalsely : Prop := cubeTextsRow.holds Try.pinned (OpenSpec.ofChange cubeTextsWrong)

/-- 'milepostlaw16.MsgRight': WHATEVER THE INPUT: true; the input reads as it did. -/
def msgRightSpec : ChangeSpec := { name := "msgRight", fn := fun _ => fun
  | [d] => { results := [.lit (.bool true)], args := [d] }
  | _ => none }
def msgRightRow : OpenClaim := { program := "ytlnofclfpcmneaa", sum := "48e892defe39388bdf055cc6050da44b572e3eda8b125a52870bd6ecaf560c7e", func := "milepost/milepostlaw16.MsgRight", spec := "msgRight", inPlace := ["internal/bytealg.MakeNoZero"], apart := false }
def MsgRightSaid : Prop := msgRightRow.holds Try.pinned (OpenSpec.ofChange msgRightSpec)

/-- ITS FALSE NEIGHBOUR: 'it returns false'. Refute it at one input. -/
def msgRightWrong : ChangeSpec := { name := "msgRight", fn := fun _ => fun
  | [d] => { results := [.lit (.bool false)], args := [d] }
  | _ => none }
def MsgRightWrongFalsely : Prop := msgRightRow.holds Try.pinned (OpenSpec.ofChange msgRightWrong)

/-- 'milepostlaw16.MsgUnlike': WHATEVER THE INPUT: true; the input reads as it did. -/
def msgUnlikeSpec : ChangeSpec := { name := "msgUnlike", fn := fun _ => fun
  | [d1, d2] => { results := [.lit (.bool true)], args := [d1, d2] }
  | _ => none }
def msgUnlikeRow : OpenClaim := { program := "ytlnofclfpcmneaa", sum := "48e892defe39388bdf055cc6050da44b572e3eda8b125a52870bd6ecaf560c7e", func := "milepost/milepostlaw16.MsgUnlike", spec := "msgUnlike", inPlace := ["internal/bytealg.MakeNoZero"], apart := false }
def MsgUnlikeSaid : Prop := msgUnlikeRow.holds Try.pinned (OpenSpec.ofChange msgUnlikeSpec)

/-- ITS FALSE NEIGHBOUR: 'it returns false'. Refute it at one input. -/
def msgUnlikeWrong : ChangeSpec := { name := "msgUnlike", fn := fun _ => fun
  | [d1, d2] => { results := [.lit (.bool false)], args := [d1, d2] }
  | _ => none }
def MsgUnlikeWrongFalsely : Prop := msgUnlikeRow.holds Try.pinned (OpenSpec.ofChange msgUnlikeWrong)

/-- 'milepostlaw02.CubeOne': WHATEVER THE INPUT: true; the input reads as it did. -/
def cubeOneSpec : ChangeSpec := { name := "cubeOne", fn := fun _ => fun
  | [d1, d2] => { results := [.lit (.bool true)], args := [d1, d2] }
  | _ => none }
def cubeOneRow : OpenClaim := { program := "ytlnofclfpcmneaa", sum := "48e892defe39388bdf055cc6050da44b572e3eda8b125a52870bd6ecaf560c7e", func := "milepost/milepostlaw02.CubeOne", spec := "cubeOne", apart := false }
def CubeOneSaid : Prop := cubeOneRow.holds Try.pinned (OpenSpec.ofChange cubeOneSpec)

/-- ITS FALSE NEIGHBOUR: 'it returns false'. Refute it at one input. -/
def cubeOneWrong : ChangeSpec := { name := "cubeOne", fn := fun _ => fun
  | [d1, d2] => { results := [.lit (.bool false)], args := [d1, d2] }
  | _ => none }
def CubeOneWrongFalsely : Prop := cubeOneRow.holds Try.pinned (OpenSpec.ofChange cubeOneWrong)

/-- 'milepostlaw03.CoverLeft': WHATEVER THE INPUT: true; the input reads as it did. -/
def coverLeftSpec : ChangeSpec := { name := "coverLeft", fn := fun _ => fun
  | [d1, d2, d3] => { results := [.lit (.bool true)], args := [d1, d2, d3] }
  | _ => none }
def coverLeftRow : OpenClaim := { program := "ytlnofclfpcmneaa", sum := "48e892defe39388bdf055cc6050da44b572e3eda8b125a52870bd6ecaf560c7e", func := "milepost/milepostlaw03.CoverLeft", spec := "coverLeft", apart := false }
def CoverLeftSaid : Prop := coverLeftRow.holds Try.pinned (OpenSpec.ofChange coverLeftSpec)

/-- ITS FALSE NEIGHBOUR: 'it returns false'. Refute it at one input. -/
def coverLeftWrong : ChangeSpec := { name := "coverLeft", fn := fun _ => fun
  | [d1, d2, d3] => { results := [.lit (.bool false)], args := [d1, d2, d3] }
  | _ => none }
def CoverLeftWrongFalsely : Prop := coverLeftRow.holds Try.pinned (OpenSpec.ofChange coverLeftWrong)

/-- 'milepostlaw03.CoverApart': WHATEVER THE INPUT: true; the input reads as it did. -/
def coverApartSpec : ChangeSpec := { name := "coverApart", fn := fun _ => fun
  | [d1, d2] => { results := [.lit (.bool true)], args := [d1, d2] }
  | _ => none }
def coverApartRow : OpenClaim := { program := "ytlnofclfpcmneaa", sum := "48e892defe39388bdf055cc6050da44b572e3eda8b125a52870bd6ecaf560c7e", func := "milepost/milepostlaw03.CoverApart", spec := "coverApart", apart := false }
def CoverApartSaid : Prop := coverApartRow.holds Try.pinned (OpenSpec.ofChange coverApartSpec)

/-- ITS FALSE NEIGHBOUR: 'it returns false'. Refute it at one input. -/
def coverApartWrong : ChangeSpec := { name := "coverApart", fn := fun _ => fun
  | [d1, d2] => { results := [.lit (.bool false)], args := [d1, d2] }
  | _ => none }
def CoverApartWrongFalsely : Prop := coverApartRow.holds Try.pinned (OpenSpec.ofChange coverApartWrong)

/-- 'milepostlaw03.CoverPieces': WHATEVER THE INPUT: true; the input reads as it did. -/
def coverPiecesSpec : ChangeSpec := { name := "coverPieces", fn := fun _ => fun
  | [d1, d2, d3] => { results := [.lit (.bool true)], args := [d1, d2, d3] }
  | _ => none }
def coverPiecesRow : OpenClaim := { program := "ytlnofclfpcmneaa", sum := "48e892defe39388bdf055cc6050da44b572e3eda8b125a52870bd6ecaf560c7e", func := "milepost/milepostlaw03.CoverPieces", spec := "coverPieces", unfollowed := true, recurses := true, apart := false }
def CoverPiecesSaid : Prop := coverPiecesRow.holds Try.pinned (OpenSpec.ofChange coverPiecesSpec)

/-- ITS FALSE NEIGHBOUR: 'it returns false'. Refute it at one input. -/
def coverPiecesWrong : ChangeSpec := { name := "coverPieces", fn := fun _ => fun
  | [d1, d2, d3] => { results := [.lit (.bool false)], args := [d1, d2, d3] }
  | _ => none }
def CoverPiecesWrongFalsely : Prop := coverPiecesRow.holds Try.pinned (OpenSpec.ofChange coverPiecesWrong)

/-- 'milepostlaw03.CoverCovers': WHATEVER THE INPUT: true; the input reads as it did. -/
def coverCoversSpec : ChangeSpec := { name := "coverCovers", fn := fun _ => fun
  | [d1, d2, d3] => { results := [.lit (.bool true)], args := [d1, d2, d3] }
  | _ => none }
def coverCoversRow : OpenClaim := { program := "ytlnofclfpcmneaa", sum := "48e892defe39388bdf055cc6050da44b572e3eda8b125a52870bd6ecaf560c7e", func := "milepost/milepostlaw03.CoverCovers", spec := "coverCovers", unfollowed := true, recurses := true, apart := false }
def CoverCoversSaid : Prop := coverCoversRow.holds Try.pinned (OpenSpec.ofChange coverCoversSpec)

/-- ITS FALSE NEIGHBOUR: 'it returns false'. Refute it at one input. -/
def coverCoversWrong : ChangeSpec := { name := "coverCovers", fn := fun _ => fun
  | [d1, d2, d3] => { results := [.lit (.bool false)], args := [d1, d2, d3] }
  | _ => none }
def CoverCoversWrongFalsely : Prop := coverCoversRow.holds Try.pinned (OpenSpec.ofChange coverCoversWrong)

/-- 'milepostlaw03.CoverHas': WHATEVER THE INPUT: true; the input reads as it did. -/
def coverHasSpec : ChangeSpec := { name := "coverHas", fn := fun _ => fun
  | [d1, d2] => { results := [.lit (.bool true)], args := [d1, d2] }
  | _ => none }
def coverHasRow : OpenClaim := { program := "ytlnofclfpcmneaa", sum := "48e892defe39388bdf055cc6050da44b572e3eda8b125a52870bd6ecaf560c7e", func := "milepost/milepostlaw03.CoverHas", spec := "coverHas", unfollowed := true, recurses := true, apart := false }
def CoverHasSaid : Prop := coverHasRow.holds Try.pinned (OpenSpec.ofChange coverHasSpec)

/-- ITS FALSE NEIGHBOUR: 'it returns false'. Refute it at one input. -/
def coverHasWrong : ChangeSpec := { name := "coverHas", fn := fun _ => fun
  | [d1, d2] => { results := [.lit (.bool false)], args := [d1, d2] }
  | _ => none }
def CoverHasWrongFalsely : Prop := coverHasRow.holds Try.pinned (OpenSpec.ofChange coverHasWrong)

/-- 'milepostlaw03.CoverSame': WHATEVER THE INPUT: true; the input reads as it did. -/
def coverSameSpec : ChangeSpec := { name := "coverSame", fn := fun _ => fun
  | [d1, d2, d3] => { results := [.lit (.bool true)], args := [d1, d2, d3] }
  | _ => none }
def coverSameRow : OpenClaim := { program := "ytlnofclfpcmneaa", sum := "48e892defe39388bdf055cc6050da44b572e3eda8b125a52870bd6ecaf560c7e", func := "milepost/milepostlaw03.CoverSame", spec := "coverSame", unfollowed := true, recurses := true, apart := false }
def CoverSameSaid : Prop := coverSameRow.holds Try.pinned (OpenSpec.ofChange coverSameSpec)

/-- ITS FALSE NEIGHBOUR: 'it returns false'. Refute it at one input. -/
def coverSameWrong : ChangeSpec := { name := "coverSame", fn := fun _ => fun
  | [d1, d2, d3] => { results := [.lit (.bool false)], args := [d1, d2, d3] }
  | _ => none }
def CoverSameWrongFalsely : Prop := coverSameRow.holds Try.pinned (OpenSpec.ofChange coverSameWrong)

/-- 'milepostlaw16.MsgBack': WHATEVER THE INPUT: true; the input reads as it did. -/
def msgBackSpec : ChangeSpec := { name := "msgBack", fn := fun _ => fun
  | [d] => { results := [.lit (.bool true)], args := [d] }
  | _ => none }
def msgBackRow : OpenClaim := { program := "ytlnofclfpcmneaa", sum := "48e892defe39388bdf055cc6050da44b572e3eda8b125a52870bd6ecaf560c7e", func := "milepost/milepostlaw16.MsgBack", spec := "msgBack", inPlace := ["internal/bytealg.MakeNoZero"], apart := false }
def MsgBackSaid : Prop := msgBackRow.holds Try.pinned (OpenSpec.ofChange msgBackSpec)

/-- ITS FALSE NEIGHBOUR: 'it returns false'. Refute it at one input. -/
def msgBackWrong : ChangeSpec := { name := "msgBack", fn := fun _ => fun
  | [d] => { results := [.lit (.bool false)], args := [d] }
  | _ => none }
def MsgBackWrongFalsely : Prop := msgBackRow.holds Try.pinned (OpenSpec.ofChange msgBackWrong)

/-- 'milepostlaw16.MsgReads': WHATEVER THE INPUT: true; the input reads as it did. -/
def msgReadsSpec : ChangeSpec := { name := "msgReads", fn := fun _ => fun
  | [d] => { results := [.lit (.bool true)], args := [d] }
  | _ => none }
def msgReadsRow : OpenClaim := { program := "ytlnofclfpcmneaa", sum := "48e892defe39388bdf055cc6050da44b572e3eda8b125a52870bd6ecaf560c7e", func := "milepost/milepostlaw16.MsgReads", spec := "msgReads", inPlace := ["internal/bytealg.MakeNoZero"], apart := false }
def MsgReadsSaid : Prop := msgReadsRow.holds Try.pinned (OpenSpec.ofChange msgReadsSpec)

/-- ITS FALSE NEIGHBOUR: 'it returns false'. Refute it at one input. -/
def msgReadsWrong : ChangeSpec := { name := "msgReads", fn := fun _ => fun
  | [d] => { results := [.lit (.bool false)], args := [d] }
  | _ => none }
def MsgReadsWrongFalsely : Prop := msgReadsRow.holds Try.pinned (OpenSpec.ofChange msgReadsWrong)

/-- 'milepostlaw16.MsgCut': WHATEVER THE INPUT: true; the input reads as it did. -/
def msgCutSpec : ChangeSpec := { name := "msgCut", fn := fun _ => fun
  | [d1, d2] => { results := [.lit (.bool true)], args := [d1, d2] }
  | _ => none }
def msgCutRow : OpenClaim := { program := "ytlnofclfpcmneaa", sum := "48e892defe39388bdf055cc6050da44b572e3eda8b125a52870bd6ecaf560c7e", func := "milepost/milepostlaw16.MsgCut", spec := "msgCut", inPlace := ["internal/bytealg.MakeNoZero"], apart := false }
def MsgCutSaid : Prop := msgCutRow.holds Try.pinned (OpenSpec.ofChange msgCutSpec)

/-- ITS FALSE NEIGHBOUR: 'it returns false'. Refute it at one input. -/
def msgCutWrong : ChangeSpec := { name := "msgCut", fn := fun _ => fun
  | [d1, d2] => { results := [.lit (.bool false)], args := [d1, d2] }
  | _ => none }
def MsgCutWrongFalsely : Prop := msgCutRow.holds Try.pinned (OpenSpec.ofChange msgCutWrong)

/- THE SECOND FORM. 'bulk': how many values and letters a reading holds, each counted each time it is reached (what is shared counts as often as it is met; a slice's spare places count too). A statement '..UptoSaid' is the law's where the arguments, and the package variables that the reading takes, are together of bulk at most 1048576: NARROWER than '..Said'. Prove '..Said' where nothing that the law and all that it calls make is longer than what came in: it says more and counts as full. Else prove '..UptoSaid'. A law counts once. -/
mutual
def uptoBulk {H : Type} : DataW H → Nat
  | .lit (.string bytes) => bytes.length + 1
  | .lit _ => 1
  | .nil => 1
  | .ptr d => uptoBulk d + 1
  | .slice elems spare => uptoBulkAll elems + uptoBulkAll spare + 1
  | .agg parts => uptoBulkAll parts + 1
  | .iface _ d => uptoBulk d + 1
  | .map entries => uptoBulkEntries entries + 1
  | .held _ => 1
def uptoBulkAll {H : Type} : List (DataW H) → Nat
  | [] => 0
  | d :: r => uptoBulk d + uptoBulkAll r
def uptoBulkEntries {H : Type} : List (Lit × DataW H) → Nat
  | [] => 0
  | x :: r => uptoBulkEntry x + uptoBulkEntries r
def uptoBulkEntry {H : Type} : Lit × DataW H → Nat
  | (.string bytes, d) => bytes.length + uptoBulk d + 1
  | (_, d) => uptoBulk d + 1
 end
def uptoSmall : (H : Type) → List (DataW H) → Bool := fun _ ds => decide (uptoBulkAll ds ≤ 1048576)
def OpenSpec.upto (s : _root_.Go.ChangeSpec) : _root_.Go.OpenSpec := { _root_.Go.OpenSpec.ofChange s with cond := some uptoSmall }

/-- 'milepostlaw09.WirePuts', WHERE WHAT IT READS IS OF BULK AT MOST 1048576: true; the input reads as it did. -/
def wirePutsUptoRow : OpenClaim := { program := "ytlnofclfpcmneaa", sum := "48e892defe39388bdf055cc6050da44b572e3eda8b125a52870bd6ecaf560c7e", func := "milepost/milepostlaw09.WirePuts", spec := "wirePuts", inPlace := ["internal/bytealg.MakeNoZero"], apart := false, narrowed := true }
def WirePutsUptoSaid : Prop := wirePutsUptoRow.holds Try.pinned (OpenSpec.upto wirePutsSpec)

/-- 'milepostlaw09.WireTakes', WHERE WHAT IT READS IS OF BULK AT MOST 1048576: true; the input reads as it did. -/
def wireTakesUptoRow : OpenClaim := { program := "ytlnofclfpcmneaa", sum := "48e892defe39388bdf055cc6050da44b572e3eda8b125a52870bd6ecaf560c7e", func := "milepost/milepostlaw09.WireTakes", spec := "wireTakes", inPlace := ["internal/bytealg.MakeNoZero"], apart := false, narrowed := true }
def WireTakesUptoSaid : Prop := wireTakesUptoRow.holds Try.pinned (OpenSpec.upto wireTakesSpec)

/-- 'milepostlaw09.WireCubes', WHERE WHAT IT READS IS OF BULK AT MOST 1048576: true; the input reads as it did. -/
def wireCubesUptoRow : OpenClaim := { program := "ytlnofclfpcmneaa", sum := "48e892defe39388bdf055cc6050da44b572e3eda8b125a52870bd6ecaf560c7e", func := "milepost/milepostlaw09.WireCubes", spec := "wireCubes", inPlace := ["internal/bytealg.MakeNoZero"], apart := false, narrowed := true }
def WireCubesUptoSaid : Prop := wireCubesUptoRow.holds Try.pinned (OpenSpec.upto wireCubesSpec)

/-- 'milepostlaw09.WireSeals', WHERE WHAT IT READS IS OF BULK AT MOST 1048576: true; the input reads as it did. -/
def wireSealsUptoRow : OpenClaim := { program := "ytlnofclfpcmneaa", sum := "48e892defe39388bdf055cc6050da44b572e3eda8b125a52870bd6ecaf560c7e", func := "milepost/milepostlaw09.WireSeals", spec := "wireSeals", inPlace := ["internal/bytealg.MakeNoZero"], apart := false, narrowed := true }
def WireSealsUptoSaid : Prop := wireSealsUptoRow.holds Try.pinned (OpenSpec.upto wireSealsSpec)

/-- 'milepostlaw09.WireOpens', WHERE WHAT IT READS IS OF BULK AT MOST 1048576: true; the input reads as it did. -/
def wireOpensUptoRow : OpenClaim := { program := "ytlnofclfpcmneaa", sum := "48e892defe39388bdf055cc6050da44b572e3eda8b125a52870bd6ecaf560c7e", func := "milepost/milepostlaw09.WireOpens", spec := "wireOpens", inPlace := ["internal/bytealg.MakeNoZero"], apart := false, narrowed := true }
def WireOpensUptoSaid : Prop := wireOpensUptoRow.holds Try.pinned (OpenSpec.upto wireOpensSpec)

/-- 'milepostlaw09.WireOwn', WHERE WHAT IT READS IS OF BULK AT MOST 1048576: true; the input reads as it did. -/
def wireOwnUptoRow : OpenClaim := { program := "ytlnofclfpcmneaa", sum := "48e892defe39388bdf055cc6050da44b572e3eda8b125a52870bd6ecaf560c7e", func := "milepost/milepostlaw09.WireOwn", spec := "wireOwn", inPlace := ["internal/bytealg.MakeNoZero"], apart := false, narrowed := true }
def WireOwnUptoSaid : Prop := wireOwnUptoRow.holds Try.pinned (OpenSpec.upto wireOwnSpec)

/-- 'milepostlaw15.AroundAbout', WHERE WHAT IT READS IS OF BULK AT MOST 1048576: true; the input reads as it did. -/
def aroundAboutUptoRow : OpenClaim := { program := "ytlnofclfpcmneaa", sum := "48e892defe39388bdf055cc6050da44b572e3eda8b125a52870bd6ecaf560c7e", func := "milepost/milepostlaw15.AroundAbout", spec := "aroundAbout", apart := false, narrowed := true }
def AroundAboutUptoSaid : Prop := aroundAboutUptoRow.holds Try.pinned (OpenSpec.upto aroundAboutSpec)

/-- 'milepostlaw15.AroundMost', WHERE WHAT IT READS IS OF BULK AT MOST 1048576: true; the input reads as it did. -/
def aroundMostUptoRow : OpenClaim := { program := "ytlnofclfpcmneaa", sum := "48e892defe39388bdf055cc6050da44b572e3eda8b125a52870bd6ecaf560c7e", func := "milepost/milepostlaw15.AroundMost", spec := "aroundMost", apart := false, narrowed := true }
def AroundMostUptoSaid : Prop := aroundMostUptoRow.holds Try.pinned (OpenSpec.upto aroundMostSpec)

/-- 'milepostlaw15.AroundSafe', WHERE WHAT IT READS IS OF BULK AT MOST 1048576: true; the input reads as it did. -/
def aroundSafeUptoRow : OpenClaim := { program := "ytlnofclfpcmneaa", sum := "48e892defe39388bdf055cc6050da44b572e3eda8b125a52870bd6ecaf560c7e", func := "milepost/milepostlaw15.AroundSafe", spec := "aroundSafe", apart := false, narrowed := true }
def AroundSafeUptoSaid : Prop := aroundSafeUptoRow.holds Try.pinned (OpenSpec.upto aroundSafeSpec)

/-- 'milepostlaw15.AroundTwice', WHERE WHAT IT READS IS OF BULK AT MOST 1048576: true; the input reads as it did. -/
def aroundTwiceUptoRow : OpenClaim := { program := "ytlnofclfpcmneaa", sum := "48e892defe39388bdf055cc6050da44b572e3eda8b125a52870bd6ecaf560c7e", func := "milepost/milepostlaw15.AroundTwice", spec := "aroundTwice", apart := false, narrowed := true }
def AroundTwiceUptoSaid : Prop := aroundTwiceUptoRow.holds Try.pinned (OpenSpec.upto aroundTwiceSpec)

/-- 'milepostlaw02.CubeMeets', WHERE WHAT IT READS IS OF BULK AT MOST 1048576: true; the input reads as it did. -/
def cubeMeetsUptoRow : OpenClaim := { program := "ytlnofclfpcmneaa", sum := "48e892defe39388bdf055cc6050da44b572e3eda8b125a52870bd6ecaf560c7e", func := "milepost/milepostlaw02.CubeMeets", spec := "cubeMeets", apart := false, narrowed := true }
def CubeMeetsUptoSaid : Prop := cubeMeetsUptoRow.holds Try.pinned (OpenSpec.upto cubeMeetsSpec)

/-- 'milepostlaw02.CubeFixes', WHERE WHAT IT READS IS OF BULK AT MOST 1048576: true; the input reads as it did. -/
def cubeFixesUptoRow : OpenClaim := { program := "ytlnofclfpcmneaa", sum := "48e892defe39388bdf055cc6050da44b572e3eda8b125a52870bd6ecaf560c7e", func := "milepost/milepostlaw02.CubeFixes", spec := "cubeFixes", apart := false, narrowed := true }
def CubeFixesUptoSaid : Prop := cubeFixesUptoRow.holds Try.pinned (OpenSpec.upto cubeFixesSpec)

/-- 'milepostlaw02.CubeMinus', WHERE WHAT IT READS IS OF BULK AT MOST 1048576: true; the input reads as it did. -/
def cubeMinusUptoRow : OpenClaim := { program := "ytlnofclfpcmneaa", sum := "48e892defe39388bdf055cc6050da44b572e3eda8b125a52870bd6ecaf560c7e", func := "milepost/milepostlaw02.CubeMinus", spec := "cubeMinus", apart := false, narrowed := true }
def CubeMinusUptoSaid : Prop := cubeMinusUptoRow.holds Try.pinned (OpenSpec.upto cubeMinusSpec)

/-- 'milepostlaw15.AroundNeeds', WHERE WHAT IT READS IS OF BULK AT MOST 1048576: true; the input reads as it did. -/
def aroundNeedsUptoRow : OpenClaim := { program := "ytlnofclfpcmneaa", sum := "48e892defe39388bdf055cc6050da44b572e3eda8b125a52870bd6ecaf560c7e", func := "milepost/milepostlaw15.AroundNeeds", spec := "aroundNeeds", apart := false, narrowed := true }
def AroundNeedsUptoSaid : Prop := aroundNeedsUptoRow.holds Try.pinned (OpenSpec.upto aroundNeedsSpec)

/-- 'milepostlaw02.CubeWithin', WHERE WHAT IT READS IS OF BULK AT MOST 1048576: true; the input reads as it did. -/
def cubeWithinUptoRow : OpenClaim := { program := "ytlnofclfpcmneaa", sum := "48e892defe39388bdf055cc6050da44b572e3eda8b125a52870bd6ecaf560c7e", func := "milepost/milepostlaw02.CubeWithin", spec := "cubeWithin", apart := false, narrowed := true }
def CubeWithinUptoSaid : Prop := cubeWithinUptoRow.holds Try.pinned (OpenSpec.upto cubeWithinSpec)

/-- 'milepostlaw02.CubeHas', WHERE WHAT IT READS IS OF BULK AT MOST 1048576: true; the input reads as it did. -/
def cubeHasUptoRow : OpenClaim := { program := "ytlnofclfpcmneaa", sum := "48e892defe39388bdf055cc6050da44b572e3eda8b125a52870bd6ecaf560c7e", func := "milepost/milepostlaw02.CubeHas", spec := "cubeHas", apart := false, narrowed := true }
def CubeHasUptoSaid : Prop := cubeHasUptoRow.holds Try.pinned (OpenSpec.upto cubeHasSpec)

/-- 'milepostlaw02.CubeEnds', WHERE WHAT IT READS IS OF BULK AT MOST 1048576: true; the input reads as it did. -/
def cubeEndsUptoRow : OpenClaim := { program := "ytlnofclfpcmneaa", sum := "48e892defe39388bdf055cc6050da44b572e3eda8b125a52870bd6ecaf560c7e", func := "milepost/milepostlaw02.CubeEnds", spec := "cubeEnds", apart := false, narrowed := true }
def CubeEndsUptoSaid : Prop := cubeEndsUptoRow.holds Try.pinned (OpenSpec.upto cubeEndsSpec)

/-- 'milepostlaw02.CubeTexts', WHERE WHAT IT READS IS OF BULK AT MOST 1048576: true; the input reads as it did. -/
def cubeTextsUptoRow : OpenClaim := { program := "ytlnofclfpcmneaa", sum := "48e892defe39388bdf055cc6050da44b572e3eda8b125a52870bd6ecaf560c7e", func := "milepost/milepostlaw02.CubeTexts", spec := "cubeTexts", apart := false, narrowed := true }
def CubeTextsUptoSaid : Prop := cubeTextsUptoRow.holds Try.pinned (OpenSpec.upto cubeTextsSpec)

/-- 'milepostlaw16.MsgRight', WHERE WHAT IT READS IS OF BULK AT MOST 1048576: true; the input reads as it did. -/
def msgRightUptoRow : OpenClaim := { program := "ytlnofclfpcmneaa", sum := "48e892defe39388bdf055cc6050da44b572e3eda8b125a52870bd6ecaf560c7e", func := "milepost/milepostlaw16.MsgRight", spec := "msgRight", inPlace := ["internal/bytealg.MakeNoZero"], apart := false, narrowed := true }
def MsgRightUptoSaid : Prop := msgRightUptoRow.holds Try.pinned (OpenSpec.upto msgRightSpec)

/-- 'milepostlaw16.MsgUnlike', WHERE WHAT IT READS IS OF BULK AT MOST 1048576: true; the input reads as it did. -/
def msgUnlikeUptoRow : OpenClaim := { program := "ytlnofclfpcmneaa", sum := "48e892defe39388bdf055cc6050da44b572e3eda8b125a52870bd6ecaf560c7e", func := "milepost/milepostlaw16.MsgUnlike", spec := "msgUnlike", inPlace := ["internal/bytealg.MakeNoZero"], apart := false, narrowed := true }
def MsgUnlikeUptoSaid : Prop := msgUnlikeUptoRow.holds Try.pinned (OpenSpec.upto msgUnlikeSpec)

/-- 'milepostlaw02.CubeOne', WHERE WHAT IT READS IS OF BULK AT MOST 1048576: true; the input reads as it did. -/
def cubeOneUptoRow : OpenClaim := { program := "ytlnofclfpcmneaa", sum := "48e892defe39388bdf055cc6050da44b572e3eda8b125a52870bd6ecaf560c7e", func := "milepost/milepostlaw02.CubeOne", spec := "cubeOne", apart := false, narrowed := true }
def CubeOneUptoSaid : Prop := cubeOneUptoRow.holds Try.pinned (OpenSpec.upto cubeOneSpec)

/-- 'milepostlaw03.CoverLeft', WHERE WHAT IT READS IS OF BULK AT MOST 1048576: true; the input reads as it did. -/
def coverLeftUptoRow : OpenClaim := { program := "ytlnofclfpcmneaa", sum := "48e892defe39388bdf055cc6050da44b572e3eda8b125a52870bd6ecaf560c7e", func := "milepost/milepostlaw03.CoverLeft", spec := "coverLeft", apart := false, narrowed := true }
def CoverLeftUptoSaid : Prop := coverLeftUptoRow.holds Try.pinned (OpenSpec.upto coverLeftSpec)

/-- 'milepostlaw03.CoverApart', WHERE WHAT IT READS IS OF BULK AT MOST 1048576: true; the input reads as it did. -/
def coverApartUptoRow : OpenClaim := { program := "ytlnofclfpcmneaa", sum := "48e892defe39388bdf055cc6050da44b572e3eda8b125a52870bd6ecaf560c7e", func := "milepost/milepostlaw03.CoverApart", spec := "coverApart", apart := false, narrowed := true }
def CoverApartUptoSaid : Prop := coverApartUptoRow.holds Try.pinned (OpenSpec.upto coverApartSpec)

/-- 'milepostlaw03.CoverPieces', WHERE WHAT IT READS IS OF BULK AT MOST 1048576: true; the input reads as it did. -/
def coverPiecesUptoRow : OpenClaim := { program := "ytlnofclfpcmneaa", sum := "48e892defe39388bdf055cc6050da44b572e3eda8b125a52870bd6ecaf560c7e", func := "milepost/milepostlaw03.CoverPieces", spec := "coverPieces", unfollowed := true, recurses := true, apart := false, narrowed := true }
def CoverPiecesUptoSaid : Prop := coverPiecesUptoRow.holds Try.pinned (OpenSpec.upto coverPiecesSpec)

/-- 'milepostlaw03.CoverCovers', WHERE WHAT IT READS IS OF BULK AT MOST 1048576: true; the input reads as it did. -/
def coverCoversUptoRow : OpenClaim := { program := "ytlnofclfpcmneaa", sum := "48e892defe39388bdf055cc6050da44b572e3eda8b125a52870bd6ecaf560c7e", func := "milepost/milepostlaw03.CoverCovers", spec := "coverCovers", unfollowed := true, recurses := true, apart := false, narrowed := true }
def CoverCoversUptoSaid : Prop := coverCoversUptoRow.holds Try.pinned (OpenSpec.upto coverCoversSpec)

/-- 'milepostlaw03.CoverHas', WHERE WHAT IT READS IS OF BULK AT MOST 1048576: true; the input reads as it did. -/
def coverHasUptoRow : OpenClaim := { program := "ytlnofclfpcmneaa", sum := "48e892defe39388bdf055cc6050da44b572e3eda8b125a52870bd6ecaf560c7e", func := "milepost/milepostlaw03.CoverHas", spec := "coverHas", unfollowed := true, recurses := true, apart := false, narrowed := true }
def CoverHasUptoSaid : Prop := coverHasUptoRow.holds Try.pinned (OpenSpec.upto coverHasSpec)

/-- 'milepostlaw03.CoverSame', WHERE WHAT IT READS IS OF BULK AT MOST 1048576: true; the input reads as it did. -/
def coverSameUptoRow : OpenClaim := { program := "ytlnofclfpcmneaa", sum := "48e892defe39388bdf055cc6050da44b572e3eda8b125a52870bd6ecaf560c7e", func := "milepost/milepostlaw03.CoverSame", spec := "coverSame", unfollowed := true, recurses := true, apart := false, narrowed := true }
def CoverSameUptoSaid : Prop := coverSameUptoRow.holds Try.pinned (OpenSpec.upto coverSameSpec)

/-- 'milepostlaw16.MsgBack', WHERE WHAT IT READS IS OF BULK AT MOST 1048576: true; the input reads as it did. -/
def msgBackUptoRow : OpenClaim := { program := "ytlnofclfpcmneaa", sum := "48e892defe39388bdf055cc6050da44b572e3eda8b125a52870bd6ecaf560c7e", func := "milepost/milepostlaw16.MsgBack", spec := "msgBack", inPlace := ["internal/bytealg.MakeNoZero"], apart := false, narrowed := true }
def MsgBackUptoSaid : Prop := msgBackUptoRow.holds Try.pinned (OpenSpec.upto msgBackSpec)

/-- 'milepostlaw16.MsgReads', WHERE WHAT IT READS IS OF BULK AT MOST 1048576: true; the input reads as it did. -/
def msgReadsUptoRow : OpenClaim := { program := "ytlnofclfpcmneaa", sum := "48e892defe39388bdf055cc6050da44b572e3eda8b125a52870bd6ecaf560c7e", func := "milepost/milepostlaw16.MsgReads", spec := "msgReads", inPlace := ["internal/bytealg.MakeNoZero"], apart := false, narrowed := true }
def MsgReadsUptoSaid : Prop := msgReadsUptoRow.holds Try.pinned (OpenSpec.upto msgReadsSpec)

/-- 'milepostlaw16.MsgCut', WHERE WHAT IT READS IS OF BULK AT MOST 1048576: true; the input reads as it did. -/
def msgCutUptoRow : OpenClaim := { program := "ytlnofclfpcmneaa", sum := "48e892defe39388bdf055cc6050da44b572e3eda8b125a52870bd6ecaf560c7e", func := "milepost/milepostlaw16.MsgCut", spec := "msgCut", inPlace := ["internal/bytealg.MakeNoZero"], apart := false, narrowed := true }
def MsgCutUptoSaid : Prop := msgCutUptoRow.holds Try.pinned (OpenSpec.upto msgCutSpec)

end Rows
end Go.Proofs.Ytlnofclfpcmneaa
