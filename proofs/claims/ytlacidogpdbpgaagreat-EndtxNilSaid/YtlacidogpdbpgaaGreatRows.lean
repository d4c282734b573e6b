/-
  No cell of these rows narrows 'for every input' (looked for: loops, veiled, ifaces, maps, wideKeys, modest, calm, conditions, laid).
  DERIVED. THE GIVEN ROWS OF THIS SEAT. 25 by the template 'for every input the law returns true; each argument reads behind the call as it read before'; 0 by the template 'total and deterministic' (their statements: YtlacidogpdbpgaaGreatTotals.lean).
  GIVEN WITH THE SEED: the statements are not yours to turn. If you find one false, say at which input.
  Laid BY PROGRAM, IN A SANDBOX (cutbox-rows.mjs): the forced cells as the released guide's own fill.sh prints them over the translation 81f911af5272af7c… (all of the seat's roots in one cut). By AI agents, Wed Nov 11 2026. No macro, syntax, notation, axiom, sorry.
-/
import Derived.Test.YtlacidogpdbpgaaGreatChecked
import GoSem.Claim
import GoSem.ClaimJoined
import GoSem.ClaimMapViews
import Derived.JoinedTies
import Derived.KernelRfl
namespace Go.Proofs.YtlacidogpdbpgaaGreat
/- THE CELL 'sum', in the pinned program and in every row, IS THE sha256 OF THE DUMP (.gsa) THAT YtlacidogpdbpgaaGreatProg.lean LOADS. Nothing in Lean hashes anything: it is a label: what it is worth is what the hold of that sum in a sandbox is worth. -/
noncomputable def Tryz.pinned : Pinned := { name := "ytlacidogpdbpgaagreat", sum := "81f911af5272af7c8654f689358541f7735afcaf4422af246bbfd8dc5ad70e4d", checked := Tryz.checked }
namespace Rows
def none {H : Type} : Left H := { results := [], args := [] }

/-- 'pitotlaw20.AvswitchNil': WHATEVER THE INPUT: true; the input reads as it did. -/
def avswitchNilSpec : ChangeSpec := { name := "avswitchNil", fn := fun _ => fun
  | [d1, d2, d3] => { results := [.lit (.bool true)], args := [d1, d2, d3] }
  | _ => none }
def avswitchNilRow : OpenClaim := { program := "ytlacidogpdbpgaagreat", sum := "81f911af5272af7c8654f689358541f7735afcaf4422af246bbfd8dc5ad70e4d", func := "pitot/pitotlaw20.AvswitchNil", spec := "avswitchNil", inPlace := ["internal/abi.NoEscape", "internal/bytealg.MakeNoZero", "slices.overlaps[pitot/avswitch.waiting]"], unfollowed := true, recurses := true, plainKeys := false, apart := false }
def AvswitchNilSaid : Prop := avswitchNilRow.holds Tryz.pinned (OpenSpec.ofChange avswitchNilSpec)

/-- ITS FALSE NEIGHBOUR: 'it returns false'. Refute it at one input. -/
def avswitchNilWrong : ChangeSpec := { name := "avswitchNil", fn := fun _ => fun
  | [d1, d2, d3] => { results := [.lit (.bool false)], args := [d1, d2, d3] }
  | _ => none }
def AvswitchNilWrongFalsely : Prop := avswitchNilRow.holds Tryz.pinned (OpenSpec.ofChange avswitchNilWrong)

/-- 'pitotlaw20.AvswitchRoutes': WHATEVER THE INPUT: true; the input reads as it did. -/
def avswitchRoutesSpec : ChangeSpec := { name := "avswitchRoutes", fn := fun _ => fun
  | [d1, d2, d3] => { results := [.lit (.bool true)], args := [d1, d2, d3] }
  | _ => none }
def avswitchRoutesRow : OpenClaim := { program := "ytlacidogpdbpgaagreat", sum := "81f911af5272af7c8654f689358541f7735afcaf4422af246bbfd8dc5ad70e4d", func := "pitot/pitotlaw20.AvswitchRoutes", spec := "avswitchRoutes", inPlace := ["internal/abi.NoEscape", "internal/bytealg.MakeNoZero", "slices.overlaps[pitot/avswitch.waiting]"], unfollowed := true, recurses := true, plainKeys := false, apart := false }
def AvswitchRoutesSaid : Prop := avswitchRoutesRow.holds Tryz.pinned (OpenSpec.ofChange avswitchRoutesSpec)

/-- ITS FALSE NEIGHBOUR: 'it returns false'. Refute it at one input. -/
def avswitchRoutesWrong : ChangeSpec := { name := "avswitchRoutes", fn := fun _ => fun
  | [d1, d2, d3] => { results := [.lit (.bool false)], args := [d1, d2, d3] }
  | _ => none }
def AvswitchRoutesWrongFalsely : Prop := avswitchRoutesRow.holds Tryz.pinned (OpenSpec.ofChange avswitchRoutesWrong)

/-- 'pitotlaw15.EndtxBags': WHATEVER THE INPUT: true; the input reads as it did. -/
def endtxBagsSpec : ChangeSpec := { name := "endtxBags", fn := fun _ => fun
  | [d1, d2, d3] => { results := [.lit (.bool true)], args := [d1, d2, d3] }
  | _ => none }
def endtxBagsRow : OpenClaim := { program := "ytlacidogpdbpgaagreat", sum := "81f911af5272af7c8654f689358541f7735afcaf4422af246bbfd8dc5ad70e4d", func := "pitot/pitotlaw15.EndtxBags", spec := "endtxBags", inPlace := ["internal/abi.NoEscape", "internal/bytealg.MakeNoZero"], unfollowed := true, recurses := true, plainKeys := false, apart := false }
def EndtxBagsSaid : Prop := endtxBagsRow.holds Tryz.pinned (OpenSpec.ofChange endtxBagsSpec)

/-- ITS FALSE NEIGHBOUR: 'it returns false'. Refute it at one input. -/
def endtxBagsWrong : ChangeSpec := { name := "endtxBags", fn := fun _ => fun
  | [d1, d2, d3] => { results := [.lit (.bool false)], args := [d1, d2, d3] }
  | _ => none }
def EndtxBagsWrongFalsely : Prop := endtxBagsRow.holds Tryz.pinned (OpenSpec.ofChange endtxBagsWrong)

/-- 'pitotlaw15.EndtxPlays': WHATEVER THE INPUT: true; the input reads as it did. -/
def endtxPlaysSpec : ChangeSpec := { name := "endtxPlays", fn := fun _ => fun
  | [d1, d2, d3] => { results := [.lit (.bool true)], args := [d1, d2, d3] }
  | _ => none }
def endtxPlaysRow : OpenClaim := { program := "ytlacidogpdbpgaagreat", sum := "81f911af5272af7c8654f689358541f7735afcaf4422af246bbfd8dc5ad70e4d", func := "pitot/pitotlaw15.EndtxPlays", spec := "endtxPlays", inPlace := ["internal/abi.NoEscape", "internal/bytealg.MakeNoZero"], unfollowed := true, recurses := true, plainKeys := false, apart := false }
def EndtxPlaysSaid : Prop := endtxPlaysRow.holds Tryz.pinned (OpenSpec.ofChange endtxPlaysSpec)

/-- ITS FALSE NEIGHBOUR: 'it returns false'. Refute it at one input. -/
def endtxPlaysWrong : ChangeSpec := { name := "endtxPlays", fn := fun _ => fun
  | [d1, d2, d3] => { results := [.lit (.bool false)], args := [d1, d2, d3] }
  | _ => none }
def EndtxPlaysWrongFalsely : Prop := endtxPlaysRow.holds Tryz.pinned (OpenSpec.ofChange endtxPlaysWrong)

/-- 'pitotlaw15.EndtxNil': WHATEVER THE INPUT: true; the input reads as it did. -/
def endtxNilSpec : ChangeSpec := { name := "endtxNil", fn := fun _ => fun
  | [d1, d2, d3] => { results := [.lit (.bool true)], args := [d1, d2, d3] }
  | _ => none }
def endtxNilRow : OpenClaim := { program := "ytlacidogpdbpgaagreat", sum := "81f911af5272af7c8654f689358541f7735afcaf4422af246bbfd8dc5ad70e4d", func := "pitot/pitotlaw15.EndtxNil", spec := "endtxNil", inPlace := ["internal/abi.NoEscape", "internal/bytealg.MakeNoZero"], unfollowed := true, recurses := true, plainKeys := false, apart := false }
def EndtxNilSaid : Prop := endtxNilRow.holds Tryz.pinned (OpenSpec.ofChange endtxNilSpec)

/-- ITS FALSE NEIGHBOUR: 'it returns false'. Refute it at one input. -/
def endtxNilWrong : ChangeSpec := { name := "endtxNil", fn := fun _ => fun
  | [d1, d2, d3] => { results := [.lit (.bool false)], args := [d1, d2, d3] }
  | _ => none }
def EndtxNilWrongFalsely : Prop := endtxNilRow.holds Tryz.pinned (OpenSpec.ofChange endtxNilWrong)

/-- 'pitotlaw15.EndtxNumbers': WHATEVER THE INPUT: true; the input reads as it did. -/
def endtxNumbersSpec : ChangeSpec := { name := "endtxNumbers", fn := fun _ => fun
  | [d1, d2, d3] => { results := [.lit (.bool true)], args := [d1, d2, d3] }
  | _ => none }
def endtxNumbersRow : OpenClaim := { program := "ytlacidogpdbpgaagreat", sum := "81f911af5272af7c8654f689358541f7735afcaf4422af246bbfd8dc5ad70e4d", func := "pitot/pitotlaw15.EndtxNumbers", spec := "endtxNumbers", inPlace := ["internal/abi.NoEscape", "internal/bytealg.MakeNoZero"], unfollowed := true, recurses := true, plainKeys := false, apart := false }
def EndtxNumbersSaid : Prop := endtxNumbersRow.holds Tryz.pinned (OpenSpec.ofChange endtxNumbersSpec)

/-- ITS FALSE NEIGHBOUR: 'it returns false'. Refute it at one input. -/
def endtxNumbersWrong : ChangeSpec := { name := "endtxNumbers", fn := fun _ => fun
  | [d1, d2, d3] => { results := [.lit (.bool false)], args := [d1, d2, d3] }
  | _ => none }
def EndtxNumbersWrongFalsely : Prop := endtxNumbersRow.holds Tryz.pinned (OpenSpec.ofChange endtxNumbersWrong)

/-- 'pitotlaw15.EndtxReset': WHATEVER THE INPUT: true; the input reads as it did. -/
def endtxResetSpec : ChangeSpec := { name := "endtxReset", fn := fun _ => fun
  | [d1, d2, d3] => { results := [.lit (.bool true)], args := [d1, d2, d3] }
  | _ => none }
def endtxResetRow : OpenClaim := { program := "ytlacidogpdbpgaagreat", sum := "81f911af5272af7c8654f689358541f7735afcaf4422af246bbfd8dc5ad70e4d", func := "pitot/pitotlaw15.EndtxReset", spec := "endtxReset", inPlace := ["internal/abi.NoEscape", "internal/bytealg.MakeNoZero"], unfollowed := true, recurses := true, plainKeys := false, apart := false }
def EndtxResetSaid : Prop := endtxResetRow.holds Tryz.pinned (OpenSpec.ofChange endtxResetSpec)

/-- ITS FALSE NEIGHBOUR: 'it returns false'. Refute it at one input. -/
def endtxResetWrong : ChangeSpec := { name := "endtxReset", fn := fun _ => fun
  | [d1, d2, d3] => { results := [.lit (.bool false)], args := [d1, d2, d3] }
  | _ => none }
def EndtxResetWrongFalsely : Prop := endtxResetRow.holds Tryz.pinned (OpenSpec.ofChange endtxResetWrong)

/-- 'pitotlaw15.EndtxWhole': WHATEVER THE INPUT: true; the input reads as it did. -/
def endtxWholeSpec : ChangeSpec := { name := "endtxWhole", fn := fun _ => fun
  | [d1, d2, d3] => { results := [.lit (.bool true)], args := [d1, d2, d3] }
  | _ => none }
def endtxWholeRow : OpenClaim := { program := "ytlacidogpdbpgaagreat", sum := "81f911af5272af7c8654f689358541f7735afcaf4422af246bbfd8dc5ad70e4d", func := "pitot/pitotlaw15.EndtxWhole", spec := "endtxWhole", inPlace := ["internal/abi.NoEscape", "internal/bytealg.MakeNoZero"], unfollowed := true, recurses := true, plainKeys := false, apart := false }
def EndtxWholeSaid : Prop := endtxWholeRow.holds Tryz.pinned (OpenSpec.ofChange endtxWholeSpec)

/-- ITS FALSE NEIGHBOUR: 'it returns false'. Refute it at one input. -/
def endtxWholeWrong : ChangeSpec := { name := "endtxWhole", fn := fun _ => fun
  | [d1, d2, d3] => { results := [.lit (.bool false)], args := [d1, d2, d3] }
  | _ => none }
def EndtxWholeWrongFalsely : Prop := endtxWholeRow.holds Tryz.pinned (OpenSpec.ofChange endtxWholeWrong)

/-- 'pitotlaw23.KernelWindows': WHATEVER THE INPUT: true; the input reads as it did. -/
def kernelWindowsSpec : ChangeSpec := { name := "kernelWindows", fn := fun _ => fun
  | [d1, d2, d3] => { results := [.lit (.bool true)], args := [d1, d2, d3] }
  | _ => none }
def kernelWindowsRow : OpenClaim := { program := "ytlacidogpdbpgaagreat", sum := "81f911af5272af7c8654f689358541f7735afcaf4422af246bbfd8dc5ad70e4d", func := "pitot/pitotlaw23.KernelWindows", spec := "kernelWindows", inPlace := ["internal/abi.NoEscape", "internal/bytealg.MakeNoZero"], unfollowed := true, recurses := true, plainKeys := false, apart := false }
def KernelWindowsSaid : Prop := kernelWindowsRow.holds Tryz.pinned (OpenSpec.ofChange kernelWindowsSpec)

/-- ITS FALSE NEIGHBOUR: 'it returns false'. Refute it at one input. -/
def kernelWindowsWrong : ChangeSpec := { name := "kernelWindows", fn := fun _ => fun
  | [d1, d2, d3] => { results := [.lit (.bool false)], args := [d1, d2, d3] }
  | _ => none }
def KernelWindowsWrongFalsely : Prop := kernelWindowsRow.holds Tryz.pinned (OpenSpec.ofChange kernelWindowsWrong)

/-- 'pitotlaw23.KernelFrame': WHATEVER THE INPUT: true; the input reads as it did. -/
def kernelFrameSpec : ChangeSpec := { name := "kernelFrame", fn := fun _ => fun
  | [d1, d2] => { results := [.lit (.bool true)], args := [d1, d2] }
  | _ => none }
def kernelFrameRow : OpenClaim := { program := "ytlacidogpdbpgaagreat", sum := "81f911af5272af7c8654f689358541f7735afcaf4422af246bbfd8dc5ad70e4d", func := "pitot/pitotlaw23.KernelFrame", spec := "kernelFrame", inPlace := ["internal/abi.NoEscape", "internal/bytealg.MakeNoZero"], unfollowed := true, recurses := true, plainKeys := false, apart := false }
def KernelFrameSaid : Prop := kernelFrameRow.holds Tryz.pinned (OpenSpec.ofChange kernelFrameSpec)

/-- ITS FALSE NEIGHBOUR: 'it returns false'. Refute it at one input. -/
def kernelFrameWrong : ChangeSpec := { name := "kernelFrame", fn := fun _ => fun
  | [d1, d2] => { results := [.lit (.bool false)], args := [d1, d2] }
  | _ => none }
def KernelFrameWrongFalsely : Prop := kernelFrameRow.holds Tryz.pinned (OpenSpec.ofChange kernelFrameWrong)

/-- 'pitotlaw21.EndrxOnce': WHATEVER THE INPUT: true; the input reads as it did. -/
def endrxOnceSpec : ChangeSpec := { name := "endrxOnce", fn := fun _ => fun
  | [d1, d2, d3] => { results := [.lit (.bool true)], args := [d1, d2, d3] }
  | _ => none }
def endrxOnceRow : OpenClaim := { program := "ytlacidogpdbpgaagreat", sum := "81f911af5272af7c8654f689358541f7735afcaf4422af246bbfd8dc5ad70e4d", func := "pitot/pitotlaw21.EndrxOnce", spec := "endrxOnce", inPlace := ["internal/abi.NoEscape", "internal/bytealg.MakeNoZero"], unfollowed := true, recurses := true, plainKeys := false, apart := false }
def EndrxOnceSaid : Prop := endrxOnceRow.holds Tryz.pinned (OpenSpec.ofChange endrxOnceSpec)

/-- ITS FALSE NEIGHBOUR: 'it returns false'. Refute it at one input. -/
def endrxOnceWrong : ChangeSpec := { name := "endrxOnce", fn := fun _ => fun
  | [d1, d2, d3] => { results := [.lit (.bool false)], args := [d1, d2, d3] }
  | _ => none }
def EndrxOnceWrongFalsely : Prop := endrxOnceRow.holds Tryz.pinned (OpenSpec.ofChange endrxOnceWrong)

/-- 'pitotlaw21.EndrxOnly': WHATEVER THE INPUT: true; the input reads as it did. -/
def endrxOnlySpec : ChangeSpec := { name := "endrxOnly", fn := fun _ => fun
  | [d1, d2, d3] => { results := [.lit (.bool true)], args := [d1, d2, d3] }
  | _ => none }
def endrxOnlyRow : OpenClaim := { program := "ytlacidogpdbpgaagreat", sum := "81f911af5272af7c8654f689358541f7735afcaf4422af246bbfd8dc5ad70e4d", func := "pitot/pitotlaw21.EndrxOnly", spec := "endrxOnly", inPlace := ["internal/abi.NoEscape", "internal/bytealg.MakeNoZero"], unfollowed := true, recurses := true, plainKeys := false, apart := false }
def EndrxOnlySaid : Prop := endrxOnlyRow.holds Tryz.pinned (OpenSpec.ofChange endrxOnlySpec)

/-- ITS FALSE NEIGHBOUR: 'it returns false'. Refute it at one input. -/
def endrxOnlyWrong : ChangeSpec := { name := "endrxOnly", fn := fun _ => fun
  | [d1, d2, d3] => { results := [.lit (.bool false)], args := [d1, d2, d3] }
  | _ => none }
def EndrxOnlyWrongFalsely : Prop := endrxOnlyRow.holds Tryz.pinned (OpenSpec.ofChange endrxOnlyWrong)

/-- 'pitotlaw21.EndrxCounts': WHATEVER THE INPUT: true; the input reads as it did. -/
def endrxCountsSpec : ChangeSpec := { name := "endrxCounts", fn := fun _ => fun
  | [d1, d2, d3] => { results := [.lit (.bool true)], args := [d1, d2, d3] }
  | _ => none }
def endrxCountsRow : OpenClaim := { program := "ytlacidogpdbpgaagreat", sum := "81f911af5272af7c8654f689358541f7735afcaf4422af246bbfd8dc5ad70e4d", func := "pitot/pitotlaw21.EndrxCounts", spec := "endrxCounts", inPlace := ["internal/abi.NoEscape", "internal/bytealg.MakeNoZero"], unfollowed := true, recurses := true, plainKeys := false, apart := false }
def EndrxCountsSaid : Prop := endrxCountsRow.holds Tryz.pinned (OpenSpec.ofChange endrxCountsSpec)

/-- ITS FALSE NEIGHBOUR: 'it returns false'. Refute it at one input. -/
def endrxCountsWrong : ChangeSpec := { name := "endrxCounts", fn := fun _ => fun
  | [d1, d2, d3] => { results := [.lit (.bool false)], args := [d1, d2, d3] }
  | _ => none }
def EndrxCountsWrongFalsely : Prop := endrxCountsRow.holds Tryz.pinned (OpenSpec.ofChange endrxCountsWrong)

/-- 'pitotlaw21.EndrxPlays': WHATEVER THE INPUT: true; the input reads as it did. -/
def endrxPlaysSpec : ChangeSpec := { name := "endrxPlays", fn := fun _ => fun
  | [d1, d2, d3] => { results := [.lit (.bool true)], args := [d1, d2, d3] }
  | _ => none }
def endrxPlaysRow : OpenClaim := { program := "ytlacidogpdbpgaagreat", sum := "81f911af5272af7c8654f689358541f7735afcaf4422af246bbfd8dc5ad70e4d", func := "pitot/pitotlaw21.EndrxPlays", spec := "endrxPlays", inPlace := ["internal/abi.NoEscape", "internal/bytealg.MakeNoZero"], unfollowed := true, recurses := true, plainKeys := false, apart := false }
def EndrxPlaysSaid : Prop := endrxPlaysRow.holds Tryz.pinned (OpenSpec.ofChange endrxPlaysSpec)

/-- ITS FALSE NEIGHBOUR: 'it returns false'. Refute it at one input. -/
def endrxPlaysWrong : ChangeSpec := { name := "endrxPlays", fn := fun _ => fun
  | [d1, d2, d3] => { results := [.lit (.bool false)], args := [d1, d2, d3] }
  | _ => none }
def EndrxPlaysWrongFalsely : Prop := endrxPlaysRow.holds Tryz.pinned (OpenSpec.ofChange endrxPlaysWrong)

/-- 'pitotlaw21.EndrxNil': WHATEVER THE INPUT: true; the input reads as it did. -/
def endrxNilSpec : ChangeSpec := { name := "endrxNil", fn := fun _ => fun
  | [d1, d2, d3] => { results := [.lit (.bool true)], args := [d1, d2, d3] }
  | _ => none }
def endrxNilRow : OpenClaim := { program := "ytlacidogpdbpgaagreat", sum := "81f911af5272af7c8654f689358541f7735afcaf4422af246bbfd8dc5ad70e4d", func := "pitot/pitotlaw21.EndrxNil", spec := "endrxNil", inPlace := ["internal/abi.NoEscape", "internal/bytealg.MakeNoZero"], unfollowed := true, recurses := true, plainKeys := false, apart := false }
def EndrxNilSaid : Prop := endrxNilRow.holds Tryz.pinned (OpenSpec.ofChange endrxNilSpec)

/-- ITS FALSE NEIGHBOUR: 'it returns false'. Refute it at one input. -/
def endrxNilWrong : ChangeSpec := { name := "endrxNil", fn := fun _ => fun
  | [d1, d2, d3] => { results := [.lit (.bool false)], args := [d1, d2, d3] }
  | _ => none }
def EndrxNilWrongFalsely : Prop := endrxNilRow.holds Tryz.pinned (OpenSpec.ofChange endrxNilWrong)

/-- 'pitotlaw20.AvswitchHonest': WHATEVER THE INPUT: true; the input reads as it did. -/
def avswitchHonestSpec : ChangeSpec := { name := "avswitchHonest", fn := fun _ => fun
  | [d1, d2, d3] => { results := [.lit (.bool true)], args := [d1, d2, d3] }
  | _ => none }
def avswitchHonestRow : OpenClaim := { program := "ytlacidogpdbpgaagreat", sum := "81f911af5272af7c8654f689358541f7735afcaf4422af246bbfd8dc5ad70e4d", func := "pitot/pitotlaw20.AvswitchHonest", spec := "avswitchHonest", inPlace := ["internal/abi.NoEscape", "internal/bytealg.MakeNoZero", "slices.overlaps[pitot/avswitch.waiting]"], unfollowed := true, recurses := true, plainKeys := false, apart := false }
def AvswitchHonestSaid : Prop := avswitchHonestRow.holds Tryz.pinned (OpenSpec.ofChange avswitchHonestSpec)

/-- ITS FALSE NEIGHBOUR: 'it returns false'. Refute it at one input. -/
def avswitchHonestWrong : ChangeSpec := { name := "avswitchHonest", fn := fun _ => fun
  | [d1, d2, d3] => { results := [.lit (.bool false)], args := [d1, d2, d3] }
  | _ => none }
def AvswitchHonestWrongFalsely : Prop := avswitchHonestRow.holds Tryz.pinned (OpenSpec.ofChange avswitchHonestWrong)

/-- 'pitotlaw23.KernelQuiet': WHATEVER THE INPUT: true; the input reads as it did. -/
def kernelQuietSpec : ChangeSpec := { name := "kernelQuiet", fn := fun _ => fun
  | [d1, d2, d3] => { results := [.lit (.bool true)], args := [d1, d2, d3] }
  | _ => none }
def kernelQuietRow : OpenClaim := { program := "ytlacidogpdbpgaagreat", sum := "81f911af5272af7c8654f689358541f7735afcaf4422af246bbfd8dc5ad70e4d", func := "pitot/pitotlaw23.KernelQuiet", spec := "kernelQuiet", inPlace := ["internal/abi.NoEscape", "internal/bytealg.MakeNoZero"], unfollowed := true, recurses := true, plainKeys := false, apart := false }
def KernelQuietSaid : Prop := kernelQuietRow.holds Tryz.pinned (OpenSpec.ofChange kernelQuietSpec)

/-- ITS FALSE NEIGHBOUR: 'it returns false'. Refute it at one input. -/
def kernelQuietWrong : ChangeSpec := { name := "kernelQuiet", fn := fun _ => fun
  | [d1, d2, d3] => { results := [.lit (.bool false)], args := [d1, d2, d3] }
  | _ => none }
def KernelQuietWrongFalsely : Prop := kernelQuietRow.holds Tryz.pinned (OpenSpec.ofChange kernelQuietWrong)

/-- 'pitotlaw23.KernelSpace': WHATEVER THE INPUT: true; the input reads as it did. -/
def kernelSpaceSpec : ChangeSpec := { name := "kernelSpace", fn := fun _ => fun
  | [d1, d2, d3] => { results := [.lit (.bool true)], args := [d1, d2, d3] }
  | _ => none }
def kernelSpaceRow : OpenClaim := { program := "ytlacidogpdbpgaagreat", sum := "81f911af5272af7c8654f689358541f7735afcaf4422af246bbfd8dc5ad70e4d", func := "pitot/pitotlaw23.KernelSpace", spec := "kernelSpace", inPlace := ["internal/abi.NoEscape", "internal/bytealg.MakeNoZero"], unfollowed := true, recurses := true, plainKeys := false, apart := false }
def KernelSpaceSaid : Prop := kernelSpaceRow.holds Tryz.pinned (OpenSpec.ofChange kernelSpaceSpec)

/-- ITS FALSE NEIGHBOUR: 'it returns false'. Refute it at one input. -/
def kernelSpaceWrong : ChangeSpec := { name := "kernelSpace", fn := fun _ => fun
  | [d1, d2, d3] => { results := [.lit (.bool false)], args := [d1, d2, d3] }
  | _ => none }
def KernelSpaceWrongFalsely : Prop := kernelSpaceRow.holds Tryz.pinned (OpenSpec.ofChange kernelSpaceWrong)

/-- 'pitotlaw23.KernelTime': WHATEVER THE INPUT: true; the input reads as it did. -/
def kernelTimeSpec : ChangeSpec := { name := "kernelTime", fn := fun _ => fun
  | [d1, d2, d3] => { results := [.lit (.bool true)], args := [d1, d2, d3] }
  | _ => none }
def kernelTimeRow : OpenClaim := { program := "ytlacidogpdbpgaagreat", sum := "81f911af5272af7c8654f689358541f7735afcaf4422af246bbfd8dc5ad70e4d", func := "pitot/pitotlaw23.KernelTime", spec := "kernelTime", inPlace := ["internal/abi.NoEscape", "internal/bytealg.MakeNoZero"], unfollowed := true, recurses := true, plainKeys := false, apart := false }
def KernelTimeSaid : Prop := kernelTimeRow.holds Tryz.pinned (OpenSpec.ofChange kernelTimeSpec)

/-- ITS FALSE NEIGHBOUR: 'it returns false'. Refute it at one input. -/
def kernelTimeWrong : ChangeSpec := { name := "kernelTime", fn := fun _ => fun
  | [d1, d2, d3] => { results := [.lit (.bool false)], args := [d1, d2, d3] }
  | _ => none }
def KernelTimeWrongFalsely : Prop := kernelTimeRow.holds Tryz.pinned (OpenSpec.ofChange kernelTimeWrong)

/-- 'pitotlaw23.KernelNil': WHATEVER THE INPUT: true; the input reads as it did. -/
def kernelNilSpec : ChangeSpec := { name := "kernelNil", fn := fun _ => fun
  | [d1, d2, d3] => { results := [.lit (.bool true)], args := [d1, d2, d3] }
  | _ => none }
def kernelNilRow : OpenClaim := { program := "ytlacidogpdbpgaagreat", sum := "81f911af5272af7c8654f689358541f7735afcaf4422af246bbfd8dc5ad70e4d", func := "pitot/pitotlaw23.KernelNil", spec := "kernelNil", inPlace := ["internal/abi.NoEscape", "internal/bytealg.MakeNoZero"], unfollowed := true, recurses := true, plainKeys := false, apart := false }
def KernelNilSaid : Prop := kernelNilRow.holds Tryz.pinned (OpenSpec.ofChange kernelNilSpec)

/-- ITS FALSE NEIGHBOUR: 'it returns false'. Refute it at one input. -/
def kernelNilWrong : ChangeSpec := { name := "kernelNil", fn := fun _ => fun
  | [d1, d2, d3] => { results := [.lit (.bool false)], args := [d1, d2, d3] }
  | _ => none }
def KernelNilWrongFalsely : Prop := kernelNilRow.holds Tryz.pinned (OpenSpec.ofChange kernelNilWrong)

/-- 'pitotlaw24.NetSample': WHATEVER THE INPUT: true; the input reads as it did. -/
def netSampleSpec : ChangeSpec := { name := "netSample", fn := fun _ => fun
  | [d1, d2, d3] => { results := [.lit (.bool true)], args := [d1, d2, d3] }
  | _ => none }
def netSampleRow : OpenClaim := { program := "ytlacidogpdbpgaagreat", sum := "81f911af5272af7c8654f689358541f7735afcaf4422af246bbfd8dc5ad70e4d", func := "pitot/pitotlaw24.NetSample", spec := "netSample", inPlace := ["slices.overlaps[pitot/avswitch.waiting]", "internal/abi.NoEscape", "internal/bytealg.MakeNoZero"], unfollowed := true, recurses := true, plainKeys := false, apart := false }
def NetSampleSaid : Prop := netSampleRow.holds Tryz.pinned (OpenSpec.ofChange netSampleSpec)

/-- ITS FALSE NEIGHBOUR: 'it returns false'. Refute it at one input. -/
def netSampleWrong : ChangeSpec := { name := "netSample", fn := fun _ => fun
  | [d1, d2, d3] => { results := [.lit (.bool false)], args := [d1, d2, d3] }
  | _ => none }
def NetSampleWrongFalsely : Prop := netSampleRow.holds Tryz.pinned (OpenSpec.ofChange netSampleWrong)

/-- 'pitotlaw24.NetSteps': WHATEVER THE INPUT: true; the input reads as it did. -/
def netStepsSpec : ChangeSpec := { name := "netSteps", fn := fun _ => fun
  | [d1, d2, d3] => { results := [.lit (.bool true)], args := [d1, d2, d3] }
  | _ => none }
def netStepsRow : OpenClaim := { program := "ytlacidogpdbpgaagreat", sum := "81f911af5272af7c8654f689358541f7735afcaf4422af246bbfd8dc5ad70e4d", func := "pitot/pitotlaw24.NetSteps", spec := "netSteps", inPlace := ["slices.overlaps[pitot/avswitch.waiting]", "internal/abi.NoEscape", "internal/bytealg.MakeNoZero"], unfollowed := true, recurses := true, plainKeys := false, apart := false }
def NetStepsSaid : Prop := netStepsRow.holds Tryz.pinned (OpenSpec.ofChange netStepsSpec)

/-- ITS FALSE NEIGHBOUR: 'it returns false'. Refute it at one input. -/
def netStepsWrong : ChangeSpec := { name := "netSteps", fn := fun _ => fun
  | [d1, d2, d3] => { results := [.lit (.bool false)], args := [d1, d2, d3] }
  | _ => none }
def NetStepsWrongFalsely : Prop := netStepsRow.holds Tryz.pinned (OpenSpec.ofChange netStepsWrong)

/-- 'pitotlaw24.NetWhole': WHATEVER THE INPUT: true; the input reads as it did. -/
def netWholeSpec : ChangeSpec := { name := "netWhole", fn := fun _ => fun
  | [d1, d2, d3] => { results := [.lit (.bool true)], args := [d1, d2, d3] }
  | _ => none }
def netWholeRow : OpenClaim := { program := "ytlacidogpdbpgaagreat", sum := "81f911af5272af7c8654f689358541f7735afcaf4422af246bbfd8dc5ad70e4d", func := "pitot/pitotlaw24.NetWhole", spec := "netWhole", inPlace := ["slices.overlaps[pitot/avswitch.waiting]", "internal/abi.NoEscape", "internal/bytealg.MakeNoZero"], unfollowed := true, recurses := true, plainKeys := false, apart := false }
def NetWholeSaid : Prop := netWholeRow.holds Tryz.pinned (OpenSpec.ofChange netWholeSpec)

/-- ITS FALSE NEIGHBOUR: 'it returns false'. Refute it at one input. -/
def netWholeWrong : ChangeSpec := { name := "netWhole", fn := fun _ => fun
  | [d1, d2, d3] => { results := [.lit (.bool false)], args := [d1, d2, d3] }
  | _ => none }
def NetWholeWrongFalsely : Prop := netWholeRow.holds Tryz.pinned (OpenSpec.ofChange netWholeWrong)

/-- 'pitotlaw24.NetAlone': WHATEVER THE INPUT: true; the input reads as it did. -/
def netAloneSpec : ChangeSpec := { name := "netAlone", fn := fun _ => fun
  | [d1, d2, d3] => { results := [.lit (.bool true)], args := [d1, d2, d3] }
  | _ => none }
def netAloneRow : OpenClaim := { program := "ytlacidogpdbpgaagreat", sum := "81f911af5272af7c8654f689358541f7735afcaf4422af246bbfd8dc5ad70e4d", func := "pitot/pitotlaw24.NetAlone", spec := "netAlone", inPlace := ["slices.overlaps[pitot/avswitch.waiting]", "internal/abi.NoEscape", "internal/bytealg.MakeNoZero"], unfollowed := true, recurses := true, plainKeys := false, apart := false }
def NetAloneSaid : Prop := netAloneRow.holds Tryz.pinned (OpenSpec.ofChange netAloneSpec)

/-- ITS FALSE NEIGHBOUR: 'it returns false'. Refute it at one input. -/
def netAloneWrong : ChangeSpec := { name := "netAlone", fn := fun _ => fun
  | [d1, d2, d3] => { results := [.lit (.bool false)], args := [d1, d2, d3] }
  | _ => none }
def NetAloneWrongFalsely : Prop := netAloneRow.holds Tryz.pinned (OpenSpec.ofChange netAloneWrong)

/-- 'pitotlaw24.NetNil': WHATEVER THE INPUT: true; the input reads as it did. -/
def netNilSpec : ChangeSpec := { name := "netNil", fn := fun _ => fun
  | [d1, d2, d3] => { results := [.lit (.bool true)], args := [d1, d2, d3] }
  | _ => none }
def netNilRow : OpenClaim := { program := "ytlacidogpdbpgaagreat", sum := "81f911af5272af7c8654f689358541f7735afcaf4422af246bbfd8dc5ad70e4d", func := "pitot/pitotlaw24.NetNil", spec := "netNil", inPlace := ["slices.overlaps[pitot/avswitch.waiting]", "internal/abi.NoEscape", "internal/bytealg.MakeNoZero"], unfollowed := true, recurses := true, plainKeys := false, apart := false }
def NetNilSaid : Prop := netNilRow.holds Tryz.pinned (OpenSpec.ofChange netNilSpec)

/-- ITS FALSE NEIGHBOUR: 'it returns false'. Refute it at one input. -/
def netNilWrong : ChangeSpec := { name := "netNil", fn := fun _ => fun
  | [d1, d2, d3] => { results := [.lit (.bool false)], args := [d1, d2, d3] }
  | _ => none }
def NetNilWrongFalsely : Prop := netNilRow.holds Tryz.pinned (OpenSpec.ofChange netNilWrong)

/- THE SECOND FORM. 'bulk': how many values and letters a reading holds, each counted each time it is reached (what is shared counts as often as it is met; a slice's spare places count too). A statement '..UptoSaid' is the law's where the arguments, and the package variables that the reading takes, are together of bulk at most 1048576: NARROWER than '..Said'. Prove '..Said' where nothing that the law and all that it calls make is longer than what came in: it says more and counts as full. Else prove '..UptoSaid'. A law counts once. -/
mutual
def uptoBulk {H : Type} : DataW H → Nat
  | .lit (.string bytes) => bytes.length + 1
  | .lit _ => 1
  | .nil => 1
  | .ptr d => uptoBulk d + 1
  | .slice elems spare => uptoBulkAll elems + uptoBulkAll spare + 1
  | .agg parts => uptoBulkAll parts + 1
  | .iface _ d => uptoBulk d + 1
  | .map entries => uptoBulkEntries entries + 1
  | .held _ => 1
def uptoBulkAll {H : Type} : List (DataW H) → Nat
  | [] => 0
  | d :: r => uptoBulk d + uptoBulkAll r
def uptoBulkEntries {H : Type} : List (Lit × DataW H) → Nat
  | [] => 0
  | x :: r => uptoBulkEntry x + uptoBulkEntries r
def uptoBulkEntry {H : Type} : Lit × DataW H → Nat
  | (.string bytes, d) => bytes.length + uptoBulk d + 1
  | (_, d) => uptoBulk d + 1
 end
def uptoSmall : (H : Type) → List (DataW H) → Bool := fun _ ds => decide (uptoBulkAll ds ≤ 1048576)
def OpenSpec.upto (s : _root_.Go.ChangeSpec) : _root_.Go.OpenSpec := { _root_.Go.OpenSpec.ofChange s with cond := some uptoSmall }

/-- 'pitotlaw20.AvswitchNil', WHERE WHAT IT READS IS OF BULK AT MOST 1048576: true; the input reads as it did. -/
def avswitchNilUptoRow : OpenClaim := { program := "ytlacidogpdbpgaagreat", sum := "81f911af5272af7c8654f689358541f7735afcaf4422af246bbfd8dc5ad70e4d", func := "pitot/pitotlaw20.AvswitchNil", spec := "avswitchNil", inPlace := ["internal/abi.NoEscape", "internal/bytealg.MakeNoZero", "slices.overlaps[pitot/avswitch.waiting]"], unfollowed := true, recurses := true, plainKeys := false, apart := false, narrowed := true }
def AvswitchNilUptoSaid : Prop := avswitchNilUptoRow.holds Tryz.pinned (OpenSpec.upto avswitchNilSpec)

/-- 'pitotlaw20.AvswitchRoutes', WHERE WHAT IT READS IS OF BULK AT MOST 1048576: true; the input reads as it did. -/
def avswitchRoutesUptoRow : OpenClaim := { program := "ytlacidogpdbpgaagreat", sum := "81f911af5272af7c8654f689358541f7735afcaf4422af246bbfd8dc5ad70e4d", func := "pitot/pitotlaw20.AvswitchRoutes", spec := "avswitchRoutes", inPlace := ["internal/abi.NoEscape", "internal/bytealg.MakeNoZero", "slices.overlaps[pitot/avswitch.waiting]"], unfollowed := true, recurses := true, plainKeys := false, apart := false, narrowed := true }
def AvswitchRoutesUptoSaid : Prop := avswitchRoutesUptoRow.holds Tryz.pinned (OpenSpec.upto avswitchRoutesSpec)

/-- 'pitotlaw15.EndtxBags', WHERE WHAT IT READS IS OF BULK AT MOST 1048576: true; the input reads as it did. -/
def endtxBagsUptoRow : OpenClaim := { program := "ytlacidogpdbpgaagreat", sum := "81f911af5272af7c8654f689358541f7735afcaf4422af246bbfd8dc5ad70e4d", func := "pitot/pitotlaw15.EndtxBags", spec := "endtxBags", inPlace := ["internal/abi.NoEscape", "internal/bytealg.MakeNoZero"], unfollowed := true, recurses := true, plainKeys := false, apart := false, narrowed := true }
def EndtxBagsUptoSaid : Prop := endtxBagsUptoRow.holds Tryz.pinned (OpenSpec.upto endtxBagsSpec)

/-- 'pitotlaw15.EndtxPlays', WHERE WHAT IT READS IS OF BULK AT MOST 1048576: true; the input reads as it did. -/
def endtxPlaysUptoRow : OpenClaim := { program := "ytlacidogpdbpgaagreat", sum := "81f911af5272af7c8654f689358541f7735afcaf4422af246bbfd8dc5ad70e4d", func := "pitot/pitotlaw15.EndtxPlays", spec := "endtxPlays", inPlace := ["internal/abi.NoEscape", "internal/bytealg.MakeNoZero"], unfollowed := true, recurses := true, plainKeys := false, apart := false, narrowed := true }
def EndtxPlaysUptoSaid : Prop := endtxPlaysUptoRow.holds Tryz.pinned (OpenSpec.upto endtxPlaysSpec)

/-- 'pitotlaw15.EndtxNil', WHERE WHAT IT READS IS OF BULK AT MOST 1048576: true; the input reads as it did. -/
def endtxNilUptoRow : OpenClaim := { program := "ytlacidogpdbpgaagreat", sum := "81f911af5272af7c8654f689358541f7735afcaf4422af246bbfd8dc5ad70e4d", func := "pitot/pitotlaw15.EndtxNil", spec := "endtxNil", inPlace := ["internal/abi.NoEscape", "internal/bytealg.MakeNoZero"], unfollowed := true, recurses := true, plainKeys := false, apart := false, narrowed := true }
def EndtxNilUptoSaid : Prop := endtxNilUptoRow.holds Tryz.pinned (OpenSpec.upto endtxNilSpec)

/-- 'pitotlaw15.EndtxNumbers', WHERE WHAT IT READS IS OF BULK AT MOST 1048576: true; the input reads as it did. -/
def endtxNumbersUptoRow : OpenClaim := { program := "ytlacidogpdbpgaagreat", sum := "81f911af5272af7c8654f689358541f7735afcaf4422af246bbfd8dc5ad70e4d", func := "pitot/pitotlaw15.EndtxNumbers", spec := "endtxNumbers", inPlace := ["internal/abi.NoEscape", "internal/bytealg.MakeNoZero"], unfollowed := true, recurses := true, plainKeys := false, apart := false, narrowed := true }
def EndtxNumbersUptoSaid : Prop := endtxNumbersUptoRow.holds Tryz.pinned (OpenSpec.upto endtxNumbersSpec)

/-- 'pitotlaw15.EndtxReset', WHERE WHAT IT READS IS OF BULK AT MOST 1048576: true; the input reads as it did. -/
def endtxResetUptoRow : OpenClaim := { program := "ytlacidogpdbpgaagreat", sum := "81f911af5272af7c8654f689358541f7735afcaf4422af246bbfd8dc5ad70e4d", func := "pitot/pitotlaw15.EndtxReset", spec := "endtxReset", inPlace := ["internal/abi.NoEscape", "internal/bytealg.MakeNoZero"], unfollowed := true, recurses := true, plainKeys := false, apart := false, narrowed := true }
def EndtxResetUptoSaid : Prop := endtxResetUptoRow.holds Tryz.pinned (OpenSpec.upto endtxResetSpec)

/-- 'pitotlaw15.EndtxWhole', WHERE WHAT IT READS IS OF BULK AT MOST 1048576: true; the input reads as it did. -/
def endtxWholeUptoRow : OpenClaim := { program := "ytlacidogpdbpgaagreat", sum := "81f911af5272af7c8654f689358541f7735afcaf4422af246bbfd8dc5ad70e4d", func := "pitot/pitotlaw15.EndtxWhole", spec := "endtxWhole", inPlace := ["internal/abi.NoEscape", "internal/bytealg.MakeNoZero"], unfollowed := true, recurses := true, plainKeys := false, apart := false, narrowed := true }
def EndtxWholeUptoSaid : Prop := endtxWholeUptoRow.holds Tryz.pinned (OpenSpec.upto endtxWholeSpec)

/-- 'pitotlaw23.KernelWindows', WHERE WHAT IT READS IS OF BULK AT MOST 1048576: true; the input reads as it did. -/
def kernelWindowsUptoRow : OpenClaim := { program := "ytlacidogpdbpgaagreat", sum := "81f911af5272af7c8654f689358541f7735afcaf4422af246bbfd8dc5ad70e4d", func := "pitot/pitotlaw23.KernelWindows", spec := "kernelWindows", inPlace := ["internal/abi.NoEscape", "internal/bytealg.MakeNoZero"], unfollowed := true, recurses := true, plainKeys := false, apart := false, narrowed := true }
def KernelWindowsUptoSaid : Prop := kernelWindowsUptoRow.holds Tryz.pinned (OpenSpec.upto kernelWindowsSpec)

/-- 'pitotlaw23.KernelFrame', WHERE WHAT IT READS IS OF BULK AT MOST 1048576: true; the input reads as it did. -/
def kernelFrameUptoRow : OpenClaim := { program := "ytlacidogpdbpgaagreat", sum := "81f911af5272af7c8654f689358541f7735afcaf4422af246bbfd8dc5ad70e4d", func := "pitot/pitotlaw23.KernelFrame", spec := "kernelFrame", inPlace := ["internal/abi.NoEscape", "internal/bytealg.MakeNoZero"], unfollowed := true, recurses := true, plainKeys := false, apart := false, narrowed := true }
def KernelFrameUptoSaid : Prop := kernelFrameUptoRow.holds Tryz.pinned (OpenSpec.upto kernelFrameSpec)

/-- 'pitotlaw21.EndrxOnce', WHERE WHAT IT READS IS OF BULK AT MOST 1048576: true; the input reads as it did. -/
def endrxOnceUptoRow : OpenClaim := { program := "ytlacidogpdbpgaagreat", sum := "81f911af5272af7c8654f689358541f7735afcaf4422af246bbfd8dc5ad70e4d", func := "pitot/pitotlaw21.EndrxOnce", spec := "endrxOnce", inPlace := ["internal/abi.NoEscape", "internal/bytealg.MakeNoZero"], unfollowed := true, recurses := true, plainKeys := false, apart := false, narrowed := true }
def EndrxOnceUptoSaid : Prop := endrxOnceUptoRow.holds Tryz.pinned (OpenSpec.upto endrxOnceSpec)

/-- 'pitotlaw21.EndrxOnly', WHERE WHAT IT READS IS OF BULK AT MOST 1048576: true; the input reads as it did. -/
def endrxOnlyUptoRow : OpenClaim := { program := "ytlacidogpdbpgaagreat", sum := "81f911af5272af7c8654f689358541f7735afcaf4422af246bbfd8dc5ad70e4d", func := "pitot/pitotlaw21.EndrxOnly", spec := "endrxOnly", inPlace := ["internal/abi.NoEscape", "internal/bytealg.MakeNoZero"], unfollowed := true, recurses := true, plainKeys := false, apart := false, narrowed := true }
def EndrxOnlyUptoSaid : Prop := endrxOnlyUptoRow.holds Tryz.pinned (OpenSpec.upto endrxOnlySpec)

/-- 'pitotlaw21.EndrxCounts', WHERE WHAT IT READS IS OF BULK AT MOST 1048576: true; the input reads as it did. -/
def endrxCountsUptoRow : OpenClaim := { program := "ytlacidogpdbpgaagreat", sum := "81f911af5272af7c8654f689358541f7735afcaf4422af246bbfd8dc5ad70e4d", func := "pitot/pitotlaw21.EndrxCounts", spec := "endrxCounts", inPlace := ["internal/abi.NoEscape", "internal/bytealg.MakeNoZero"], unfollowed := true, recurses := true, plainKeys := false, apart := false, narrowed := true }
def EndrxCountsUptoSaid : Prop := endrxCountsUptoRow.holds Tryz.pinned (OpenSpec.upto endrxCountsSpec)

/-- 'pitotlaw21.EndrxPlays', WHERE WHAT IT READS IS OF BULK AT MOST 1048576: true; the input reads as it did. -/
def endrxPlaysUptoRow : OpenClaim := { program := "ytlacidogpdbpgaagreat", sum := "81f911af5272af7c8654f689358541f7735afcaf4422af246bbfd8dc5ad70e4d", func := "pitot/pitotlaw21.EndrxPlays", spec := "endrxPlays", inPlace := ["internal/abi.NoEscape", "internal/bytealg.MakeNoZero"], unfollowed := true, recurses := true, plainKeys := false, apart := false, narrowed := true }
def EndrxPlaysUptoSaid : Prop := endrxPlaysUptoRow.holds Tryz.pinned (OpenSpec.upto endrxPlaysSpec)

/-- 'pitotlaw21.EndrxNil', WHERE WHAT IT READS IS OF BULK AT MOST 1048576: true; the input reads as it did. -/
def endrxNilUptoRow : OpenClaim := { program := "ytlacidogpdbpgaagreat", sum := "81f911af5272af7c8654f689358541f7735afcaf4422af246bbfd8dc5ad70e4d", func := "pitot/pitotlaw21.EndrxNil", spec := "endrxNil", inPlace := ["internal/abi.NoEscape", "internal/bytealg.MakeNoZero"], unfollowed := true, recurses := true, plainKeys := false, apart := false, narrowed := true }
def EndrxNilUptoSaid : Prop := endrxNilUptoRow.holds Tryz.pinned (OpenSpec.upto endrxNilSpec)

/-- 'pitotlaw20.AvswitchHonest', WHERE WHAT IT READS IS OF BULK AT MOST 1048576: true; the input reads as it did. -/
def avswitchHonestUptoRow : OpenClaim := { program := "ytlacidogpdbpgaagreat", sum := "81f911af5272af7c8654f689358541f7735afcaf4422af246bbfd8dc5ad70e4d", func := "pitot/pitotlaw20.AvswitchHonest", spec := "avswitchHonest", inPlace := ["internal/abi.NoEscape", "internal/bytealg.MakeNoZero", "slices.overlaps[pitot/avswitch.waiting]"], unfollowed := true, recurses := true, plainKeys := false, apart := false, narrowed := true }
def AvswitchHonestUptoSaid : Prop := avswitchHonestUptoRow.holds Tryz.pinned (OpenSpec.upto avswitchHonestSpec)

/-- 'pitotlaw23.KernelQuiet', WHERE WHAT IT READS IS OF BULK AT MOST 1048576: true; the input reads as it did. -/
def kernelQuietUptoRow : OpenClaim := { program := "ytlacidogpdbpgaagreat", sum := "81f911af5272af7c8654f689358541f7735afcaf4422af246bbfd8dc5ad70e4d", func := "pitot/pitotlaw23.KernelQuiet", spec := "kernelQuiet", inPlace := ["internal/abi.NoEscape", "internal/bytealg.MakeNoZero"], unfollowed := true, recurses := true, plainKeys := false, apart := false, narrowed := true }
def KernelQuietUptoSaid : Prop := kernelQuietUptoRow.holds Tryz.pinned (OpenSpec.upto kernelQuietSpec)

/-- 'pitotlaw23.KernelSpace', WHERE WHAT IT READS IS OF BULK AT MOST 1048576: true; the input reads as it did. -/
def kernelSpaceUptoRow : OpenClaim := { program := "ytlacidogpdbpgaagreat", sum := "81f911af5272af7c8654f689358541f7735afcaf4422af246bbfd8dc5ad70e4d", func := "pitot/pitotlaw23.KernelSpace", spec := "kernelSpace", inPlace := ["internal/abi.NoEscape", "internal/bytealg.MakeNoZero"], unfollowed := true, recurses := true, plainKeys := false, apart := false, narrowed := true }
def KernelSpaceUptoSaid : Prop := kernelSpaceUptoRow.holds Tryz.pinned (OpenSpec.upto kernelSpaceSpec)

/-- 'pitotlaw23.KernelTime', WHERE WHAT IT READS IS OF BULK AT MOST 1048576: true; the input reads as it did. -/
def kernelTimeUptoRow : OpenClaim := { program := "ytlacidogpdbpgaagreat", sum := "81f911af5272af7c8654f689358541f7735afcaf4422af246bbfd8dc5ad70e4d", func := "pitot/pitotlaw23.KernelTime", spec := "kernelTime", inPlace := ["internal/abi.NoEscape", "internal/bytealg.MakeNoZero"], unfollowed := true, recurses := true, plainKeys := false, apart := false, narrowed := true }
def KernelTimeUptoSaid : Prop := kernelTimeUptoRow.holds Tryz.pinned (OpenSpec.upto kernelTimeSpec)

/-- 'pitotlaw23.KernelNil', WHERE WHAT IT READS IS OF BULK AT MOST 1048576: true; the input reads as it did. -/
def kernelNilUptoRow : OpenClaim := { program := "ytlacidogpdbpgaagreat", sum := "81f911af5272af7c8654f689358541f7735afcaf4422af246bbfd8dc5ad70e4d", func := "pitot/pitotlaw23.KernelNil", spec := "kernelNil", inPlace := ["internal/abi.NoEscape", "internal/bytealg.MakeNoZero"], unfollowed := true, recurses := true, plainKeys := false, apart := false, narrowed := true }
def KernelNilUptoSaid : Prop := kernelNilUptoRow.holds Tryz.pinned (OpenSpec.upto kernelNilSpec)

/-- 'pitotlaw24.NetSample', WHERE WHAT IT READS IS OF BULK AT MOST 1048576: true; the input reads as it did. -/
def netSampleUptoRow : OpenClaim := { program := "ytlacidogpdbpgaagreat", sum := "81f911af5272af7c8654f689358541f7735afcaf4422af246bbfd8dc5ad70e4d", func := "pitot/pitotlaw24.NetSample", spec := "netSample", inPlace := ["slices.overlaps[pitot/avswitch.waiting]", "internal/abi.NoEscape", "internal/bytealg.MakeNoZero"], unfollowed := true, recurses := true, plainKeys := false, apart := false, narrowed := true }
def NetSampleUptoSaid : Prop := netSampleUptoRow.holds Tryz.pinned (OpenSpec.upto netSampleSpec)

/-- 'pitotlaw24.NetSteps', WHERE WHAT IT READS IS OF BULK AT MOST 1048576: true; the input reads as it did. -/
def netStepsUptoRow : OpenClaim := { program := "ytlacidogpdbpgaagreat", sum := "81f911af5272af7c8654f689358541f7735afcaf4422af246bbfd8dc5ad70e4d", func := "pitot/pitotlaw24.NetSteps", spec := "netSteps", inPlace := ["slices.overlaps[pitot/avswitch.waiting]", "internal/abi.NoEscape", "internal/bytealg.MakeNoZero"], unfollowed := true, recurses := true, plainKeys := false, apart := false, narrowed := true }
def NetStepsUptoSaid : Prop := netStepsUptoRow.holds Tryz.pinned (OpenSpec.upto netStepsSpec)

/-- 'pitotlaw24.NetWhole', WHERE WHAT IT READS IS OF BULK AT MOST 1048576: true; the input reads as it did. -/
def netWholeUptoRow : OpenClaim := { program := "ytlacidogpdbpgaagreat", sum := "81f911af5272af7c8654f689358541f7735afcaf4422af246bbfd8dc5ad70e4d", func := "pitot/pitotlaw24.NetWhole", spec := "netWhole", inPlace := ["slices.overlaps[pitot/avswitch.waiting]", "internal/abi.NoEscape", "internal/bytealg.MakeNoZero"], unfollowed := true, recurses := true, plainKeys := false, apart := false, narrowed := true }
def NetWholeUptoSaid : Prop := netWholeUptoRow.holds Tryz.pinned (OpenSpec.upto netWholeSpec)

/-- 'pitotlaw24.NetAlone', WHERE WHAT IT READS IS OF BULK AT MOST 1048576: true; the input reads as it did. -/
def netAloneUptoRow : OpenClaim := { program := "ytlacidogpdbpgaagreat", sum := "81f911af5272af7c8654f689358541f7735afcaf4422af246bbfd8dc5ad70e4d", func := "pitot/pitotlaw24.NetAlone", spec := "netAlone", inPlace := ["slices.overlaps[pitot/avswitch.waiting]", "internal/abi.NoEscape", "internal/bytealg.MakeNoZero"], unfollowed := true, recurses := true, plainKeys := false, apart := false, narrowed := true }
def NetAloneUptoSaid : Prop := netAloneUptoRow.holds Tryz.pinned (OpenSpec.upto netAloneSpec)

/-- 'pitotlaw24.NetNil', WHERE WHAT IT READS IS OF BULK AT MOST 1048576: true; the input reads as it did. -/
def netNilUptoRow : OpenClaim := { program := "ytlacidogpdbpgaagreat", sum := "81f911af5272af7c8654f689358541f7735afcaf4422af246bbfd8dc5ad70e4d", func := "pitot/pitotlaw24.NetNil", spec := "netNil", inPlace := ["slices.overlaps[pitot/avswitch.waiting]", "internal/abi.NoEscape", "internal/bytealg.MakeNoZero"], unfollowed := true, recurses := true, plainKeys := false, apart := false, narrowed := true }
def NetNilUptoSaid : Prop := netNilUptoRow.holds Tryz.pinned (OpenSpec.upto netNilSpec)

end Rows
end Go.Proofs.YtlacidogpdbpgaaGreat
