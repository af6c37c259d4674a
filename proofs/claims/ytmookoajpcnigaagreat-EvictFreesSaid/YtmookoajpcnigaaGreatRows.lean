/-
  No cell of these rows narrows 'for every input' (looked for: loops, veiled, ifaces, maps, wideKeys, modest, calm, conditions, laid).
  DERIVED. THE GIVEN ROWS OF THIS SEAT. 24 by the template 'for every input the law returns true; each argument reads behind the call as it read before'; 0 by the template 'total and deterministic' (their statements: YtmookoajpcnigaaGreatTotals.lean).
  GIVEN WITH THE SEED: the statements are not yours to turn. If you find one false, say at which input.
  Laid BY PROGRAM, IN A SANDBOX (cutbox-rows.mjs): the forced cells as the released guide's own fill.sh prints them over the translation 740aba1871149bb7… (all of the seat's roots in one cut). By AI agents, Wed Nov 11 2026. No macro, syntax, notation, axiom, sorry.
-/
import Derived.Test.YtmookoajpcnigaaGreatChecked
import GoSem.Claim
import GoSem.ClaimJoined
import GoSem.ClaimMapViews
import Derived.JoinedTies
import Derived.KernelRfl
namespace Go.Proofs.YtmookoajpcnigaaGreat
/- THE CELL 'sum', in the pinned program and in every row, IS THE sha256 OF THE DUMP (.gsa) THAT YtmookoajpcnigaaGreatProg.lean LOADS. Nothing in Lean hashes anything: it is a label: what it is worth is what the hold of that sum in a sandbox is worth. -/
noncomputable def Tryz.pinned : Pinned := { name := "ytmookoajpcnigaagreat", sum := "740aba1871149bb7ca0229b15db84430446c305904f1a30706ac471168c2a59b", checked := Tryz.checked }
namespace Rows
def none {H : Type} : Left H := { results := [], args := [] }

/-- 'headlandlaw19.SpaceZero': WHATEVER THE INPUT: true; the input reads as it did. -/
def spaceZeroSpec : ChangeSpec := { name := "spaceZero", fn := fun _ => fun
  | [d1, d2, d3] => { results := [.lit (.bool true)], args := [d1, d2, d3] }
  | _ => none }
def spaceZeroRow : OpenClaim := { program := "ytmookoajpcnigaagreat", sum := "740aba1871149bb7ca0229b15db84430446c305904f1a30706ac471168c2a59b", func := "headland/headlandlaw19.SpaceZero", spec := "spaceZero", unfollowed := true, recurses := true, plainKeys := false, apart := false }
def SpaceZeroSaid : Prop := spaceZeroRow.holds Tryz.pinned (OpenSpec.ofChange spaceZeroSpec)

/-- ITS FALSE NEIGHBOUR: 'it returns false'. Refute it at one input. -/
def spaceZeroWrong : ChangeSpec := { name := "spaceZero", fn := fun _ => fun
  | [d1, d2, d3] => { results := [.lit (.bool false)], args := [d1, d2, d3] }
  | _ => none }
def SpaceZeroWrongFalsely : Prop := spaceZeroRow.holds Tryz.pinned (OpenSpec.ofChange spaceZeroWrong)

/-- 'headlandlaw19.SpaceDenied': WHATEVER THE INPUT: true; the input reads as it did. -/
def spaceDeniedSpec : ChangeSpec := { name := "spaceDenied", fn := fun _ => fun
  | [d1, d2, d3] => { results := [.lit (.bool true)], args := [d1, d2, d3] }
  | _ => none }
def spaceDeniedRow : OpenClaim := { program := "ytmookoajpcnigaagreat", sum := "740aba1871149bb7ca0229b15db84430446c305904f1a30706ac471168c2a59b", func := "headland/headlandlaw19.SpaceDenied", spec := "spaceDenied", unfollowed := true, recurses := true, plainKeys := false, apart := false }
def SpaceDeniedSaid : Prop := spaceDeniedRow.holds Tryz.pinned (OpenSpec.ofChange spaceDeniedSpec)

/-- ITS FALSE NEIGHBOUR: 'it returns false'. Refute it at one input. -/
def spaceDeniedWrong : ChangeSpec := { name := "spaceDenied", fn := fun _ => fun
  | [d1, d2, d3] => { results := [.lit (.bool false)], args := [d1, d2, d3] }
  | _ => none }
def SpaceDeniedWrongFalsely : Prop := spaceDeniedRow.holds Tryz.pinned (OpenSpec.ofChange spaceDeniedWrong)

/-- 'headlandlaw20.EvictFrees': WHATEVER THE INPUT: true; the input reads as it did. -/
def evictFreesSpec : ChangeSpec := { name := "evictFrees", fn := fun _ => fun
  | [d1, d2] => { results := [.lit (.bool true)], args := [d1, d2] }
  | _ => none }
def evictFreesRow : OpenClaim := { program := "ytmookoajpcnigaagreat", sum := "740aba1871149bb7ca0229b15db84430446c305904f1a30706ac471168c2a59b", func := "headland/headlandlaw20.EvictFrees", spec := "evictFrees", unfollowed := true, recurses := true, plainKeys := false, apart := false }
def EvictFreesSaid : Prop := evictFreesRow.holds Tryz.pinned (OpenSpec.ofChange evictFreesSpec)

/-- ITS FALSE NEIGHBOUR: 'it returns false'. Refute it at one input. -/
def evictFreesWrong : ChangeSpec := { name := "evictFrees", fn := fun _ => fun
  | [d1, d2] => { results := [.lit (.bool false)], args := [d1, d2] }
  | _ => none }
def EvictFreesWrongFalsely : Prop := evictFreesRow.holds Tryz.pinned (OpenSpec.ofChange evictFreesWrong)

/-- 'headlandlaw23.OfflineNone': WHATEVER THE INPUT: true; the input reads as it did. -/
def offlineNoneSpec : ChangeSpec := { name := "offlineNone", fn := fun _ => fun
  | [d] => { results := [.lit (.bool true)], args := [d] }
  | _ => none }
def offlineNoneRow : OpenClaim := { program := "ytmookoajpcnigaagreat", sum := "740aba1871149bb7ca0229b15db84430446c305904f1a30706ac471168c2a59b", func := "headland/headlandlaw23.OfflineNone", spec := "offlineNone", unfollowed := true, recurses := true, plainKeys := false, apart := false }
def OfflineNoneSaid : Prop := offlineNoneRow.holds Tryz.pinned (OpenSpec.ofChange offlineNoneSpec)

/-- ITS FALSE NEIGHBOUR: 'it returns false'. Refute it at one input. -/
def offlineNoneWrong : ChangeSpec := { name := "offlineNone", fn := fun _ => fun
  | [d] => { results := [.lit (.bool false)], args := [d] }
  | _ => none }
def OfflineNoneWrongFalsely : Prop := offlineNoneRow.holds Tryz.pinned (OpenSpec.ofChange offlineNoneWrong)

/-- 'headlandlaw23.OfflinePinned': WHATEVER THE INPUT: true; the input reads as it did. -/
def offlinePinnedSpec : ChangeSpec := { name := "offlinePinned", fn := fun _ => fun
  | [d1, d2] => { results := [.lit (.bool true)], args := [d1, d2] }
  | _ => none }
def offlinePinnedRow : OpenClaim := { program := "ytmookoajpcnigaagreat", sum := "740aba1871149bb7ca0229b15db84430446c305904f1a30706ac471168c2a59b", func := "headland/headlandlaw23.OfflinePinned", spec := "offlinePinned", unfollowed := true, recurses := true, plainKeys := false, apart := false }
def OfflinePinnedSaid : Prop := offlinePinnedRow.holds Tryz.pinned (OpenSpec.ofChange offlinePinnedSpec)

/-- ITS FALSE NEIGHBOUR: 'it returns false'. Refute it at one input. -/
def offlinePinnedWrong : ChangeSpec := { name := "offlinePinned", fn := fun _ => fun
  | [d1, d2] => { results := [.lit (.bool false)], args := [d1, d2] }
  | _ => none }
def OfflinePinnedWrongFalsely : Prop := offlinePinnedRow.holds Tryz.pinned (OpenSpec.ofChange offlinePinnedWrong)

/-- 'headlandlaw20.EvictClean': WHATEVER THE INPUT: true; the input reads as it did. -/
def evictCleanSpec : ChangeSpec := { name := "evictClean", fn := fun _ => fun
  | [d1, d2] => { results := [.lit (.bool true)], args := [d1, d2] }
  | _ => none }
def evictCleanRow : OpenClaim := { program := "ytmookoajpcnigaagreat", sum := "740aba1871149bb7ca0229b15db84430446c305904f1a30706ac471168c2a59b", func := "headland/headlandlaw20.EvictClean", spec := "evictClean", unfollowed := true, recurses := true, plainKeys := false, apart := false }
def EvictCleanSaid : Prop := evictCleanRow.holds Tryz.pinned (OpenSpec.ofChange evictCleanSpec)

/-- ITS FALSE NEIGHBOUR: 'it returns false'. Refute it at one input. -/
def evictCleanWrong : ChangeSpec := { name := "evictClean", fn := fun _ => fun
  | [d1, d2] => { results := [.lit (.bool false)], args := [d1, d2] }
  | _ => none }
def EvictCleanWrongFalsely : Prop := evictCleanRow.holds Tryz.pinned (OpenSpec.ofChange evictCleanWrong)

/-- 'headlandlaw19.SpaceFork': WHATEVER THE INPUT: true; the input reads as it did. -/
def spaceForkSpec : ChangeSpec := { name := "spaceFork", fn := fun _ => fun
  | [d1, d2, d3, d4] => { results := [.lit (.bool true)], args := [d1, d2, d3, d4] }
  | _ => none }
def spaceForkRow : OpenClaim := { program := "ytmookoajpcnigaagreat", sum := "740aba1871149bb7ca0229b15db84430446c305904f1a30706ac471168c2a59b", func := "headland/headlandlaw19.SpaceFork", spec := "spaceFork", unfollowed := true, recurses := true, plainKeys := false, apart := false }
def SpaceForkSaid : Prop := spaceForkRow.holds Tryz.pinned (OpenSpec.ofChange spaceForkSpec)

/-- ITS FALSE NEIGHBOUR: 'it returns false'. Refute it at one input. -/
def spaceForkWrong : ChangeSpec := { name := "spaceFork", fn := fun _ => fun
  | [d1, d2, d3, d4] => { results := [.lit (.bool false)], args := [d1, d2, d3, d4] }
  | _ => none }
def SpaceForkWrongFalsely : Prop := spaceForkRow.holds Tryz.pinned (OpenSpec.ofChange spaceForkWrong)

/-- 'headlandlaw20.EvictSync': WHATEVER THE INPUT: true; the input reads as it did. -/
def evictSyncSpec : ChangeSpec := { name := "evictSync", fn := fun _ => fun
  | [d1, d2, d3] => { results := [.lit (.bool true)], args := [d1, d2, d3] }
  | _ => none }
def evictSyncRow : OpenClaim := { program := "ytmookoajpcnigaagreat", sum := "740aba1871149bb7ca0229b15db84430446c305904f1a30706ac471168c2a59b", func := "headland/headlandlaw20.EvictSync", spec := "evictSync", unfollowed := true, recurses := true, plainKeys := false, apart := false }
def EvictSyncSaid : Prop := evictSyncRow.holds Tryz.pinned (OpenSpec.ofChange evictSyncSpec)

/-- ITS FALSE NEIGHBOUR: 'it returns false'. Refute it at one input. -/
def evictSyncWrong : ChangeSpec := { name := "evictSync", fn := fun _ => fun
  | [d1, d2, d3] => { results := [.lit (.bool false)], args := [d1, d2, d3] }
  | _ => none }
def EvictSyncWrongFalsely : Prop := evictSyncRow.holds Tryz.pinned (OpenSpec.ofChange evictSyncWrong)

/-- 'headlandlaw20.EvictForked': WHATEVER THE INPUT: true; the input reads as it did. -/
def evictForkedSpec : ChangeSpec := { name := "evictForked", fn := fun _ => fun
  | [d1, d2, d3] => { results := [.lit (.bool true)], args := [d1, d2, d3] }
  | _ => none }
def evictForkedRow : OpenClaim := { program := "ytmookoajpcnigaagreat", sum := "740aba1871149bb7ca0229b15db84430446c305904f1a30706ac471168c2a59b", func := "headland/headlandlaw20.EvictForked", spec := "evictForked", unfollowed := true, recurses := true, plainKeys := false, apart := false }
def EvictForkedSaid : Prop := evictForkedRow.holds Tryz.pinned (OpenSpec.ofChange evictForkedSpec)

/-- ITS FALSE NEIGHBOUR: 'it returns false'. Refute it at one input. -/
def evictForkedWrong : ChangeSpec := { name := "evictForked", fn := fun _ => fun
  | [d1, d2, d3] => { results := [.lit (.bool false)], args := [d1, d2, d3] }
  | _ => none }
def EvictForkedWrongFalsely : Prop := evictForkedRow.holds Tryz.pinned (OpenSpec.ofChange evictForkedWrong)

/-- 'headlandlaw22.HurtNone': WHATEVER THE INPUT: true; the input reads as it did. -/
def hurtNoneSpec : ChangeSpec := { name := "hurtNone", fn := fun _ => fun
  | [d1, d2] => { results := [.lit (.bool true)], args := [d1, d2] }
  | _ => none }
def hurtNoneRow : OpenClaim := { program := "ytmookoajpcnigaagreat", sum := "740aba1871149bb7ca0229b15db84430446c305904f1a30706ac471168c2a59b", func := "headland/headlandlaw22.HurtNone", spec := "hurtNone", unfollowed := true, recurses := true, plainKeys := false, apart := false }
def HurtNoneSaid : Prop := hurtNoneRow.holds Tryz.pinned (OpenSpec.ofChange hurtNoneSpec)

/-- ITS FALSE NEIGHBOUR: 'it returns false'. Refute it at one input. -/
def hurtNoneWrong : ChangeSpec := { name := "hurtNone", fn := fun _ => fun
  | [d1, d2] => { results := [.lit (.bool false)], args := [d1, d2] }
  | _ => none }
def HurtNoneWrongFalsely : Prop := hurtNoneRow.holds Tryz.pinned (OpenSpec.ofChange hurtNoneWrong)

/-- 'headlandlaw22.HurtSoft': WHATEVER THE INPUT: true; the input reads as it did. -/
def hurtSoftSpec : ChangeSpec := { name := "hurtSoft", fn := fun _ => fun
  | [d1, d2] => { results := [.lit (.bool true)], args := [d1, d2] }
  | _ => none }
def hurtSoftRow : OpenClaim := { program := "ytmookoajpcnigaagreat", sum := "740aba1871149bb7ca0229b15db84430446c305904f1a30706ac471168c2a59b", func := "headland/headlandlaw22.HurtSoft", spec := "hurtSoft", unfollowed := true, recurses := true, plainKeys := false, apart := false }
def HurtSoftSaid : Prop := hurtSoftRow.holds Tryz.pinned (OpenSpec.ofChange hurtSoftSpec)

/-- ITS FALSE NEIGHBOUR: 'it returns false'. Refute it at one input. -/
def hurtSoftWrong : ChangeSpec := { name := "hurtSoft", fn := fun _ => fun
  | [d1, d2] => { results := [.lit (.bool false)], args := [d1, d2] }
  | _ => none }
def HurtSoftWrongFalsely : Prop := hurtSoftRow.holds Tryz.pinned (OpenSpec.ofChange hurtSoftWrong)

/-- 'headlandlaw19.SpaceNone': WHATEVER THE INPUT: true; the input reads as it did. -/
def spaceNoneSpec : ChangeSpec := { name := "spaceNone", fn := fun _ => fun
  | [d1, d2] => { results := [.lit (.bool true)], args := [d1, d2] }
  | _ => none }
def spaceNoneRow : OpenClaim := { program := "ytmookoajpcnigaagreat", sum := "740aba1871149bb7ca0229b15db84430446c305904f1a30706ac471168c2a59b", func := "headland/headlandlaw19.SpaceNone", spec := "spaceNone", unfollowed := true, recurses := true, plainKeys := false, apart := false }
def SpaceNoneSaid : Prop := spaceNoneRow.holds Tryz.pinned (OpenSpec.ofChange spaceNoneSpec)

/-- ITS FALSE NEIGHBOUR: 'it returns false'. Refute it at one input. -/
def spaceNoneWrong : ChangeSpec := { name := "spaceNone", fn := fun _ => fun
  | [d1, d2] => { results := [.lit (.bool false)], args := [d1, d2] }
  | _ => none }
def SpaceNoneWrongFalsely : Prop := spaceNoneRow.holds Tryz.pinned (OpenSpec.ofChange spaceNoneWrong)

/-- 'headlandlaw22.HurtClean': WHATEVER THE INPUT: true; the input reads as it did. -/
def hurtCleanSpec : ChangeSpec := { name := "hurtClean", fn := fun _ => fun
  | [d1, d2, d3, d4] => { results := [.lit (.bool true)], args := [d1, d2, d3, d4] }
  | _ => none }
def hurtCleanRow : OpenClaim := { program := "ytmookoajpcnigaagreat", sum := "740aba1871149bb7ca0229b15db84430446c305904f1a30706ac471168c2a59b", func := "headland/headlandlaw22.HurtClean", spec := "hurtClean", unfollowed := true, recurses := true, plainKeys := false, apart := false }
def HurtCleanSaid : Prop := hurtCleanRow.holds Tryz.pinned (OpenSpec.ofChange hurtCleanSpec)

/-- ITS FALSE NEIGHBOUR: 'it returns false'. Refute it at one input. -/
def hurtCleanWrong : ChangeSpec := { name := "hurtClean", fn := fun _ => fun
  | [d1, d2, d3, d4] => { results := [.lit (.bool false)], args := [d1, d2, d3, d4] }
  | _ => none }
def HurtCleanWrongFalsely : Prop := hurtCleanRow.holds Tryz.pinned (OpenSpec.ofChange hurtCleanWrong)

/-- 'headlandlaw24.MachineDown': WHATEVER THE INPUT: true; the input reads as it did. -/
def machineDownSpec : ChangeSpec := { name := "machineDown", fn := fun _ => fun
  | [d] => { results := [.lit (.bool true)], args := [d] }
  | _ => none }
def machineDownRow : OpenClaim := { program := "ytmookoajpcnigaagreat", sum := "740aba1871149bb7ca0229b15db84430446c305904f1a30706ac471168c2a59b", func := "headland/headlandlaw24.MachineDown", spec := "machineDown", unfollowed := true, recurses := true, plainKeys := false, apart := false }
def MachineDownSaid : Prop := machineDownRow.holds Tryz.pinned (OpenSpec.ofChange machineDownSpec)

/-- ITS FALSE NEIGHBOUR: 'it returns false'. Refute it at one input. -/
def machineDownWrong : ChangeSpec := { name := "machineDown", fn := fun _ => fun
  | [d] => { results := [.lit (.bool false)], args := [d] }
  | _ => none }
def MachineDownWrongFalsely : Prop := machineDownRow.holds Tryz.pinned (OpenSpec.ofChange machineDownWrong)

/-- 'headlandlaw24.MachineSects': WHATEVER THE INPUT: true; the input reads as it did. -/
def machineSectsSpec : ChangeSpec := { name := "machineSects", fn := fun _ => fun
  | [d] => { results := [.lit (.bool true)], args := [d] }
  | _ => none }
def machineSectsRow : OpenClaim := { program := "ytmookoajpcnigaagreat", sum := "740aba1871149bb7ca0229b15db84430446c305904f1a30706ac471168c2a59b", func := "headland/headlandlaw24.MachineSects", spec := "machineSects", unfollowed := true, recurses := true, plainKeys := false, apart := false }
def MachineSectsSaid : Prop := machineSectsRow.holds Tryz.pinned (OpenSpec.ofChange machineSectsSpec)

/-- ITS FALSE NEIGHBOUR: 'it returns false'. Refute it at one input. -/
def machineSectsWrong : ChangeSpec := { name := "machineSects", fn := fun _ => fun
  | [d] => { results := [.lit (.bool false)], args := [d] }
  | _ => none }
def MachineSectsWrongFalsely : Prop := machineSectsRow.holds Tryz.pinned (OpenSpec.ofChange machineSectsWrong)

/-- 'headlandlaw24.MachineBalloon': WHATEVER THE INPUT: true; the input reads as it did. -/
def machineBalloonSpec : ChangeSpec := { name := "machineBalloon", fn := fun _ => fun
  | [d1, d2] => { results := [.lit (.bool true)], args := [d1, d2] }
  | _ => none }
def machineBalloonRow : OpenClaim := { program := "ytmookoajpcnigaagreat", sum := "740aba1871149bb7ca0229b15db84430446c305904f1a30706ac471168c2a59b", func := "headland/headlandlaw24.MachineBalloon", spec := "machineBalloon", unfollowed := true, recurses := true, plainKeys := false, apart := false }
def MachineBalloonSaid : Prop := machineBalloonRow.holds Tryz.pinned (OpenSpec.ofChange machineBalloonSpec)

/-- ITS FALSE NEIGHBOUR: 'it returns false'. Refute it at one input. -/
def machineBalloonWrong : ChangeSpec := { name := "machineBalloon", fn := fun _ => fun
  | [d1, d2] => { results := [.lit (.bool false)], args := [d1, d2] }
  | _ => none }
def MachineBalloonWrongFalsely : Prop := machineBalloonRow.holds Tryz.pinned (OpenSpec.ofChange machineBalloonWrong)

/-- 'headlandlaw24.MachineRemoved': WHATEVER THE INPUT: true; the input reads as it did. -/
def machineRemovedSpec : ChangeSpec := { name := "machineRemoved", fn := fun _ => fun
  | [d1, d2] => { results := [.lit (.bool true)], args := [d1, d2] }
  | _ => none }
def machineRemovedRow : OpenClaim := { program := "ytmookoajpcnigaagreat", sum := "740aba1871149bb7ca0229b15db84430446c305904f1a30706ac471168c2a59b", func := "headland/headlandlaw24.MachineRemoved", spec := "machineRemoved", unfollowed := true, recurses := true, plainKeys := false, apart := false }
def MachineRemovedSaid : Prop := machineRemovedRow.holds Tryz.pinned (OpenSpec.ofChange machineRemovedSpec)

/-- ITS FALSE NEIGHBOUR: 'it returns false'. Refute it at one input. -/
def machineRemovedWrong : ChangeSpec := { name := "machineRemoved", fn := fun _ => fun
  | [d1, d2] => { results := [.lit (.bool false)], args := [d1, d2] }
  | _ => none }
def MachineRemovedWrongFalsely : Prop := machineRemovedRow.holds Tryz.pinned (OpenSpec.ofChange machineRemovedWrong)

/-- 'headlandlaw24.MachineBad': WHATEVER THE INPUT: true; the input reads as it did. -/
def machineBadSpec : ChangeSpec := { name := "machineBad", fn := fun _ => fun
  | [d1, d2, d3] => { results := [.lit (.bool true)], args := [d1, d2, d3] }
  | _ => none }
def machineBadRow : OpenClaim := { program := "ytmookoajpcnigaagreat", sum := "740aba1871149bb7ca0229b15db84430446c305904f1a30706ac471168c2a59b", func := "headland/headlandlaw24.MachineBad", spec := "machineBad", unfollowed := true, recurses := true, plainKeys := false, apart := false }
def MachineBadSaid : Prop := machineBadRow.holds Tryz.pinned (OpenSpec.ofChange machineBadSpec)

/-- ITS FALSE NEIGHBOUR: 'it returns false'. Refute it at one input. -/
def machineBadWrong : ChangeSpec := { name := "machineBad", fn := fun _ => fun
  | [d1, d2, d3] => { results := [.lit (.bool false)], args := [d1, d2, d3] }
  | _ => none }
def MachineBadWrongFalsely : Prop := machineBadRow.holds Tryz.pinned (OpenSpec.ofChange machineBadWrong)

/-- 'headlandlaw24.MachineFails': WHATEVER THE INPUT: true; the input reads as it did. -/
def machineFailsSpec : ChangeSpec := { name := "machineFails", fn := fun _ => fun
  | [d1, d2, d3] => { results := [.lit (.bool true)], args := [d1, d2, d3] }
  | _ => none }
def machineFailsRow : OpenClaim := { program := "ytmookoajpcnigaagreat", sum := "740aba1871149bb7ca0229b15db84430446c305904f1a30706ac471168c2a59b", func := "headland/headlandlaw24.MachineFails", spec := "machineFails", unfollowed := true, recurses := true, plainKeys := false, apart := false }
def MachineFailsSaid : Prop := machineFailsRow.holds Tryz.pinned (OpenSpec.ofChange machineFailsSpec)

/-- ITS FALSE NEIGHBOUR: 'it returns false'. Refute it at one input. -/
def machineFailsWrong : ChangeSpec := { name := "machineFails", fn := fun _ => fun
  | [d1, d2, d3] => { results := [.lit (.bool false)], args := [d1, d2, d3] }
  | _ => none }
def MachineFailsWrongFalsely : Prop := machineFailsRow.holds Tryz.pinned (OpenSpec.ofChange machineFailsWrong)

/-- 'headlandlaw24.MachineKinds': WHATEVER THE INPUT: true; the input reads as it did. -/
def machineKindsSpec : ChangeSpec := { name := "machineKinds", fn := fun _ => fun
  | [d] => { results := [.lit (.bool true)], args := [d] }
  | _ => none }
def machineKindsRow : OpenClaim := { program := "ytmookoajpcnigaagreat", sum := "740aba1871149bb7ca0229b15db84430446c305904f1a30706ac471168c2a59b", func := "headland/headlandlaw24.MachineKinds", spec := "machineKinds", unfollowed := true, recurses := true, plainKeys := false, apart := false }
def MachineKindsSaid : Prop := machineKindsRow.holds Tryz.pinned (OpenSpec.ofChange machineKindsSpec)

/-- ITS FALSE NEIGHBOUR: 'it returns false'. Refute it at one input. -/
def machineKindsWrong : ChangeSpec := { name := "machineKinds", fn := fun _ => fun
  | [d] => { results := [.lit (.bool false)], args := [d] }
  | _ => none }
def MachineKindsWrongFalsely : Prop := machineKindsRow.holds Tryz.pinned (OpenSpec.ofChange machineKindsWrong)

/-- 'headlandlaw24.MachineNone': WHATEVER THE INPUT: true; the input reads as it did. -/
def machineNoneSpec : ChangeSpec := { name := "machineNone", fn := fun _ => fun
  | [d1, d2] => { results := [.lit (.bool true)], args := [d1, d2] }
  | _ => none }
def machineNoneRow : OpenClaim := { program := "ytmookoajpcnigaagreat", sum := "740aba1871149bb7ca0229b15db84430446c305904f1a30706ac471168c2a59b", func := "headland/headlandlaw24.MachineNone", spec := "machineNone", unfollowed := true, recurses := true, plainKeys := false, apart := false }
def MachineNoneSaid : Prop := machineNoneRow.holds Tryz.pinned (OpenSpec.ofChange machineNoneSpec)

/-- ITS FALSE NEIGHBOUR: 'it returns false'. Refute it at one input. -/
def machineNoneWrong : ChangeSpec := { name := "machineNone", fn := fun _ => fun
  | [d1, d2] => { results := [.lit (.bool false)], args := [d1, d2] }
  | _ => none }
def MachineNoneWrongFalsely : Prop := machineNoneRow.holds Tryz.pinned (OpenSpec.ofChange machineNoneWrong)

/-- 'headlandtop.WholeLasts': WHATEVER THE INPUT: true; the input reads as it did. -/
def wholeLastsSpec : ChangeSpec := { name := "wholeLasts", fn := fun _ => fun
  | [d1, d2, d3, d4, d5, d6] => { results := [.lit (.bool true)], args := [d1, d2, d3, d4, d5, d6] }
  | _ => none }
def wholeLastsRow : OpenClaim := { program := "ytmookoajpcnigaagreat", sum := "740aba1871149bb7ca0229b15db84430446c305904f1a30706ac471168c2a59b", func := "headland/headlandtop.WholeLasts", spec := "wholeLasts", unfollowed := true, recurses := true, plainKeys := false, apart := false }
def WholeLastsSaid : Prop := wholeLastsRow.holds Tryz.pinned (OpenSpec.ofChange wholeLastsSpec)

/-- ITS FALSE NEIGHBOUR: 'it returns false'. Refute it at one input. -/
def wholeLastsWrong : ChangeSpec := { name := "wholeLasts", fn := fun _ => fun
  | [d1, d2, d3, d4, d5, d6] => { results := [.lit (.bool false)], args := [d1, d2, d3, d4, d5, d6] }
  | _ => none }
def WholeLastsWrongFalsely : Prop := wholeLastsRow.holds Tryz.pinned (OpenSpec.ofChange wholeLastsWrong)

/-- 'headlandtop.WholeEnds': WHATEVER THE INPUT: true; the input reads as it did. -/
def wholeEndsSpec : ChangeSpec := { name := "wholeEnds", fn := fun _ => fun
  | [d] => { results := [.lit (.bool true)], args := [d] }
  | _ => none }
def wholeEndsRow : OpenClaim := { program := "ytmookoajpcnigaagreat", sum := "740aba1871149bb7ca0229b15db84430446c305904f1a30706ac471168c2a59b", func := "headland/headlandtop.WholeEnds", spec := "wholeEnds", unfollowed := true, recurses := true, plainKeys := false, apart := false }
def WholeEndsSaid : Prop := wholeEndsRow.holds Tryz.pinned (OpenSpec.ofChange wholeEndsSpec)

/-- ITS FALSE NEIGHBOUR: 'it returns false'. Refute it at one input. -/
def wholeEndsWrong : ChangeSpec := { name := "wholeEnds", fn := fun _ => fun
  | [d] => { results := [.lit (.bool false)], args := [d] }
  | _ => none }
def WholeEndsWrongFalsely : Prop := wholeEndsRow.holds Tryz.pinned (OpenSpec.ofChange wholeEndsWrong)

/-- 'headlandtop.WholeKilled': WHATEVER THE INPUT: true; the input reads as it did. -/
def wholeKilledSpec : ChangeSpec := { name := "wholeKilled", fn := fun _ => fun
  | [d1, d2, d3] => { results := [.lit (.bool true)], args := [d1, d2, d3] }
  | _ => none }
def wholeKilledRow : OpenClaim := { program := "ytmookoajpcnigaagreat", sum := "740aba1871149bb7ca0229b15db84430446c305904f1a30706ac471168c2a59b", func := "headland/headlandtop.WholeKilled", spec := "wholeKilled", unfollowed := true, recurses := true, plainKeys := false, apart := false }
def WholeKilledSaid : Prop := wholeKilledRow.holds Tryz.pinned (OpenSpec.ofChange wholeKilledSpec)

/-- ITS FALSE NEIGHBOUR: 'it returns false'. Refute it at one input. -/
def wholeKilledWrong : ChangeSpec := { name := "wholeKilled", fn := fun _ => fun
  | [d1, d2, d3] => { results := [.lit (.bool false)], args := [d1, d2, d3] }
  | _ => none }
def WholeKilledWrongFalsely : Prop := wholeKilledRow.holds Tryz.pinned (OpenSpec.ofChange wholeKilledWrong)

/- THE SECOND FORM. 'bulk': how many values and letters a reading holds, each counted each time it is reached (what is shared counts as often as it is met; a slice's spare places count too). A statement '..UptoSaid' is the law's where the arguments, and the package variables that the reading takes, are together of bulk at most 1048576: NARROWER than '..Said'. Prove '..Said' where nothing that the law and all that it calls make is longer than what came in: it says more and counts as full. Else prove '..UptoSaid'. A law counts once. -/
mutual
def uptoBulk {H : Type} : DataW H → Nat
  | .lit (.string bytes) => bytes.length + 1
  | .lit _ => 1
  | .nil => 1
  | .ptr d => uptoBulk d + 1
  | .slice elems spare => uptoBulkAll elems + uptoBulkAll spare + 1
  | .agg parts => uptoBulkAll parts + 1
  | .iface _ d => uptoBulk d + 1
  | .map entries => uptoBulkEntries entries + 1
  | .held _ => 1
def uptoBulkAll {H : Type} : List (DataW H) → Nat
  | [] => 0
  | d :: r => uptoBulk d + uptoBulkAll r
def uptoBulkEntries {H : Type} : List (Lit × DataW H) → Nat
  | [] => 0
  | x :: r => uptoBulkEntry x + uptoBulkEntries r
def uptoBulkEntry {H : Type} : Lit × DataW H → Nat
  | (.string bytes, d) => bytes.length + uptoBulk d + 1
  | (_, d) => uptoBulk d + 1
 end
def uptoSmall : (H : Type) → List (DataW H) → Bool := fun _ ds => decide (uptoBulkAll ds ≤ 1048576)
def OpenSpec.upto (s : _root_.Go.ChangeSpec) : _root_.Go.OpenSpec := { _root_.Go.OpenSpec.ofChange s with cond := some uptoSmall }

/-- 'headlandlaw19.SpaceZero', WHERE WHAT IT READS IS OF BULK AT MOST 1048576: true; the input reads as it did. -/
def spaceZeroUptoRow : OpenClaim := { program := "ytmookoajpcnigaagreat", sum := "740aba1871149bb7ca0229b15db84430446c305904f1a30706ac471168c2a59b", func := "headland/headlandlaw19.SpaceZero", spec := "spaceZero", unfollowed := true, recurses := true, plainKeys := false, apart := false, narrowed := true }
def SpaceZeroUptoSaid : Prop := spaceZeroUptoRow.holds Tryz.pinned (OpenSpec.upto spaceZeroSpec)

/-- 'headlandlaw19.SpaceDenied', WHERE WHAT IT READS IS OF BULK AT MOST 1048576: true; the input reads as it did. -/
def spaceDeniedUptoRow : OpenClaim := { program := "ytmookoajpcnigaagreat", sum := "740aba1871149bb7ca0229b15db84430446c305904f1a30706ac471168c2a59b", func := "headland/headlandlaw19.SpaceDenied", spec := "spaceDenied", unfollowed := true, recurses := true, plainKeys := false, apart := false, narrowed := true }
def SpaceDeniedUptoSaid : Prop := spaceDeniedUptoRow.holds Tryz.pinned (OpenSpec.upto spaceDeniedSpec)

/-- 'headlandlaw20.EvictFrees', WHERE WHAT IT READS IS OF BULK AT MOST 1048576: true; the input reads as it did. -/
def evictFreesUptoRow : OpenClaim := { program := "ytmookoajpcnigaagreat", sum := "740aba1871149bb7ca0229b15db84430446c305904f1a30706ac471168c2a59b", func := "headland/headlandlaw20.EvictFrees", spec := "evictFrees", unfollowed := true, recurses := true, plainKeys := false, apart := false, narrowed := true }
def EvictFreesUptoSaid : Prop := evictFreesUptoRow.holds Tryz.pinned (OpenSpec.upto evictFreesSpec)

/-- 'headlandlaw23.OfflineNone', WHERE WHAT IT READS IS OF BULK AT MOST 1048576: true; the input reads as it did. -/
def offlineNoneUptoRow : OpenClaim := { program := "ytmookoajpcnigaagreat", sum := "740aba1871149bb7ca0229b15db84430446c305904f1a30706ac471168c2a59b", func := "headland/headlandlaw23.OfflineNone", spec := "offlineNone", unfollowed := true, recurses := true, plainKeys := false, apart := false, narrowed := true }
def OfflineNoneUptoSaid : Prop := offlineNoneUptoRow.holds Tryz.pinned (OpenSpec.upto offlineNoneSpec)

/-- 'headlandlaw23.OfflinePinned', WHERE WHAT IT READS IS OF BULK AT MOST 1048576: true; the input reads as it did. -/
def offlinePinnedUptoRow : OpenClaim := { program := "ytmookoajpcnigaagreat", sum := "740aba1871149bb7ca0229b15db84430446c305904f1a30706ac471168c2a59b", func := "headland/headlandlaw23.OfflinePinned", spec := "offlinePinned", unfollowed := true, recurses := true, plainKeys := false, apart := false, narrowed := true }
def OfflinePinnedUptoSaid : Prop := offlinePinnedUptoRow.holds Tryz.pinned (OpenSpec.upto offlinePinnedSpec)

/-- 'headlandlaw20.EvictClean', WHERE WHAT IT READS IS OF BULK AT MOST 1048576: true; the input reads as it did. -/
def evictCleanUptoRow : OpenClaim := { program := "ytmookoajpcnigaagreat", sum := "740aba1871149bb7ca0229b15db84430446c305904f1a30706ac471168c2a59b", func := "headland/headlandlaw20.EvictClean", spec := "evictClean", unfollowed := true, recurses := true, plainKeys := false, apart := false, narrowed := true }
def EvictCleanUptoSaid : Prop := evictCleanUptoRow.holds Tryz.pinned (OpenSpec.upto evictCleanSpec)

/-- 'headlandlaw19.SpaceFork', WHERE WHAT IT READS IS OF BULK AT MOST 1048576: true; the input reads as it did. -/
def spaceForkUptoRow : OpenClaim := { program := "ytmookoajpcnigaagreat", sum := "740aba1871149bb7ca0229b15db84430446c305904f1a30706ac471168c2a59b", func := "headland/headlandlaw19.SpaceFork", spec := "spaceFork", unfollowed := true, recurses := true, plainKeys := false, apart := false, narrowed := true }
def SpaceForkUptoSaid : Prop := spaceForkUptoRow.holds Tryz.pinned (OpenSpec.upto spaceForkSpec)

/-- 'headlandlaw20.EvictSync', WHERE WHAT IT READS IS OF BULK AT MOST 1048576: true; the input reads as it did. -/
def evictSyncUptoRow : OpenClaim := { program := "ytmookoajpcnigaagreat", sum := "740aba1871149bb7ca0229b15db84430446c305904f1a30706ac471168c2a59b", func := "headland/headlandlaw20.EvictSync", spec := "evictSync", unfollowed := true, recurses := true, plainKeys := false, apart := false, narrowed := true }
def EvictSyncUptoSaid : Prop := evictSyncUptoRow.holds Tryz.pinned (OpenSpec.upto evictSyncSpec)

/-- 'headlandlaw20.EvictForked', WHERE WHAT IT READS IS OF BULK AT MOST 1048576: true; the input reads as it did. -/
def evictForkedUptoRow : OpenClaim := { program := "ytmookoajpcnigaagreat", sum := "740aba1871149bb7ca0229b15db84430446c305904f1a30706ac471168c2a59b", func := "headland/headlandlaw20.EvictForked", spec := "evictForked", unfollowed := true, recurses := true, plainKeys := false, apart := false, narrowed := true }
def EvictForkedUptoSaid : Prop := evictForkedUptoRow.holds Tryz.pinned (OpenSpec.upto evictForkedSpec)

/-- 'headlandlaw22.HurtNone', WHERE WHAT IT READS IS OF BULK AT MOST 1048576: true; the input reads as it did. -/
def hurtNoneUptoRow : OpenClaim := { program := "ytmookoajpcnigaagreat", sum := "740aba1871149bb7ca0229b15db84430446c305904f1a30706ac471168c2a59b", func := "headland/headlandlaw22.HurtNone", spec := "hurtNone", unfollowed := true, recurses := true, plainKeys := false, apart := false, narrowed := true }
def HurtNoneUptoSaid : Prop := hurtNoneUptoRow.holds Tryz.pinned (OpenSpec.upto hurtNoneSpec)

/-- 'headlandlaw22.HurtSoft', WHERE WHAT IT READS IS OF BULK AT MOST 1048576: true; the input reads as it did. -/
def hurtSoftUptoRow : OpenClaim := { program := "ytmookoajpcnigaagreat", sum := "740aba1871149bb7ca0229b15db84430446c305904f1a30706ac471168c2a59b", func := "headland/headlandlaw22.HurtSoft", spec := "hurtSoft", unfollowed := true, recurses := true, plainKeys := false, apart := false, narrowed := true }
def HurtSoftUptoSaid : Prop := hurtSoftUptoRow.holds Tryz.pinned (OpenSpec.upto hurtSoftSpec)

/-- 'headlandlaw19.SpaceNone', WHERE WHAT IT READS IS OF BULK AT MOST 1048576: true; the input reads as it did. -/
def spaceNoneUptoRow : OpenClaim := { program := "ytmookoajpcnigaagreat", sum := "740aba1871149bb7ca0229b15db84430446c305904f1a30706ac471168c2a59b", func := "headland/headlandlaw19.SpaceNone", spec := "spaceNone", unfollowed := true, recurses := true, plainKeys := false, apart := false, narrowed := true }
def SpaceNoneUptoSaid : Prop := spaceNoneUptoRow.holds Tryz.pinned (OpenSpec.upto spaceNoneSpec)

/-- 'headlandlaw22.HurtClean', WHERE WHAT IT READS IS OF BULK AT MOST 1048576: true; the input reads as it did. -/
def hurtCleanUptoRow : OpenClaim := { program := "ytmookoajpcnigaagreat", sum := "740aba1871149bb7ca0229b15db84430446c305904f1a30706ac471168c2a59b", func := "headland/headlandlaw22.HurtClean", spec := "hurtClean", unfollowed := true, recurses := true, plainKeys := false, apart := false, narrowed := true }
def HurtCleanUptoSaid : Prop := hurtCleanUptoRow.holds Tryz.pinned (OpenSpec.upto hurtCleanSpec)

/-- 'headlandlaw24.MachineDown', WHERE WHAT IT READS IS OF BULK AT MOST 1048576: true; the input reads as it did. -/
def machineDownUptoRow : OpenClaim := { program := "ytmookoajpcnigaagreat", sum := "740aba1871149bb7ca0229b15db84430446c305904f1a30706ac471168c2a59b", func := "headland/headlandlaw24.MachineDown", spec := "machineDown", unfollowed := true, recurses := true, plainKeys := false, apart := false, narrowed := true }
def MachineDownUptoSaid : Prop := machineDownUptoRow.holds Tryz.pinned (OpenSpec.upto machineDownSpec)

/-- 'headlandlaw24.MachineSects', WHERE WHAT IT READS IS OF BULK AT MOST 1048576: true; the input reads as it did. -/
def machineSectsUptoRow : OpenClaim := { program := "ytmookoajpcnigaagreat", sum := "740aba1871149bb7ca0229b15db84430446c305904f1a30706ac471168c2a59b", func := "headland/headlandlaw24.MachineSects", spec := "machineSects", unfollowed := true, recurses := true, plainKeys := false, apart := false, narrowed := true }
def MachineSectsUptoSaid : Prop := machineSectsUptoRow.holds Tryz.pinned (OpenSpec.upto machineSectsSpec)

/-- 'headlandlaw24.MachineBalloon', WHERE WHAT IT READS IS OF BULK AT MOST 1048576: true; the input reads as it did. -/
def machineBalloonUptoRow : OpenClaim := { program := "ytmookoajpcnigaagreat", sum := "740aba1871149bb7ca0229b15db84430446c305904f1a30706ac471168c2a59b", func := "headland/headlandlaw24.MachineBalloon", spec := "machineBalloon", unfollowed := true, recurses := true, plainKeys := false, apart := false, narrowed := true }
def MachineBalloonUptoSaid : Prop := machineBalloonUptoRow.holds Tryz.pinned (OpenSpec.upto machineBalloonSpec)

/-- 'headlandlaw24.MachineRemoved', WHERE WHAT IT READS IS OF BULK AT MOST 1048576: true; the input reads as it did. -/
def machineRemovedUptoRow : OpenClaim := { program := "ytmookoajpcnigaagreat", sum := "740aba1871149bb7ca0229b15db84430446c305904f1a30706ac471168c2a59b", func := "headland/headlandlaw24.MachineRemoved", spec := "machineRemoved", unfollowed := true, recurses := true, plainKeys := false, apart := false, narrowed := true }
def MachineRemovedUptoSaid : Prop := machineRemovedUptoRow.holds Tryz.pinned (OpenSpec.upto machineRemovedSpec)

/-- 'headlandlaw24.MachineBad', WHERE WHAT IT READS IS OF BULK AT MOST 1048576: true; the input reads as it did. -/
def machineBadUptoRow : OpenClaim := { program := "ytmookoajpcnigaagreat", sum := "740aba1871149bb7ca0229b15db84430446c305904f1a30706ac471168c2a59b", func := "headland/headlandlaw24.MachineBad", spec := "machineBad", unfollowed := true, recurses := true, plainKeys := false, apart := false, narrowed := true }
def MachineBadUptoSaid : Prop := machineBadUptoRow.holds Tryz.pinned (OpenSpec.upto machineBadSpec)

/-- 'headlandlaw24.MachineFails', WHERE WHAT IT READS IS OF BULK AT MOST 1048576: true; the input reads as it did. -/
def machineFailsUptoRow : OpenClaim := { program := "ytmookoajpcnigaagreat", sum := "740aba1871149bb7ca0229b15db84430446c305904f1a30706ac471168c2a59b", func := "headland/headlandlaw24.MachineFails", spec := "machineFails", unfollowed := true, recurses := true, plainKeys := false, apart := false, narrowed := true }
def MachineFailsUptoSaid : Prop := machineFailsUptoRow.holds Tryz.pinned (OpenSpec.upto machineFailsSpec)

/-- 'headlandlaw24.MachineKinds', WHERE WHAT IT READS IS OF BULK AT MOST 1048576: true; the input reads as it did. -/
def machineKindsUptoRow : OpenClaim := { program := "ytmookoajpcnigaagreat", sum := "740aba1871149bb7ca0229b15db84430446c305904f1a30706ac471168c2a59b", func := "headland/headlandlaw24.MachineKinds", spec := "machineKinds", unfollowed := true, recurses := true, plainKeys := false, apart := false, narrowed := true }
def MachineKindsUptoSaid : Prop := machineKindsUptoRow.holds Tryz.pinned (OpenSpec.upto machineKindsSpec)

/-- 'headlandlaw24.MachineNone', WHERE WHAT IT READS IS OF BULK AT MOST 1048576: true; the input reads as it did. -/
def machineNoneUptoRow : OpenClaim := { program := "ytmookoajpcnigaagreat", sum := "740aba1871149bb7ca0229b15db84430446c305904f1a30706ac471168c2a59b", func := "headland/headlandlaw24.MachineNone", spec := "machineNone", unfollowed := true, recurses := true, plainKeys := false, apart := false, narrowed := true }
def MachineNoneUptoSaid : Prop := machineNoneUptoRow.holds Tryz.pinned (OpenSpec.upto machineNoneSpec)

/-- 'headlandtop.WholeLasts', WHERE WHAT IT READS IS OF BULK AT MOST 1048576: true; the input reads as it did. -/
def wholeLastsUptoRow : OpenClaim := { program := "ytmookoajpcnigaagreat", sum := "740aba1871149bb7ca0229b15db84430446c305904f1a30706ac471168c2a59b", func := "headland/headlandtop.WholeLasts", spec := "wholeLasts", unfollowed := true, recurses := true, plainKeys := false, apart := false, narrowed := true }
def WholeLastsUptoSaid : Prop := wholeLastsUptoRow.holds Tryz.pinned (OpenSpec.upto wholeLastsSpec)

/-- 'headlandtop.WholeEnds', WHERE WHAT IT READS IS OF BULK AT MOST 1048576: true; the input reads as it did. -/
def wholeEndsUptoRow : OpenClaim := { program := "ytmookoajpcnigaagreat", sum := "740aba1871149bb7ca0229b15db84430446c305904f1a30706ac471168c2a59b", func := "headland/headlandtop.WholeEnds", spec := "wholeEnds", unfollowed := true, recurses := true, plainKeys := false, apart := false, narrowed := true }
def WholeEndsUptoSaid : Prop := wholeEndsUptoRow.holds Tryz.pinned (OpenSpec.upto wholeEndsSpec)

/-- 'headlandtop.WholeKilled', WHERE WHAT IT READS IS OF BULK AT MOST 1048576: true; the input reads as it did. -/
def wholeKilledUptoRow : OpenClaim := { program := "ytmookoajpcnigaagreat", sum := "740aba1871149bb7ca0229b15db84430446c305904f1a30706ac471168c2a59b", func := "headland/headlandtop.WholeKilled", spec := "wholeKilled", unfollowed := true, recurses := true, plainKeys := false, apart := false, narrowed := true }
def WholeKilledUptoSaid : Prop := wholeKilledUptoRow.holds Tryz.pinned (OpenSpec.upto wholeKilledSpec)

end Rows
end Go.Proofs.YtmookoajpcnigaaGreat
