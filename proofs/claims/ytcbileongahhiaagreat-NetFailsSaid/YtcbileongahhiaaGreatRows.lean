/-
  No cell of these rows narrows 'for every input' (looked for: loops, veiled, ifaces, maps, wideKeys, modest, calm, conditions, laid).
  DERIVED. THE GIVEN ROWS OF THIS SEAT. 10 by the template 'for every input the law returns true; each argument reads behind the call as it read before'; 0 by the template 'total and deterministic' (their statements: YtcbileongahhiaaGreatTotals.lean).
  GIVEN WITH THE SEED: the statements are not yours to turn. If you find one false, say at which input.
  Laid BY PROGRAM, IN A SANDBOX (cutbox-rows.mjs): the forced cells as the released guide's own fill.sh prints them over the translation 233107d42a8c5dcd… (all of the seat's roots in one cut). By AI agents, Wed Nov 11 2026. No macro, syntax, notation, axiom, sorry.
-/
import Derived.Test.YtcbileongahhiaaGreatChecked
import GoSem.Claim
import GoSem.ClaimJoined
import GoSem.ClaimMapViews
import Derived.JoinedTies
import Derived.KernelRfl
namespace Go.Proofs.YtcbileongahhiaaGreat
/- THE CELL 'sum', in the pinned program and in every row, IS THE sha256 OF THE DUMP (.gsa) THAT YtcbileongahhiaaGreatProg.lean LOADS. Nothing in Lean hashes anything: it is a label: what it is worth is what the hold of that sum in a sandbox is worth. -/
noncomputable def Tryz.pinned : Pinned := { name := "ytcbileongahhiaagreat", sum := "233107d42a8c5dcdd68425400c3cca4f3639f86b19c384a37462eaf80a411e55", checked := Tryz.checked }
namespace Rows
def none {H : Type} : Left H := { results := [], args := [] }

/-- 'droverlaw12.PipeStays': WHATEVER THE INPUT: true; the input reads as it did. -/
def pipeStaysSpec : ChangeSpec := { name := "pipeStays", fn := fun _ => fun
  | [d1, d2, d3] => { results := [.lit (.bool true)], args := [d1, d2, d3] }
  | _ => none }
def pipeStaysRow : OpenClaim := { program := "ytcbileongahhiaagreat", sum := "233107d42a8c5dcdd68425400c3cca4f3639f86b19c384a37462eaf80a411e55", func := "drover/droverlaw12.PipeStays", spec := "pipeStays", inPlace := ["internal/abi.NoEscape", "internal/bytealg.MakeNoZero", "slices.overlaps[drover/api.Entry]"], unfollowed := true, recurses := true, plainKeys := false, apart := false }
def PipeStaysSaid : Prop := pipeStaysRow.holds Tryz.pinned (OpenSpec.ofChange pipeStaysSpec)

/-- ITS FALSE NEIGHBOUR: 'it returns false'. Refute it at one input. -/
def pipeStaysWrong : ChangeSpec := { name := "pipeStays", fn := fun _ => fun
  | [d1, d2, d3] => { results := [.lit (.bool false)], args := [d1, d2, d3] }
  | _ => none }
def PipeStaysWrongFalsely : Prop := pipeStaysRow.holds Tryz.pinned (OpenSpec.ofChange pipeStaysWrong)

/-- 'droverlaw24.NetWords': WHATEVER THE INPUT: true; the input reads as it did. -/
def netWordsSpec : ChangeSpec := { name := "netWords", fn := fun _ => fun
  | [d1, d2] => { results := [.lit (.bool true)], args := [d1, d2] }
  | _ => none }
def netWordsRow : OpenClaim := { program := "ytcbileongahhiaagreat", sum := "233107d42a8c5dcdd68425400c3cca4f3639f86b19c384a37462eaf80a411e55", func := "drover/droverlaw24.NetWords", spec := "netWords", inPlace := ["internal/abi.NoEscape", "internal/bytealg.MakeNoZero", "slices.overlaps[drover/api.Entry]"], unfollowed := true, recurses := true, plainKeys := false, apart := false }
def NetWordsSaid : Prop := netWordsRow.holds Tryz.pinned (OpenSpec.ofChange netWordsSpec)

/-- ITS FALSE NEIGHBOUR: 'it returns false'. Refute it at one input. -/
def netWordsWrong : ChangeSpec := { name := "netWords", fn := fun _ => fun
  | [d1, d2] => { results := [.lit (.bool false)], args := [d1, d2] }
  | _ => none }
def NetWordsWrongFalsely : Prop := netWordsRow.holds Tryz.pinned (OpenSpec.ofChange netWordsWrong)

/-- 'droverlaw13.DeviceKeeps': WHATEVER THE INPUT: true; the input reads as it did. -/
def deviceKeepsSpec : ChangeSpec := { name := "deviceKeeps", fn := fun _ => fun
  | [d1, d2] => { results := [.lit (.bool true)], args := [d1, d2] }
  | _ => none }
def deviceKeepsRow : OpenClaim := { program := "ytcbileongahhiaagreat", sum := "233107d42a8c5dcdd68425400c3cca4f3639f86b19c384a37462eaf80a411e55", func := "drover/droverlaw13.DeviceKeeps", spec := "deviceKeeps", inPlace := ["internal/abi.NoEscape", "internal/bytealg.MakeNoZero", "slices.overlaps[drover/api.Entry]"], unfollowed := true, recurses := true, plainKeys := false, apart := false }
def DeviceKeepsSaid : Prop := deviceKeepsRow.holds Tryz.pinned (OpenSpec.ofChange deviceKeepsSpec)

/-- ITS FALSE NEIGHBOUR: 'it returns false'. Refute it at one input. -/
def deviceKeepsWrong : ChangeSpec := { name := "deviceKeeps", fn := fun _ => fun
  | [d1, d2] => { results := [.lit (.bool false)], args := [d1, d2] }
  | _ => none }
def DeviceKeepsWrongFalsely : Prop := deviceKeepsRow.holds Tryz.pinned (OpenSpec.ofChange deviceKeepsWrong)

/-- 'droverlaw13.DeviceCut': WHATEVER THE INPUT: true; the input reads as it did. -/
def deviceCutSpec : ChangeSpec := { name := "deviceCut", fn := fun _ => fun
  | [d1, d2, d3] => { results := [.lit (.bool true)], args := [d1, d2, d3] }
  | _ => none }
def deviceCutRow : OpenClaim := { program := "ytcbileongahhiaagreat", sum := "233107d42a8c5dcdd68425400c3cca4f3639f86b19c384a37462eaf80a411e55", func := "drover/droverlaw13.DeviceCut", spec := "deviceCut", inPlace := ["internal/abi.NoEscape", "internal/bytealg.MakeNoZero", "slices.overlaps[drover/api.Entry]"], unfollowed := true, recurses := true, plainKeys := false, apart := false }
def DeviceCutSaid : Prop := deviceCutRow.holds Tryz.pinned (OpenSpec.ofChange deviceCutSpec)

/-- ITS FALSE NEIGHBOUR: 'it returns false'. Refute it at one input. -/
def deviceCutWrong : ChangeSpec := { name := "deviceCut", fn := fun _ => fun
  | [d1, d2, d3] => { results := [.lit (.bool false)], args := [d1, d2, d3] }
  | _ => none }
def DeviceCutWrongFalsely : Prop := deviceCutRow.holds Tryz.pinned (OpenSpec.ofChange deviceCutWrong)

/-- 'droverlaw13.DeviceAgain': WHATEVER THE INPUT: true; the input reads as it did. -/
def deviceAgainSpec : ChangeSpec := { name := "deviceAgain", fn := fun _ => fun
  | [d1, d2] => { results := [.lit (.bool true)], args := [d1, d2] }
  | _ => none }
def deviceAgainRow : OpenClaim := { program := "ytcbileongahhiaagreat", sum := "233107d42a8c5dcdd68425400c3cca4f3639f86b19c384a37462eaf80a411e55", func := "drover/droverlaw13.DeviceAgain", spec := "deviceAgain", inPlace := ["internal/abi.NoEscape", "internal/bytealg.MakeNoZero", "slices.overlaps[drover/api.Entry]"], unfollowed := true, recurses := true, plainKeys := false, apart := false }
def DeviceAgainSaid : Prop := deviceAgainRow.holds Tryz.pinned (OpenSpec.ofChange deviceAgainSpec)

/-- ITS FALSE NEIGHBOUR: 'it returns false'. Refute it at one input. -/
def deviceAgainWrong : ChangeSpec := { name := "deviceAgain", fn := fun _ => fun
  | [d1, d2] => { results := [.lit (.bool false)], args := [d1, d2] }
  | _ => none }
def DeviceAgainWrongFalsely : Prop := deviceAgainRow.holds Tryz.pinned (OpenSpec.ofChange deviceAgainWrong)

/-- 'droverlaw13.DevicePlays': WHATEVER THE INPUT: true; the input reads as it did. -/
def devicePlaysSpec : ChangeSpec := { name := "devicePlays", fn := fun _ => fun
  | [d1, d2] => { results := [.lit (.bool true)], args := [d1, d2] }
  | _ => none }
def devicePlaysRow : OpenClaim := { program := "ytcbileongahhiaagreat", sum := "233107d42a8c5dcdd68425400c3cca4f3639f86b19c384a37462eaf80a411e55", func := "drover/droverlaw13.DevicePlays", spec := "devicePlays", inPlace := ["internal/abi.NoEscape", "internal/bytealg.MakeNoZero", "slices.overlaps[drover/api.Entry]"], unfollowed := true, recurses := true, plainKeys := false, apart := false }
def DevicePlaysSaid : Prop := devicePlaysRow.holds Tryz.pinned (OpenSpec.ofChange devicePlaysSpec)

/-- ITS FALSE NEIGHBOUR: 'it returns false'. Refute it at one input. -/
def devicePlaysWrong : ChangeSpec := { name := "devicePlays", fn := fun _ => fun
  | [d1, d2] => { results := [.lit (.bool false)], args := [d1, d2] }
  | _ => none }
def DevicePlaysWrongFalsely : Prop := devicePlaysRow.holds Tryz.pinned (OpenSpec.ofChange devicePlaysWrong)

/-- 'droverlaw13.DeviceNil': WHATEVER THE INPUT: true; the input reads as it did. -/
def deviceNilSpec : ChangeSpec := { name := "deviceNil", fn := fun _ => fun
  | [d1, d2] => { results := [.lit (.bool true)], args := [d1, d2] }
  | _ => none }
def deviceNilRow : OpenClaim := { program := "ytcbileongahhiaagreat", sum := "233107d42a8c5dcdd68425400c3cca4f3639f86b19c384a37462eaf80a411e55", func := "drover/droverlaw13.DeviceNil", spec := "deviceNil", inPlace := ["internal/abi.NoEscape", "internal/bytealg.MakeNoZero", "slices.overlaps[drover/api.Entry]"], unfollowed := true, recurses := true, plainKeys := false, apart := false }
def DeviceNilSaid : Prop := deviceNilRow.holds Tryz.pinned (OpenSpec.ofChange deviceNilSpec)

/-- ITS FALSE NEIGHBOUR: 'it returns false'. Refute it at one input. -/
def deviceNilWrong : ChangeSpec := { name := "deviceNil", fn := fun _ => fun
  | [d1, d2] => { results := [.lit (.bool false)], args := [d1, d2] }
  | _ => none }
def DeviceNilWrongFalsely : Prop := deviceNilRow.holds Tryz.pinned (OpenSpec.ofChange deviceNilWrong)

/-- 'droverlaw24.NetFails': WHATEVER THE INPUT: true; the input reads as it did. -/
def netFailsSpec : ChangeSpec := { name := "netFails", fn := fun _ => fun
  | [d1, d2] => { results := [.lit (.bool true)], args := [d1, d2] }
  | _ => none }
def netFailsRow : OpenClaim := { program := "ytcbileongahhiaagreat", sum := "233107d42a8c5dcdd68425400c3cca4f3639f86b19c384a37462eaf80a411e55", func := "drover/droverlaw24.NetFails", spec := "netFails", inPlace := ["internal/abi.NoEscape", "internal/bytealg.MakeNoZero", "slices.overlaps[drover/api.Entry]"], unfollowed := true, recurses := true, plainKeys := false, apart := false }
def NetFailsSaid : Prop := netFailsRow.holds Tryz.pinned (OpenSpec.ofChange netFailsSpec)

/-- ITS FALSE NEIGHBOUR: 'it returns false'. Refute it at one input. -/
def netFailsWrong : ChangeSpec := { name := "netFails", fn := fun _ => fun
  | [d1, d2] => { results := [.lit (.bool false)], args := [d1, d2] }
  | _ => none }
def NetFailsWrongFalsely : Prop := netFailsRow.holds Tryz.pinned (OpenSpec.ofChange netFailsWrong)

/-- 'droverlaw24.NetPlays': WHATEVER THE INPUT: true; the input reads as it did. -/
def netPlaysSpec : ChangeSpec := { name := "netPlays", fn := fun _ => fun
  | [d1, d2, d3] => { results := [.lit (.bool true)], args := [d1, d2, d3] }
  | _ => none }
def netPlaysRow : OpenClaim := { program := "ytcbileongahhiaagreat", sum := "233107d42a8c5dcdd68425400c3cca4f3639f86b19c384a37462eaf80a411e55", func := "drover/droverlaw24.NetPlays", spec := "netPlays", inPlace := ["internal/abi.NoEscape", "internal/bytealg.MakeNoZero", "slices.overlaps[drover/api.Entry]"], unfollowed := true, recurses := true, plainKeys := false, apart := false }
def NetPlaysSaid : Prop := netPlaysRow.holds Tryz.pinned (OpenSpec.ofChange netPlaysSpec)

/-- ITS FALSE NEIGHBOUR: 'it returns false'. Refute it at one input. -/
def netPlaysWrong : ChangeSpec := { name := "netPlays", fn := fun _ => fun
  | [d1, d2, d3] => { results := [.lit (.bool false)], args := [d1, d2, d3] }
  | _ => none }
def NetPlaysWrongFalsely : Prop := netPlaysRow.holds Tryz.pinned (OpenSpec.ofChange netPlaysWrong)

/-- 'droverlaw24.NetNil': WHATEVER THE INPUT: true; the input reads as it did. -/
def netNilSpec : ChangeSpec := { name := "netNil", fn := fun _ => fun
  | [d1, d2] => { results := [.lit (.bool true)], args := [d1, d2] }
  | _ => none }
def netNilRow : OpenClaim := { program := "ytcbileongahhiaagreat", sum := "233107d42a8c5dcdd68425400c3cca4f3639f86b19c384a37462eaf80a411e55", func := "drover/droverlaw24.NetNil", spec := "netNil", inPlace := ["internal/abi.NoEscape", "internal/bytealg.MakeNoZero", "slices.overlaps[drover/api.Entry]"], unfollowed := true, recurses := true, plainKeys := false, apart := false }
def NetNilSaid : Prop := netNilRow.holds Tryz.pinned (OpenSpec.ofChange netNilSpec)

/-- ITS FALSE NEIGHBOUR: 'it returns false'. Refute it at one input. -/
def netNilWrong : ChangeSpec := { name := "netNil", fn := fun _ => fun
  | [d1, d2] => { results := [.lit (.bool false)], args := [d1, d2] }
  | _ => none }
def NetNilWrongFalsely : Prop := netNilRow.holds Tryz.pinned (OpenSpec.ofChange netNilWrong)

/- THE SECOND FORM. 'bulk': how many values and letters a reading holds, each counted each time it is reached (what is shared counts as often as it is met; a slice's spare places count too). A statement '..UptoSaid' is the law's where the arguments, and the package variables that the reading takes, are together of bulk at most 1048576: NARROWER than '..Said'. Prove '..Said' where nothing that the law and all that it calls make is longer than what came in: it says more and counts as full. Else prove '..UptoSaid'. A law counts once. -/
mutual
def uptoBulk {H : Type} : DataW H → Nat
  | .lit (.string bytes) => bytes.length + 1
  | .lit _ => 1
  | .nil => 1
  | .ptr d => uptoBulk d + 1
  | .slice elems spare => uptoBulkAll elems + uptoBulkAll spare + 1
  | .agg parts => uptoBulkAll parts + 1
  | .iface _ d => uptoBulk d + 1
  | .map entries => uptoBulkEntries entries + 1
  | .held _ => 1
def uptoBulkAll {H : Type} : List (DataW H) → Nat
  | [] => 0
  | d :: r => uptoBulk d + uptoBulkAll r
def uptoBulkEntries {H : Type} : List (Lit × DataW H) → Nat
  | [] => 0
  | x :: r => uptoBulkEntry x + uptoBulkEntries r
def uptoBulkEntry {H : Type} : Lit × DataW H → Nat
  | (.string bytes, d) => bytes.length + uptoBulk d + 1
  | (_, d) => uptoBulk d + 1
 end
def uptoSmall : (H : Type) → List (DataW H) → Bool := fun _ ds => decide (uptoBulkAll ds ≤ 1048576)
def OpenSpec.upto (s : _root_.Go.ChangeSpec) : _root_.Go.OpenSpec := { _root_.Go.OpenSpec.ofChange s with cond := some uptoSmall }

/-- 'droverlaw12.PipeStays', WHERE WHAT IT READS IS OF BULK AT MOST 1048576: true; the input reads as it did. -/
def pipeStaysUptoRow : OpenClaim := { program := "ytcbileongahhiaagreat", sum := "233107d42a8c5dcdd68425400c3cca4f3639f86b19c384a37462eaf80a411e55", func := "drover/droverlaw12.PipeStays", spec := "pipeStays", inPlace := ["internal/abi.NoEscape", "internal/bytealg.MakeNoZero", "slices.overlaps[drover/api.Entry]"], unfollowed := true, recurses := true, plainKeys := false, apart := false, narrowed := true }
def PipeStaysUptoSaid : Prop := pipeStaysUptoRow.holds Tryz.pinned (OpenSpec.upto pipeStaysSpec)

/-- 'droverlaw24.NetWords', WHERE WHAT IT READS IS OF BULK AT MOST 1048576: true; the input reads as it did. -/
def netWordsUptoRow : OpenClaim := { program := "ytcbileongahhiaagreat", sum := "233107d42a8c5dcdd68425400c3cca4f3639f86b19c384a37462eaf80a411e55", func := "drover/droverlaw24.NetWords", spec := "netWords", inPlace := ["internal/abi.NoEscape", "internal/bytealg.MakeNoZero", "slices.overlaps[drover/api.Entry]"], unfollowed := true, recurses := true, plainKeys := false, apart := false, narrowed := true }
def NetWordsUptoSaid : Prop := netWordsUptoRow.holds Tryz.pinned (OpenSpec.upto netWordsSpec)

/-- 'droverlaw13.DeviceKeeps', WHERE WHAT IT READS IS OF BULK AT MOST 1048576: true; the input reads as it did. -/
def deviceKeepsUptoRow : OpenClaim := { program := "ytcbileongahhiaagreat", sum := "233107d42a8c5dcdd68425400c3cca4f3639f86b19c384a37462eaf80a411e55", func := "drover/droverlaw13.DeviceKeeps", spec := "deviceKeeps", inPlace := ["internal/abi.NoEscape", "internal/bytealg.MakeNoZero", "slices.overlaps[drover/api.Entry]"], unfollowed := true, recurses := true, plainKeys := false, apart := false, narrowed := true }
def DeviceKeepsUptoSaid : Prop := deviceKeepsUptoRow.holds Tryz.pinned (OpenSpec.upto deviceKeepsSpec)

/-- 'droverlaw13.DeviceCut', WHERE WHAT IT READS IS OF BULK AT MOST 1048576: true; the input reads as it did. -/
def deviceCutUptoRow : OpenClaim := { program := "ytcbileongahhiaagreat", sum := "233107d42a8c5dcdd68425400c3cca4f3639f86b19c384a37462eaf80a411e55", func := "drover/droverlaw13.DeviceCut", spec := "deviceCut", inPlace := ["internal/abi.NoEscape", "internal/bytealg.MakeNoZero", "slices.overlaps[drover/api.Entry]"], unfollowed := true, recurses := true, plainKeys := false, apart := false, narrowed := true }
def DeviceCutUptoSaid : Prop := deviceCutUptoRow.holds Tryz.pinned (OpenSpec.upto deviceCutSpec)

/-- 'droverlaw13.DeviceAgain', WHERE WHAT IT READS IS OF BULK AT MOST 1048576: true; the input reads as it did. -/
def deviceAgainUptoRow : OpenClaim := { program := "ytcbileongahhiaagreat", sum := "233107d42a8c5dcdd68425400c3cca4f3639f86b19c384a37462eaf80a411e55", func := "drover/droverlaw13.DeviceAgain", spec := "deviceAgain", inPlace := ["internal/abi.NoEscape", "internal/bytealg.MakeNoZero", "slices.overlaps[drover/api.Entry]"], unfollowed := true, recurses := true, plainKeys := false, apart := false, narrowed := true }
def DeviceAgainUptoSaid : Prop := deviceAgainUptoRow.holds Tryz.pinned (OpenSpec.upto deviceAgainSpec)

/-- 'droverlaw13.DevicePlays', WHERE WHAT IT READS IS OF BULK AT MOST 1048576: true; the input reads as it did. -/
def devicePlaysUptoRow : OpenClaim := { program := "ytcbileongahhiaagreat", sum := "233107d42a8c5dcdd68425400c3cca4f3639f86b19c384a37462eaf80a411e55", func := "drover/droverlaw13.DevicePlays", spec := "devicePlays", inPlace := ["internal/abi.NoEscape", "internal/bytealg.MakeNoZero", "slices.overlaps[drover/api.Entry]"], unfollowed := true, recurses := true, plainKeys := false, apart := false, narrowed := true }
def DevicePlaysUptoSaid : Prop := devicePlaysUptoRow.holds Tryz.pinned (OpenSpec.upto devicePlaysSpec)

/-- 'droverlaw13.DeviceNil', WHERE WHAT IT READS IS OF BULK AT MOST 1048576: true; the input reads as it did. -/
def deviceNilUptoRow : OpenClaim := { program := "ytcbileongahhiaagreat", sum := "233107d42a8c5dcdd68425400c3cca4f3639f86b19c384a37462eaf80a411e55", func := "drover/droverlaw13.DeviceNil", spec := "deviceNil", inPlace := ["internal/abi.NoEscape", "internal/bytealg.MakeNoZero", "slices.overlaps[drover/api.Entry]"], unfollowed := true, recurses := true, plainKeys := false, apart := false, narrowed := true }
def DeviceNilUptoSaid : Prop := deviceNilUptoRow.holds Tryz.pinned (OpenSpec.upto deviceNilSpec)

/-- 'droverlaw24.NetFails', WHERE WHAT IT READS IS OF BULK AT MOST 1048576: true; the input reads as it did. -/
def netFailsUptoRow : OpenClaim := { program := "ytcbileongahhiaagreat", sum := "233107d42a8c5dcdd68425400c3cca4f3639f86b19c384a37462eaf80a411e55", func := "drover/droverlaw24.NetFails", spec := "netFails", inPlace := ["internal/abi.NoEscape", "internal/bytealg.MakeNoZero", "slices.overlaps[drover/api.Entry]"], unfollowed := true, recurses := true, plainKeys := false, apart := false, narrowed := true }
def NetFailsUptoSaid : Prop := netFailsUptoRow.holds Tryz.pinned (OpenSpec.upto netFailsSpec)

/-- 'droverlaw24.NetPlays', WHERE WHAT IT READS IS OF BULK AT MOST 1048576: true; the input reads as it did. -/
def netPlaysUptoRow : OpenClaim := { program := "ytcbileongahhiaagreat", sum := "233107d42a8c5dcdd68425400c3cca4f3639f86b19c384a37462eaf80a411e55", func := "drover/droverlaw24.NetPlays", spec := "netPlays", inPlace := ["internal/abi.NoEscape", "internal/bytealg.MakeNoZero", "slices.overlaps[drover/api.Entry]"], unfollowed := true, recurses := true, plainKeys := false, apart := false, narrowed := true }
def NetPlaysUptoSaid : Prop := netPlaysUptoRow.holds Tryz.pinned (OpenSpec.upto netPlaysSpec)

/-- 'droverlaw24.NetNil', WHERE WHAT IT READS IS OF BULK AT MOST 1048576: true; the input reads as it did. -/
def netNilUptoRow : OpenClaim := { program := "ytcbileongahhiaagreat", sum := "233107d42a8c5dcdd68425400c3cca4f3639f86b19c384a37462eaf80a411e55", func := "drover/droverlaw24.NetNil", spec := "netNil", inPlace := ["internal/abi.NoEscape", "internal/bytealg.MakeNoZero", "slices.overlaps[drover/api.Entry]"], unfollowed := true, recurses := true, plainKeys := false, apart := false, narrowed := true }
def NetNilUptoSaid : Prop := netNilUptoRow.holds Tryz.pinned (OpenSpec.upto netNilSpec)

end Rows
end Go.Proofs.YtcbileongahhiaaGreat
