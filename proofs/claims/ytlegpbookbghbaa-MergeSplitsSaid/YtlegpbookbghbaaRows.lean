/-
  No cell of these rows narrows 'for every input' (looked for: loops, veiled, ifaces, maps, wideKeys, modest, calm, conditions, laid).
  DERIVED. THE GIVEN ROWS OF THIS SEAT. 12 by the template 'for every input the law returns true; each argument reads behind the call as it read before'; 0 by the template 'total and deterministic' (their statements: YtlegpbookbghbaaTotals.lean).
  GIVEN WITH THE SEED: the statements are not yours to turn. If you find one false, say at which input.
  Laid BY PROGRAM, IN A SANDBOX (cutbox-rows.mjs): the forced cells as the released guide's own fill.sh prints them over the translation 3c8df9508ff74b17… (all of the seat's roots in one cut). By AI agents, Wed Nov 11 2026. No macro, syntax, notation, axiom, sorry.
-/
import Derived.Test.YtlegpbookbghbaaChecked
import GoSem.Claim
import GoSem.ClaimJoined
import GoSem.ClaimMapViews
import Derived.JoinedTies
import Derived.KernelRfl
namespace Go.Proofs.Ytlegpbookbghbaa
/- THE CELL 'sum', in the pinned program and in every row, IS THE sha256 OF THE DUMP (.gsa) THAT YtlegpbookbghbaaProg.lean LOADS. Nothing in Lean hashes anything: it is a label: what it is worth is what the hold of that sum in a sandbox is worth. -/
noncomputable def Try.pinned : Pinned := { name := "ytlegpbookbghbaa", sum := "3c8df9508ff74b173dd9dd35d3796869085e188f77ee4d4b20f6bf916d0822b7", checked := Try.checked }
namespace Rows
def none {H : Type} : Left H := { results := [], args := [] }

/-- 'blackboxlaw26.RingPuts': WHATEVER THE INPUT: true; the input reads as it did. -/
def ringPutsSpec : ChangeSpec := { name := "ringPuts", fn := fun _ => fun
  | [d1, d2, d3] => { results := [.lit (.bool true)], args := [d1, d2, d3] }
  | _ => none }
def ringPutsRow : OpenClaim := { program := "ytlegpbookbghbaa", sum := "3c8df9508ff74b173dd9dd35d3796869085e188f77ee4d4b20f6bf916d0822b7", func := "blackbox/blackboxlaw26.RingPuts", spec := "ringPuts", apart := false }
def RingPutsSaid : Prop := ringPutsRow.holds Try.pinned (OpenSpec.ofChange ringPutsSpec)

/-- ITS FALSE NEIGHBOUR: 'it returns false'. Refute it at one input. -/
def ringPutsWrong : ChangeSpec := { name := "ringPuts", fn := fun _ => fun
  | [d1, d2, d3] => { results := [.lit (.bool false)], args := [d1, d2, d3] }
  | _ => none }
def RingPutsWrongFalsely : Prop := ringPutsRow.holds Try.pinned (OpenSpec.ofChange ringPutsWrong)

/-- 'blackboxlaw26.RingTells': WHATEVER THE INPUT: true; the input reads as it did. -/
def ringTellsSpec : ChangeSpec := { name := "ringTells", fn := fun _ => fun
  | [d1, d2] => { results := [.lit (.bool true)], args := [d1, d2] }
  | _ => none }
def ringTellsRow : OpenClaim := { program := "ytlegpbookbghbaa", sum := "3c8df9508ff74b173dd9dd35d3796869085e188f77ee4d4b20f6bf916d0822b7", func := "blackbox/blackboxlaw26.RingTells", spec := "ringTells", apart := false }
def RingTellsSaid : Prop := ringTellsRow.holds Try.pinned (OpenSpec.ofChange ringTellsSpec)

/-- ITS FALSE NEIGHBOUR: 'it returns false'. Refute it at one input. -/
def ringTellsWrong : ChangeSpec := { name := "ringTells", fn := fun _ => fun
  | [d1, d2] => { results := [.lit (.bool false)], args := [d1, d2] }
  | _ => none }
def RingTellsWrongFalsely : Prop := ringTellsRow.holds Try.pinned (OpenSpec.ofChange ringTellsWrong)

/-- 'blackboxlaw26.RingKeeps': WHATEVER THE INPUT: true; the input reads as it did. -/
def ringKeepsSpec : ChangeSpec := { name := "ringKeeps", fn := fun _ => fun
  | [d1, d2, d3] => { results := [.lit (.bool true)], args := [d1, d2, d3] }
  | _ => none }
def ringKeepsRow : OpenClaim := { program := "ytlegpbookbghbaa", sum := "3c8df9508ff74b173dd9dd35d3796869085e188f77ee4d4b20f6bf916d0822b7", func := "blackbox/blackboxlaw26.RingKeeps", spec := "ringKeeps", apart := false }
def RingKeepsSaid : Prop := ringKeepsRow.holds Try.pinned (OpenSpec.ofChange ringKeepsSpec)

/-- ITS FALSE NEIGHBOUR: 'it returns false'. Refute it at one input. -/
def ringKeepsWrong : ChangeSpec := { name := "ringKeeps", fn := fun _ => fun
  | [d1, d2, d3] => { results := [.lit (.bool false)], args := [d1, d2, d3] }
  | _ => none }
def RingKeepsWrongFalsely : Prop := ringKeepsRow.holds Try.pinned (OpenSpec.ofChange ringKeepsWrong)

/-- 'blackboxlaw17.ConfigChecks': WHATEVER THE INPUT: true; the input reads as it did. -/
def configChecksSpec : ChangeSpec := { name := "configChecks", fn := fun _ => fun
  | [d] => { results := [.lit (.bool true)], args := [d] }
  | _ => none }
def configChecksRow : OpenClaim := { program := "ytlegpbookbghbaa", sum := "3c8df9508ff74b173dd9dd35d3796869085e188f77ee4d4b20f6bf916d0822b7", func := "blackbox/blackboxlaw17.ConfigChecks", spec := "configChecks", unfollowed := true, recurses := true, apart := false }
def ConfigChecksSaid : Prop := configChecksRow.holds Try.pinned (OpenSpec.ofChange configChecksSpec)

/-- ITS FALSE NEIGHBOUR: 'it returns false'. Refute it at one input. -/
def configChecksWrong : ChangeSpec := { name := "configChecks", fn := fun _ => fun
  | [d] => { results := [.lit (.bool false)], args := [d] }
  | _ => none }
def ConfigChecksWrongFalsely : Prop := configChecksRow.holds Try.pinned (OpenSpec.ofChange configChecksWrong)

/-- 'blackboxlaw17.ConfigParts': WHATEVER THE INPUT: true; the input reads as it did. -/
def configPartsSpec : ChangeSpec := { name := "configParts", fn := fun _ => fun
  | [d1, d2, d3] => { results := [.lit (.bool true)], args := [d1, d2, d3] }
  | _ => none }
def configPartsRow : OpenClaim := { program := "ytlegpbookbghbaa", sum := "3c8df9508ff74b173dd9dd35d3796869085e188f77ee4d4b20f6bf916d0822b7", func := "blackbox/blackboxlaw17.ConfigParts", spec := "configParts", unfollowed := true, recurses := true, apart := false }
def ConfigPartsSaid : Prop := configPartsRow.holds Try.pinned (OpenSpec.ofChange configPartsSpec)

/-- ITS FALSE NEIGHBOUR: 'it returns false'. Refute it at one input. -/
def configPartsWrong : ChangeSpec := { name := "configParts", fn := fun _ => fun
  | [d1, d2, d3] => { results := [.lit (.bool false)], args := [d1, d2, d3] }
  | _ => none }
def ConfigPartsWrongFalsely : Prop := configPartsRow.holds Try.pinned (OpenSpec.ofChange configPartsWrong)

/-- 'blackboxlaw17.ConfigApart': WHATEVER THE INPUT: true; the input reads as it did. -/
def configApartSpec : ChangeSpec := { name := "configApart", fn := fun _ => fun
  | [d1, d2] => { results := [.lit (.bool true)], args := [d1, d2] }
  | _ => none }
def configApartRow : OpenClaim := { program := "ytlegpbookbghbaa", sum := "3c8df9508ff74b173dd9dd35d3796869085e188f77ee4d4b20f6bf916d0822b7", func := "blackbox/blackboxlaw17.ConfigApart", spec := "configApart", unfollowed := true, recurses := true, apart := false }
def ConfigApartSaid : Prop := configApartRow.holds Try.pinned (OpenSpec.ofChange configApartSpec)

/-- ITS FALSE NEIGHBOUR: 'it returns false'. Refute it at one input. -/
def configApartWrong : ChangeSpec := { name := "configApart", fn := fun _ => fun
  | [d1, d2] => { results := [.lit (.bool false)], args := [d1, d2] }
  | _ => none }
def ConfigApartWrongFalsely : Prop := configApartRow.holds Try.pinned (OpenSpec.ofChange configApartWrong)

/-- 'blackboxlaw17.ConfigFrames': WHATEVER THE INPUT: true; the input reads as it did. -/
def configFramesSpec : ChangeSpec := { name := "configFrames", fn := fun _ => fun
  | [d] => { results := [.lit (.bool true)], args := [d] }
  | _ => none }
def configFramesRow : OpenClaim := { program := "ytlegpbookbghbaa", sum := "3c8df9508ff74b173dd9dd35d3796869085e188f77ee4d4b20f6bf916d0822b7", func := "blackbox/blackboxlaw17.ConfigFrames", spec := "configFrames", unfollowed := true, recurses := true, apart := false }
def ConfigFramesSaid : Prop := configFramesRow.holds Try.pinned (OpenSpec.ofChange configFramesSpec)

/-- ITS FALSE NEIGHBOUR: 'it returns false'. Refute it at one input. -/
def configFramesWrong : ChangeSpec := { name := "configFrames", fn := fun _ => fun
  | [d] => { results := [.lit (.bool false)], args := [d] }
  | _ => none }
def ConfigFramesWrongFalsely : Prop := configFramesRow.holds Try.pinned (OpenSpec.ofChange configFramesWrong)

/-- 'blackboxlaw17.ConfigFields': WHATEVER THE INPUT: true; the input reads as it did. -/
def configFieldsSpec : ChangeSpec := { name := "configFields", fn := fun _ => fun
  | [d1, d2] => { results := [.lit (.bool true)], args := [d1, d2] }
  | _ => none }
def configFieldsRow : OpenClaim := { program := "ytlegpbookbghbaa", sum := "3c8df9508ff74b173dd9dd35d3796869085e188f77ee4d4b20f6bf916d0822b7", func := "blackbox/blackboxlaw17.ConfigFields", spec := "configFields", unfollowed := true, recurses := true, apart := false }
def ConfigFieldsSaid : Prop := configFieldsRow.holds Try.pinned (OpenSpec.ofChange configFieldsSpec)

/-- ITS FALSE NEIGHBOUR: 'it returns false'. Refute it at one input. -/
def configFieldsWrong : ChangeSpec := { name := "configFields", fn := fun _ => fun
  | [d1, d2] => { results := [.lit (.bool false)], args := [d1, d2] }
  | _ => none }
def ConfigFieldsWrongFalsely : Prop := configFieldsRow.holds Try.pinned (OpenSpec.ofChange configFieldsWrong)

/-- 'blackboxlaw07.SectorLasts': WHATEVER THE INPUT: true; the input reads as it did. -/
def sectorLastsSpec : ChangeSpec := { name := "sectorLasts", fn := fun _ => fun
  | [d1, d2, d3, d4, d5, d6] => { results := [.lit (.bool true)], args := [d1, d2, d3, d4, d5, d6] }
  | _ => none }
def sectorLastsRow : OpenClaim := { program := "ytlegpbookbghbaa", sum := "3c8df9508ff74b173dd9dd35d3796869085e188f77ee4d4b20f6bf916d0822b7", func := "blackbox/blackboxlaw07.SectorLasts", spec := "sectorLasts", unfollowed := true, recurses := true, apart := false }
def SectorLastsSaid : Prop := sectorLastsRow.holds Try.pinned (OpenSpec.ofChange sectorLastsSpec)

/-- ITS FALSE NEIGHBOUR: 'it returns false'. Refute it at one input. -/
def sectorLastsWrong : ChangeSpec := { name := "sectorLasts", fn := fun _ => fun
  | [d1, d2, d3, d4, d5, d6] => { results := [.lit (.bool false)], args := [d1, d2, d3, d4, d5, d6] }
  | _ => none }
def SectorLastsWrongFalsely : Prop := sectorLastsRow.holds Try.pinned (OpenSpec.ofChange sectorLastsWrong)

/-- 'blackboxlaw07.SectorKeeps': WHATEVER THE INPUT: true; the input reads as it did. -/
def sectorKeepsSpec : ChangeSpec := { name := "sectorKeeps", fn := fun _ => fun
  | [d1, d2, d3, d4] => { results := [.lit (.bool true)], args := [d1, d2, d3, d4] }
  | _ => none }
def sectorKeepsRow : OpenClaim := { program := "ytlegpbookbghbaa", sum := "3c8df9508ff74b173dd9dd35d3796869085e188f77ee4d4b20f6bf916d0822b7", func := "blackbox/blackboxlaw07.SectorKeeps", spec := "sectorKeeps", unfollowed := true, recurses := true, apart := false }
def SectorKeepsSaid : Prop := sectorKeepsRow.holds Try.pinned (OpenSpec.ofChange sectorKeepsSpec)

/-- ITS FALSE NEIGHBOUR: 'it returns false'. Refute it at one input. -/
def sectorKeepsWrong : ChangeSpec := { name := "sectorKeeps", fn := fun _ => fun
  | [d1, d2, d3, d4] => { results := [.lit (.bool false)], args := [d1, d2, d3, d4] }
  | _ => none }
def SectorKeepsWrongFalsely : Prop := sectorKeepsRow.holds Try.pinned (OpenSpec.ofChange sectorKeepsWrong)

/-- 'blackboxlaw07.SectorDown': WHATEVER THE INPUT: true; the input reads as it did. -/
def sectorDownSpec : ChangeSpec := { name := "sectorDown", fn := fun _ => fun
  | [d1, d2, d3, d4] => { results := [.lit (.bool true)], args := [d1, d2, d3, d4] }
  | _ => none }
def sectorDownRow : OpenClaim := { program := "ytlegpbookbghbaa", sum := "3c8df9508ff74b173dd9dd35d3796869085e188f77ee4d4b20f6bf916d0822b7", func := "blackbox/blackboxlaw07.SectorDown", spec := "sectorDown", unfollowed := true, recurses := true, apart := false }
def SectorDownSaid : Prop := sectorDownRow.holds Try.pinned (OpenSpec.ofChange sectorDownSpec)

/-- ITS FALSE NEIGHBOUR: 'it returns false'. Refute it at one input. -/
def sectorDownWrong : ChangeSpec := { name := "sectorDown", fn := fun _ => fun
  | [d1, d2, d3, d4] => { results := [.lit (.bool false)], args := [d1, d2, d3, d4] }
  | _ => none }
def SectorDownWrongFalsely : Prop := sectorDownRow.holds Try.pinned (OpenSpec.ofChange sectorDownWrong)

/-- 'blackboxlaw29.MergeSplits': WHATEVER THE INPUT: true; the input reads as it did. -/
def mergeSplitsSpec : ChangeSpec := { name := "mergeSplits", fn := fun _ => fun
  | [d1, d2, d3] => { results := [.lit (.bool true)], args := [d1, d2, d3] }
  | _ => none }
def mergeSplitsRow : OpenClaim := { program := "ytlegpbookbghbaa", sum := "3c8df9508ff74b173dd9dd35d3796869085e188f77ee4d4b20f6bf916d0822b7", func := "blackbox/blackboxlaw29.MergeSplits", spec := "mergeSplits", unfollowed := true, recurses := true, apart := false }
def MergeSplitsSaid : Prop := mergeSplitsRow.holds Try.pinned (OpenSpec.ofChange mergeSplitsSpec)

/-- ITS FALSE NEIGHBOUR: 'it returns false'. Refute it at one input. -/
def mergeSplitsWrong : ChangeSpec := { name := "mergeSplits", fn := fun _ => fun
  | [d1, d2, d3] => { results := [.lit (.bool false)], args := [d1, d2, d3] }
  | _ => none }
def MergeSplitsWrongFalsely : Prop := mergeSplitsRow.holds Try.pinned (OpenSpec.ofChange mergeSplitsWrong)

/- THE SECOND FORM. 'bulk': how many values and letters a reading holds, each counted each time it is reached (what is shared counts as often as it is met; a slice's spare places count too). A statement '..UptoSaid' is the law's where the arguments, and the package variables that the reading takes, are together of bulk at most 1048576: NARROWER than '..Said'. Prove '..Said' where nothing that the law and all that it calls make is longer than what came in: it says more and counts as full. Else prove '..UptoSaid'. A law counts once. -/
mutual
def uptoBulk {H : Type} : DataW H → Nat
  | .lit (.string bytes) => bytes.length + 1
  | .lit _ => 1
  | .nil => 1
  | .ptr d => uptoBulk d + 1
  | .slice elems spare => uptoBulkAll elems + uptoBulkAll spare + 1
  | .agg parts => uptoBulkAll parts + 1
  | .iface _ d => uptoBulk d + 1
  | .map entries => uptoBulkEntries entries + 1
  | .held _ => 1
def uptoBulkAll {H : Type} : List (DataW H) → Nat
  | [] => 0
  | d :: r => uptoBulk d + uptoBulkAll r
def uptoBulkEntries {H : Type} : List (Lit × DataW H) → Nat
  | [] => 0
  | x :: r => uptoBulkEntry x + uptoBulkEntries r
def uptoBulkEntry {H : Type} : Lit × DataW H → Nat
  | (.string bytes, d) => bytes.length + uptoBulk d + 1
  | (_, d) => uptoBulk d + 1
 end
def uptoSmall : (H : Type) → List (DataW H) → Bool := fun _ ds => decide (uptoBulkAll ds ≤ 1048576)
def OpenSpec.upto (s : _root_.Go.ChangeSpec) : _root_.Go.OpenSpec := { _root_.Go.OpenSpec.ofChange s with cond := some uptoSmall }

/-- 'blackboxlaw26.RingPuts', WHERE WHAT IT READS IS OF BULK AT MOST 1048576: true; the input reads as it did. -/
def ringPutsUptoRow : OpenClaim := { program := "ytlegpbookbghbaa", sum := "3c8df9508ff74b173dd9dd35d3796869085e188f77ee4d4b20f6bf916d0822b7", func := "blackbox/blackboxlaw26.RingPuts", spec := "ringPuts", apart := false, narrowed := true }
def RingPutsUptoSaid : Prop := ringPutsUptoRow.holds Try.pinned (OpenSpec.upto ringPutsSpec)

/-- 'blackboxlaw26.RingTells', WHERE WHAT IT READS IS OF BULK AT MOST 1048576: true; the input reads as it did. -/
def ringTellsUptoRow : OpenClaim := { program := "ytlegpbookbghbaa", sum := "3c8df9508ff74b173dd9dd35d3796869085e188f77ee4d4b20f6bf916d0822b7", func := "blackbox/blackboxlaw26.RingTells", spec := "ringTells", apart := false, narrowed := true }
def RingTellsUptoSaid : Prop := ringTellsUptoRow.holds Try.pinned (OpenSpec.upto ringTellsSpec)

/-- 'blackboxlaw26.RingKeeps', WHERE WHAT IT READS IS OF BULK AT MOST 1048576: true; the input reads as it did. -/
def ringKeepsUptoRow : OpenClaim := { program := "ytlegpbookbghbaa", sum := "3c8df9508ff74b173dd9dd35d3796869085e188f77ee4d4b20f6bf916d0822b7", func := "blackbox/blackboxlaw26.RingKeeps", spec := "ringKeeps", apart := false, narrowed := true }
def RingKeepsUptoSaid : Prop := ringKeepsUptoRow.holds Try.pinned (OpenSpec.upto ringKeepsSpec)

/-- 'blackboxlaw17.ConfigChecks', WHERE WHAT IT READS IS OF BULK AT MOST 1048576: true; the input reads as it did. -/
def configChecksUptoRow : OpenClaim := { program := "ytlegpbookbghbaa", sum := "3c8df9508ff74b173dd9dd35d3796869085e188f77ee4d4b20f6bf916d0822b7", func := "blackbox/blackboxlaw17.ConfigChecks", spec := "configChecks", unfollowed := true, recurses := true, apart := false, narrowed := true }
def ConfigChecksUptoSaid : Prop := configChecksUptoRow.holds Try.pinned (OpenSpec.upto configChecksSpec)

/-- 'blackboxlaw17.ConfigParts', WHERE WHAT IT READS IS OF BULK AT MOST 1048576: true; the input reads as it did. -/
def configPartsUptoRow : OpenClaim := { program := "ytlegpbookbghbaa", sum := "3c8df9508ff74b173dd9dd35d3796869085e188f77ee4d4b20f6bf916d0822b7", func := "blackbox/blackboxlaw17.ConfigParts", spec := "configParts", unfollowed := true, recurses := true, apart := false, narrowed := true }
def ConfigPartsUptoSaid : Prop := configPartsUptoRow.holds Try.pinned (OpenSpec.upto configPartsSpec)

/-- 'blackboxlaw17.ConfigApart', WHERE WHAT IT READS IS OF BULK AT MOST 1048576: true; the input reads as it did. -/
def configApartUptoRow : OpenClaim := { program := "ytlegpbookbghbaa", sum := "3c8df9508ff74b173dd9dd35d3796869085e188f77ee4d4b20f6bf916d0822b7", func := "blackbox/blackboxlaw17.ConfigApart", spec := "configApart", unfollowed := true, recurses := true, apart := false, narrowed := true }
def ConfigApartUptoSaid : Prop := configApartUptoRow.holds Try.pinned (OpenSpec.upto configApartSpec)

/-- 'blackboxlaw17.ConfigFrames', WHERE WHAT IT READS IS OF BULK AT MOST 1048576: true; the input reads as it did. -/
def configFramesUptoRow : OpenClaim := { program := "ytlegpbookbghbaa", sum := "3c8df9508ff74b173dd9dd35d3796869085e188f77ee4d4b20f6bf916d0822b7", func := "blackbox/blackboxlaw17.ConfigFrames", spec := "configFrames", unfollowed := true, recurses := true, apart := false, narrowed := true }
def ConfigFramesUptoSaid : Prop := configFramesUptoRow.holds Try.pinned (OpenSpec.upto configFramesSpec)

/-- 'blackboxlaw17.ConfigFields', WHERE WHAT IT READS IS OF BULK AT MOST 1048576: true; the input reads as it did. -/
def configFieldsUptoRow : OpenClaim := { program := "ytlegpbookbghbaa", sum := "3c8df9508ff74b173dd9dd35d3796869085e188f77ee4d4b20f6bf916d0822b7", func := "blackbox/blackboxlaw17.ConfigFields", spec := "configFields", unfollowed := true, recurses := true, apart := false, narrowed := true }
def ConfigFieldsUptoSaid : Prop := configFieldsUptoRow.holds Try.pinned (OpenSpec.upto configFieldsSpec)

/-- 'blackboxlaw07.SectorLasts', WHERE WHAT IT READS IS OF BULK AT MOST 1048576: true; the input reads as it did. -/
def sectorLastsUptoRow : OpenClaim := { program := "ytlegpbookbghbaa", sum := "3c8df9508ff74b173dd9dd35d3796869085e188f77ee4d4b20f6bf916d0822b7", func := "blackbox/blackboxlaw07.SectorLasts", spec := "sectorLasts", unfollowed := true, recurses := true, apart := false, narrowed := true }
def SectorLastsUptoSaid : Prop := sectorLastsUptoRow.holds Try.pinned (OpenSpec.upto sectorLastsSpec)

/-- 'blackboxlaw07.SectorKeeps', WHERE WHAT IT READS IS OF BULK AT MOST 1048576: true; the input reads as it did. -/
def sectorKeepsUptoRow : OpenClaim := { program := "ytlegpbookbghbaa", sum := "3c8df9508ff74b173dd9dd35d3796869085e188f77ee4d4b20f6bf916d0822b7", func := "blackbox/blackboxlaw07.SectorKeeps", spec := "sectorKeeps", unfollowed := true, recurses := true, apart := false, narrowed := true }
def SectorKeepsUptoSaid : Prop := sectorKeepsUptoRow.holds Try.pinned (OpenSpec.upto sectorKeepsSpec)

/-- 'blackboxlaw07.SectorDown', WHERE WHAT IT READS IS OF BULK AT MOST 1048576: true; the input reads as it did. -/
def sectorDownUptoRow : OpenClaim := { program := "ytlegpbookbghbaa", sum := "3c8df9508ff74b173dd9dd35d3796869085e188f77ee4d4b20f6bf916d0822b7", func := "blackbox/blackboxlaw07.SectorDown", spec := "sectorDown", unfollowed := true, recurses := true, apart := false, narrowed := true }
def SectorDownUptoSaid : Prop := sectorDownUptoRow.holds Try.pinned (OpenSpec.upto sectorDownSpec)

/-- 'blackboxlaw29.MergeSplits', WHERE WHAT IT READS IS OF BULK AT MOST 1048576: true; the input reads as it did. -/
def mergeSplitsUptoRow : OpenClaim := { program := "ytlegpbookbghbaa", sum := "3c8df9508ff74b173dd9dd35d3796869085e188f77ee4d4b20f6bf916d0822b7", func := "blackbox/blackboxlaw29.MergeSplits", spec := "mergeSplits", unfollowed := true, recurses := true, apart := false, narrowed := true }
def MergeSplitsUptoSaid : Prop := mergeSplitsUptoRow.holds Try.pinned (OpenSpec.upto mergeSplitsSpec)

end Rows
end Go.Proofs.Ytlegpbookbghbaa
