/-
  No cell of these rows narrows 'for every input' (looked for: loops, veiled, ifaces, maps, wideKeys, modest, calm, conditions, laid).
  DERIVED. THE GIVEN ROWS OF THIS SEAT. 12 by the template 'for every input the law returns true; each argument reads behind the call as it read before'; 0 by the template 'total and deterministic' (their statements: YtdgmpaijpjkeoaaTotals.lean).
  GIVEN WITH THE SEED: the statements are not yours to turn. If you find one false, say at which input.
  Laid BY PROGRAM, IN A SANDBOX (cutbox-rows.mjs): the forced cells as the released guide's own fill.sh prints them over the translation 45feefbdb908e46c… (all of the seat's roots in one cut). By AI agents, Wed Nov 11 2026. No macro, syntax, notation, axiom, sorry.
-/
import Derived.Test.YtdgmpaijpjkeoaaChecked
import GoSem.Claim
import GoSem.ClaimJoined
import GoSem.ClaimMapViews
import Derived.JoinedTies
import Derived.KernelRfl
namespace Go.Proofs.Ytdgmpaijpjkeoaa
/- THE CELL 'sum', in the pinned program and in every row, IS THE sha256 OF THE DUMP (.gsa) THAT YtdgmpaijpjkeoaaProg.lean LOADS. Nothing in Lean hashes anything: it is a label: what it is worth is what the hold of that sum in a sandbox is worth. -/
noncomputable def Try.pinned : Pinned := { name := "ytdgmpaijpjkeoaa", sum := "45feefbdb908e46c483834cbdec74cec2fca20dc5a16ad0727ba1adb65a29162", checked := Try.checked }
namespace Rows
def none {H : Type} : Left H := { results := [], args := [] }

/-- 'linoleumlaw03.LotShares': WHATEVER THE INPUT: true; the input reads as it did. -/
def lotSharesSpec : ChangeSpec := { name := "lotShares", fn := fun _ => fun
  | [d1, d2] => { results := [.lit (.bool true)], args := [d1, d2] }
  | _ => none }
def lotSharesRow : OpenClaim := { program := "ytdgmpaijpjkeoaa", sum := "45feefbdb908e46c483834cbdec74cec2fca20dc5a16ad0727ba1adb65a29162", func := "linoleum/linoleumlaw03.LotShares", spec := "lotShares", unfollowed := true, recurses := true, apart := false }
def LotSharesSaid : Prop := lotSharesRow.holds Try.pinned (OpenSpec.ofChange lotSharesSpec)

/-- ITS FALSE NEIGHBOUR: 'it returns false'. Refute it at one input. -/
def lotSharesWrong : ChangeSpec := { name := "lotShares", fn := fun _ => fun
  | [d1, d2] => { results := [.lit (.bool false)], args := [d1, d2] }
  | _ => none }
def LotSharesWrongFalsely : Prop := lotSharesRow.holds Try.pinned (OpenSpec.ofChange lotSharesWrong)

/-- 'linoleumlaw03.LotAudits': WHATEVER THE INPUT: true; the input reads as it did. -/
def lotAuditsSpec : ChangeSpec := { name := "lotAudits", fn := fun _ => fun
  | [d] => { results := [.lit (.bool true)], args := [d] }
  | _ => none }
def lotAuditsRow : OpenClaim := { program := "ytdgmpaijpjkeoaa", sum := "45feefbdb908e46c483834cbdec74cec2fca20dc5a16ad0727ba1adb65a29162", func := "linoleum/linoleumlaw03.LotAudits", spec := "lotAudits", unfollowed := true, recurses := true, apart := false }
def LotAuditsSaid : Prop := lotAuditsRow.holds Try.pinned (OpenSpec.ofChange lotAuditsSpec)

/-- ITS FALSE NEIGHBOUR: 'it returns false'. Refute it at one input. -/
def lotAuditsWrong : ChangeSpec := { name := "lotAudits", fn := fun _ => fun
  | [d] => { results := [.lit (.bool false)], args := [d] }
  | _ => none }
def LotAuditsWrongFalsely : Prop := lotAuditsRow.holds Try.pinned (OpenSpec.ofChange lotAuditsWrong)

/-- 'linoleumlaw03.LotDilutes': WHATEVER THE INPUT: true; the input reads as it did. -/
def lotDilutesSpec : ChangeSpec := { name := "lotDilutes", fn := fun _ => fun
  | [d1, d2] => { results := [.lit (.bool true)], args := [d1, d2] }
  | _ => none }
def lotDilutesRow : OpenClaim := { program := "ytdgmpaijpjkeoaa", sum := "45feefbdb908e46c483834cbdec74cec2fca20dc5a16ad0727ba1adb65a29162", func := "linoleum/linoleumlaw03.LotDilutes", spec := "lotDilutes", unfollowed := true, recurses := true, apart := false }
def LotDilutesSaid : Prop := lotDilutesRow.holds Try.pinned (OpenSpec.ofChange lotDilutesSpec)

/-- ITS FALSE NEIGHBOUR: 'it returns false'. Refute it at one input. -/
def lotDilutesWrong : ChangeSpec := { name := "lotDilutes", fn := fun _ => fun
  | [d1, d2] => { results := [.lit (.bool false)], args := [d1, d2] }
  | _ => none }
def LotDilutesWrongFalsely : Prop := lotDilutesRow.holds Try.pinned (OpenSpec.ofChange lotDilutesWrong)

/-- 'linoleumlaw03.LotPaths': WHATEVER THE INPUT: true; the input reads as it did. -/
def lotPathsSpec : ChangeSpec := { name := "lotPaths", fn := fun _ => fun
  | [d1, d2] => { results := [.lit (.bool true)], args := [d1, d2] }
  | _ => none }
def lotPathsRow : OpenClaim := { program := "ytdgmpaijpjkeoaa", sum := "45feefbdb908e46c483834cbdec74cec2fca20dc5a16ad0727ba1adb65a29162", func := "linoleum/linoleumlaw03.LotPaths", spec := "lotPaths", unfollowed := true, recurses := true, apart := false }
def LotPathsSaid : Prop := lotPathsRow.holds Try.pinned (OpenSpec.ofChange lotPathsSpec)

/-- ITS FALSE NEIGHBOUR: 'it returns false'. Refute it at one input. -/
def lotPathsWrong : ChangeSpec := { name := "lotPaths", fn := fun _ => fun
  | [d1, d2] => { results := [.lit (.bool false)], args := [d1, d2] }
  | _ => none }
def LotPathsWrongFalsely : Prop := lotPathsRow.holds Try.pinned (OpenSpec.ofChange lotPathsWrong)

/-- 'linoleumlaw03.LotAdds': WHATEVER THE INPUT: true; the input reads as it did. -/
def lotAddsSpec : ChangeSpec := { name := "lotAdds", fn := fun _ => fun
  | [d1, d2] => { results := [.lit (.bool true)], args := [d1, d2] }
  | _ => none }
def lotAddsRow : OpenClaim := { program := "ytdgmpaijpjkeoaa", sum := "45feefbdb908e46c483834cbdec74cec2fca20dc5a16ad0727ba1adb65a29162", func := "linoleum/linoleumlaw03.LotAdds", spec := "lotAdds", unfollowed := true, recurses := true, apart := false }
def LotAddsSaid : Prop := lotAddsRow.holds Try.pinned (OpenSpec.ofChange lotAddsSpec)

/-- ITS FALSE NEIGHBOUR: 'it returns false'. Refute it at one input. -/
def lotAddsWrong : ChangeSpec := { name := "lotAdds", fn := fun _ => fun
  | [d1, d2] => { results := [.lit (.bool false)], args := [d1, d2] }
  | _ => none }
def LotAddsWrongFalsely : Prop := lotAddsRow.holds Try.pinned (OpenSpec.ofChange lotAddsWrong)

/-- 'linoleumlaw03.LotKinds': WHATEVER THE INPUT: true; the input reads as it did. -/
def lotKindsSpec : ChangeSpec := { name := "lotKinds", fn := fun _ => fun
  | [d1, d2] => { results := [.lit (.bool true)], args := [d1, d2] }
  | _ => none }
def lotKindsRow : OpenClaim := { program := "ytdgmpaijpjkeoaa", sum := "45feefbdb908e46c483834cbdec74cec2fca20dc5a16ad0727ba1adb65a29162", func := "linoleum/linoleumlaw03.LotKinds", spec := "lotKinds", unfollowed := true, recurses := true, apart := false }
def LotKindsSaid : Prop := lotKindsRow.holds Try.pinned (OpenSpec.ofChange lotKindsSpec)

/-- ITS FALSE NEIGHBOUR: 'it returns false'. Refute it at one input. -/
def lotKindsWrong : ChangeSpec := { name := "lotKinds", fn := fun _ => fun
  | [d1, d2] => { results := [.lit (.bool false)], args := [d1, d2] }
  | _ => none }
def LotKindsWrongFalsely : Prop := lotKindsRow.holds Try.pinned (OpenSpec.ofChange lotKindsWrong)

/-- 'linoleumlaw03.LotMasses': WHATEVER THE INPUT: true; the input reads as it did. -/
def lotMassesSpec : ChangeSpec := { name := "lotMasses", fn := fun _ => fun
  | [d1, d2, d3] => { results := [.lit (.bool true)], args := [d1, d2, d3] }
  | _ => none }
def lotMassesRow : OpenClaim := { program := "ytdgmpaijpjkeoaa", sum := "45feefbdb908e46c483834cbdec74cec2fca20dc5a16ad0727ba1adb65a29162", func := "linoleum/linoleumlaw03.LotMasses", spec := "lotMasses", unfollowed := true, recurses := true, apart := false }
def LotMassesSaid : Prop := lotMassesRow.holds Try.pinned (OpenSpec.ofChange lotMassesSpec)

/-- ITS FALSE NEIGHBOUR: 'it returns false'. Refute it at one input. -/
def lotMassesWrong : ChangeSpec := { name := "lotMasses", fn := fun _ => fun
  | [d1, d2, d3] => { results := [.lit (.bool false)], args := [d1, d2, d3] }
  | _ => none }
def LotMassesWrongFalsely : Prop := lotMassesRow.holds Try.pinned (OpenSpec.ofChange lotMassesWrong)

/-- 'linoleumlaw03.LotRecalls': WHATEVER THE INPUT: true; the input reads as it did. -/
def lotRecallsSpec : ChangeSpec := { name := "lotRecalls", fn := fun _ => fun
  | [d1, d2, d3] => { results := [.lit (.bool true)], args := [d1, d2, d3] }
  | _ => none }
def lotRecallsRow : OpenClaim := { program := "ytdgmpaijpjkeoaa", sum := "45feefbdb908e46c483834cbdec74cec2fca20dc5a16ad0727ba1adb65a29162", func := "linoleum/linoleumlaw03.LotRecalls", spec := "lotRecalls", unfollowed := true, recurses := true, apart := false }
def LotRecallsSaid : Prop := lotRecallsRow.holds Try.pinned (OpenSpec.ofChange lotRecallsSpec)

/-- ITS FALSE NEIGHBOUR: 'it returns false'. Refute it at one input. -/
def lotRecallsWrong : ChangeSpec := { name := "lotRecalls", fn := fun _ => fun
  | [d1, d2, d3] => { results := [.lit (.bool false)], args := [d1, d2, d3] }
  | _ => none }
def LotRecallsWrongFalsely : Prop := lotRecallsRow.holds Try.pinned (OpenSpec.ofChange lotRecallsWrong)

/-- 'linoleumlaw03.LotCompares': WHATEVER THE INPUT: true; the input reads as it did. -/
def lotComparesSpec : ChangeSpec := { name := "lotCompares", fn := fun _ => fun
  | [d1, d2, d3] => { results := [.lit (.bool true)], args := [d1, d2, d3] }
  | _ => none }
def lotComparesRow : OpenClaim := { program := "ytdgmpaijpjkeoaa", sum := "45feefbdb908e46c483834cbdec74cec2fca20dc5a16ad0727ba1adb65a29162", func := "linoleum/linoleumlaw03.LotCompares", spec := "lotCompares", unfollowed := true, recurses := true, apart := false }
def LotComparesSaid : Prop := lotComparesRow.holds Try.pinned (OpenSpec.ofChange lotComparesSpec)

/-- ITS FALSE NEIGHBOUR: 'it returns false'. Refute it at one input. -/
def lotComparesWrong : ChangeSpec := { name := "lotCompares", fn := fun _ => fun
  | [d1, d2, d3] => { results := [.lit (.bool false)], args := [d1, d2, d3] }
  | _ => none }
def LotComparesWrongFalsely : Prop := lotComparesRow.holds Try.pinned (OpenSpec.ofChange lotComparesWrong)

/-- 'linoleumlaw03.LotOnly': WHATEVER THE INPUT: true; the input reads as it did. -/
def lotOnlySpec : ChangeSpec := { name := "lotOnly", fn := fun _ => fun
  | [d1, d2] => { results := [.lit (.bool true)], args := [d1, d2] }
  | _ => none }
def lotOnlyRow : OpenClaim := { program := "ytdgmpaijpjkeoaa", sum := "45feefbdb908e46c483834cbdec74cec2fca20dc5a16ad0727ba1adb65a29162", func := "linoleum/linoleumlaw03.LotOnly", spec := "lotOnly", unfollowed := true, recurses := true, apart := false }
def LotOnlySaid : Prop := lotOnlyRow.holds Try.pinned (OpenSpec.ofChange lotOnlySpec)

/-- ITS FALSE NEIGHBOUR: 'it returns false'. Refute it at one input. -/
def lotOnlyWrong : ChangeSpec := { name := "lotOnly", fn := fun _ => fun
  | [d1, d2] => { results := [.lit (.bool false)], args := [d1, d2] }
  | _ => none }
def LotOnlyWrongFalsely : Prop := lotOnlyRow.holds Try.pinned (OpenSpec.ofChange lotOnlyWrong)

/-- 'linoleumlaw03.LotOnlyKeeps': WHATEVER THE INPUT: true; the input reads as it did. -/
def lotOnlyKeepsSpec : ChangeSpec := { name := "lotOnlyKeeps", fn := fun _ => fun
  | [d1, d2, d3] => { results := [.lit (.bool true)], args := [d1, d2, d3] }
  | _ => none }
def lotOnlyKeepsRow : OpenClaim := { program := "ytdgmpaijpjkeoaa", sum := "45feefbdb908e46c483834cbdec74cec2fca20dc5a16ad0727ba1adb65a29162", func := "linoleum/linoleumlaw03.LotOnlyKeeps", spec := "lotOnlyKeeps", unfollowed := true, recurses := true, apart := false }
def LotOnlyKeepsSaid : Prop := lotOnlyKeepsRow.holds Try.pinned (OpenSpec.ofChange lotOnlyKeepsSpec)

/-- ITS FALSE NEIGHBOUR: 'it returns false'. Refute it at one input. -/
def lotOnlyKeepsWrong : ChangeSpec := { name := "lotOnlyKeeps", fn := fun _ => fun
  | [d1, d2, d3] => { results := [.lit (.bool false)], args := [d1, d2, d3] }
  | _ => none }
def LotOnlyKeepsWrongFalsely : Prop := lotOnlyKeepsRow.holds Try.pinned (OpenSpec.ofChange lotOnlyKeepsWrong)

/-- 'linoleumlaw03.LotSets': WHATEVER THE INPUT: true; the input reads as it did. -/
def lotSetsSpec : ChangeSpec := { name := "lotSets", fn := fun _ => fun
  | [d1, d2] => { results := [.lit (.bool true)], args := [d1, d2] }
  | _ => none }
def lotSetsRow : OpenClaim := { program := "ytdgmpaijpjkeoaa", sum := "45feefbdb908e46c483834cbdec74cec2fca20dc5a16ad0727ba1adb65a29162", func := "linoleum/linoleumlaw03.LotSets", spec := "lotSets", unfollowed := true, recurses := true, apart := false }
def LotSetsSaid : Prop := lotSetsRow.holds Try.pinned (OpenSpec.ofChange lotSetsSpec)

/-- ITS FALSE NEIGHBOUR: 'it returns false'. Refute it at one input. -/
def lotSetsWrong : ChangeSpec := { name := "lotSets", fn := fun _ => fun
  | [d1, d2] => { results := [.lit (.bool false)], args := [d1, d2] }
  | _ => none }
def LotSetsWrongFalsely : Prop := lotSetsRow.holds Try.pinned (OpenSpec.ofChange lotSetsWrong)

/- THE SECOND FORM. 'bulk': how many values and letters a reading holds, each counted each time it is reached (what is shared counts as often as it is met; a slice's spare places count too). A statement '..UptoSaid' is the law's where the arguments, and the package variables that the reading takes, are together of bulk at most 1048576: NARROWER than '..Said'. Prove '..Said' where nothing that the law and all that it calls make is longer than what came in: it says more and counts as full. Else prove '..UptoSaid'. A law counts once. -/
mutual
def uptoBulk {H : Type} : DataW H → Nat
  | .lit (.string bytes) => bytes.length + 1
  | .lit _ => 1
  | .nil => 1
  | .ptr d => uptoBulk d + 1
  | .slice elems spare => uptoBulkAll elems + uptoBulkAll spare + 1
  | .agg parts => uptoBulkAll parts + 1
  | .iface _ d => uptoBulk d + 1
  | .map entries => uptoBulkEntries entries + 1
  | .held _ => 1
def uptoBulkAll {H : Type} : List (DataW H) → Nat
  | [] => 0
  | d :: r => uptoBulk d + uptoBulkAll r
def uptoBulkEntries {H : Type} : List (Lit × DataW H) → Nat
  | [] => 0
  | x :: r => uptoBulkEntry x + uptoBulkEntries r
def uptoBulkEntry {H : Type} : Lit × DataW H → Nat
  | (.string bytes, d) => bytes.length + uptoBulk d + 1
  | (_, d) => uptoBulk d + 1
 end
def uptoSmall : (H : Type) → List (DataW H) → Bool := fun _ ds => decide (uptoBulkAll ds ≤ 1048576)
def OpenSpec.upto (s : _root_.Go.ChangeSpec) : _root_.Go.OpenSpec := { _root_.Go.OpenSpec.ofChange s with cond := some uptoSmall }

/-- 'linoleumlaw03.LotShares', WHERE WHAT IT READS IS OF BULK AT MOST 1048576: true; the input reads as it did. -/
def lotSharesUptoRow : OpenClaim := { program := "ytdgmpaijpjkeoaa", sum := "45feefbdb908e46c483834cbdec74cec2fca20dc5a16ad0727ba1adb65a29162", func := "linoleum/linoleumlaw03.LotShares", spec := "lotShares", unfollowed := true, recurses := true, apart := false, narrowed := true }
def LotSharesUptoSaid : Prop := lotSharesUptoRow.holds Try.pinned (OpenSpec.upto lotSharesSpec)

/-- 'linoleumlaw03.LotAudits', WHERE WHAT IT READS IS OF BULK AT MOST 1048576: true; the input reads as it did. -/
def lotAuditsUptoRow : OpenClaim := { program := "ytdgmpaijpjkeoaa", sum := "45feefbdb908e46c483834cbdec74cec2fca20dc5a16ad0727ba1adb65a29162", func := "linoleum/linoleumlaw03.LotAudits", spec := "lotAudits", unfollowed := true, recurses := true, apart := false, narrowed := true }
def LotAuditsUptoSaid : Prop := lotAuditsUptoRow.holds Try.pinned (OpenSpec.upto lotAuditsSpec)

/-- 'linoleumlaw03.LotDilutes', WHERE WHAT IT READS IS OF BULK AT MOST 1048576: true; the input reads as it did. -/
def lotDilutesUptoRow : OpenClaim := { program := "ytdgmpaijpjkeoaa", sum := "45feefbdb908e46c483834cbdec74cec2fca20dc5a16ad0727ba1adb65a29162", func := "linoleum/linoleumlaw03.LotDilutes", spec := "lotDilutes", unfollowed := true, recurses := true, apart := false, narrowed := true }
def LotDilutesUptoSaid : Prop := lotDilutesUptoRow.holds Try.pinned (OpenSpec.upto lotDilutesSpec)

/-- 'linoleumlaw03.LotPaths', WHERE WHAT IT READS IS OF BULK AT MOST 1048576: true; the input reads as it did. -/
def lotPathsUptoRow : OpenClaim := { program := "ytdgmpaijpjkeoaa", sum := "45feefbdb908e46c483834cbdec74cec2fca20dc5a16ad0727ba1adb65a29162", func := "linoleum/linoleumlaw03.LotPaths", spec := "lotPaths", unfollowed := true, recurses := true, apart := false, narrowed := true }
def LotPathsUptoSaid : Prop := lotPathsUptoRow.holds Try.pinned (OpenSpec.upto lotPathsSpec)

/-- 'linoleumlaw03.LotAdds', WHERE WHAT IT READS IS OF BULK AT MOST 1048576: true; the input reads as it did. -/
def lotAddsUptoRow : OpenClaim := { program := "ytdgmpaijpjkeoaa", sum := "45feefbdb908e46c483834cbdec74cec2fca20dc5a16ad0727ba1adb65a29162", func := "linoleum/linoleumlaw03.LotAdds", spec := "lotAdds", unfollowed := true, recurses := true, apart := false, narrowed := true }
def LotAddsUptoSaid : Prop := lotAddsUptoRow.holds Try.pinned (OpenSpec.upto lotAddsSpec)

/-- 'linoleumlaw03.LotKinds', WHERE WHAT IT READS IS OF BULK AT MOST 1048576: true; the input reads as it did. -/
def lotKindsUptoRow : OpenClaim := { program := "ytdgmpaijpjkeoaa", sum := "45feefbdb908e46c483834cbdec74cec2fca20dc5a16ad0727ba1adb65a29162", func := "linoleum/linoleumlaw03.LotKinds", spec := "lotKinds", unfollowed := true, recurses := true, apart := false, narrowed := true }
def LotKindsUptoSaid : Prop := lotKindsUptoRow.holds Try.pinned (OpenSpec.upto lotKindsSpec)

/-- 'linoleumlaw03.LotMasses', WHERE WHAT IT READS IS OF BULK AT MOST 1048576: true; the input reads as it did. -/
def lotMassesUptoRow : OpenClaim := { program := "ytdgmpaijpjkeoaa", sum := "45feefbdb908e46c483834cbdec74cec2fca20dc5a16ad0727ba1adb65a29162", func := "linoleum/linoleumlaw03.LotMasses", spec := "lotMasses", unfollowed := true, recurses := true, apart := false, narrowed := true }
def LotMassesUptoSaid : Prop := lotMassesUptoRow.holds Try.pinned (OpenSpec.upto lotMassesSpec)

/-- 'linoleumlaw03.LotRecalls', WHERE WHAT IT READS IS OF BULK AT MOST 1048576: true; the input reads as it did. -/
def lotRecallsUptoRow : OpenClaim := { program := "ytdgmpaijpjkeoaa", sum := "45feefbdb908e46c483834cbdec74cec2fca20dc5a16ad0727ba1adb65a29162", func := "linoleum/linoleumlaw03.LotRecalls", spec := "lotRecalls", unfollowed := true, recurses := true, apart := false, narrowed := true }
def LotRecallsUptoSaid : Prop := lotRecallsUptoRow.holds Try.pinned (OpenSpec.upto lotRecallsSpec)

/-- 'linoleumlaw03.LotCompares', WHERE WHAT IT READS IS OF BULK AT MOST 1048576: true; the input reads as it did. -/
def lotComparesUptoRow : OpenClaim := { program := "ytdgmpaijpjkeoaa", sum := "45feefbdb908e46c483834cbdec74cec2fca20dc5a16ad0727ba1adb65a29162", func := "linoleum/linoleumlaw03.LotCompares", spec := "lotCompares", unfollowed := true, recurses := true, apart := false, narrowed := true }
def LotComparesUptoSaid : Prop := lotComparesUptoRow.holds Try.pinned (OpenSpec.upto lotComparesSpec)

/-- 'linoleumlaw03.LotOnly', WHERE WHAT IT READS IS OF BULK AT MOST 1048576: true; the input reads as it did. -/
def lotOnlyUptoRow : OpenClaim := { program := "ytdgmpaijpjkeoaa", sum := "45feefbdb908e46c483834cbdec74cec2fca20dc5a16ad0727ba1adb65a29162", func := "linoleum/linoleumlaw03.LotOnly", spec := "lotOnly", unfollowed := true, recurses := true, apart := false, narrowed := true }
def LotOnlyUptoSaid : Prop := lotOnlyUptoRow.holds Try.pinned (OpenSpec.upto lotOnlySpec)

/-- 'linoleumlaw03.LotOnlyKeeps', WHERE WHAT IT READS IS OF BULK AT MOST 1048576: true; the input reads as it did. -/
def lotOnlyKeepsUptoRow : OpenClaim := { program := "ytdgmpaijpjkeoaa", sum := "45feefbdb908e46c483834cbdec74cec2fca20dc5a16ad0727ba1adb65a29162", func := "linoleum/linoleumlaw03.LotOnlyKeeps", spec := "lotOnlyKeeps", unfollowed := true, recurses := true, apart := false, narrowed := true }
def LotOnlyKeepsUptoSaid : Prop := lotOnlyKeepsUptoRow.holds Try.pinned (OpenSpec.upto lotOnlyKeepsSpec)

/-- 'linoleumlaw03.LotSets', WHERE WHAT IT READS IS OF BULK AT MOST 1048576: true; the input reads as it did. -/
def lotSetsUptoRow : OpenClaim := { program := "ytdgmpaijpjkeoaa", sum := "45feefbdb908e46c483834cbdec74cec2fca20dc5a16ad0727ba1adb65a29162", func := "linoleum/linoleumlaw03.LotSets", spec := "lotSets", unfollowed := true, recurses := true, apart := false, narrowed := true }
def LotSetsUptoSaid : Prop := lotSetsUptoRow.holds Try.pinned (OpenSpec.upto lotSetsSpec)

end Rows
end Go.Proofs.Ytdgmpaijpjkeoaa
