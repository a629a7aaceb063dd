/-
  No cell of these rows narrows 'for every input' (looked for: loops, veiled, ifaces, maps, wideKeys, modest, calm, conditions, laid).
  DERIVED. THE GIVEN ROWS OF THIS SEAT. 9 by the template 'for every input the law returns true; each argument reads behind the call as it read before'; 0 by the template 'total and deterministic' (their statements: YticgmchbihakkaaTotals.lean).
  GIVEN WITH THE SEED: the statements are not yours to turn. If you find one false, say at which input.
  Laid BY PROGRAM, IN A SANDBOX (cutbox-rows.mjs): the forced cells as the released guide's own fill.sh prints them over the translation 1a42f6e4558ccdff… (all of the seat's roots in one cut). By AI agents, Wed Nov 11 2026. No macro, syntax, notation, axiom, sorry.
-/
import Derived.Test.YticgmchbihakkaaChecked
import GoSem.Claim
import GoSem.ClaimJoined
import GoSem.ClaimMapViews
import Derived.JoinedTies
import Derived.KernelRfl
namespace Go.Proofs.Yticgmchbihakkaa
/- THE CELL 'sum', in the pinned program and in every row, IS THE sha256 OF THE DUMP (.gsa) THAT YticgmchbihakkaaProg.lean LOADS. Nothing in Lean hashes anything: it is a label: what it is worth is what the hold of that sum in a sandbox is worth. -/
noncomputable def Try.pinned : Pinned := { name := "yticgmchbihakkaa", sum := "1a42f6e4558ccdffc514a559ad3469c43c5c9348b741f73077617c0c75f83572", checked := Try.checked }
namespace Rows
def none {H : Type} : Left H := { results := [], args := [] }

/-- 'cordwainlaw6.OindexSeeks': WHATEVER THE INPUT: true; the input reads as it did. -/
def oindexSeeksSpec : ChangeSpec := { name := "oindexSeeks", fn := fun _ => fun
  | [d1, d2, d3, d4] => { results := [.lit (.bool true)], args := [d1, d2, d3, d4] }
  | _ => none }
def oindexSeeksRow : OpenClaim := { program := "yticgmchbihakkaa", sum := "1a42f6e4558ccdffc514a559ad3469c43c5c9348b741f73077617c0c75f83572", func := "cordwain/cordwainlaw6.OindexSeeks", spec := "oindexSeeks", unfollowed := true, recurses := true, plainKeys := false, apart := false }
def OindexSeeksSaid : Prop := oindexSeeksRow.holds Try.pinned (OpenSpec.ofChange oindexSeeksSpec)

/-- ITS FALSE NEIGHBOUR: 'it returns false'. Refute it at one input. -/
def oindexSeeksWrong : ChangeSpec := { name := "oindexSeeks", fn := fun _ => fun
  | [d1, d2, d3, d4] => { results := [.lit (.bool false)], args := [d1, d2, d3, d4] }
  | _ => none }
def OindexSeeksWrongFalsely : Prop := oindexSeeksRow.holds Try.pinned (OpenSpec.ofChange oindexSeeksWrong)

/-- 'cordwainlaw24.ClientReads': WHATEVER THE INPUT: true; the input reads as it did. -/
def clientReadsSpec : ChangeSpec := { name := "clientReads", fn := fun _ => fun
  | [d1, d2, d3, d4, d5] => { results := [.lit (.bool true)], args := [d1, d2, d3, d4, d5] }
  | _ => none }
def clientReadsRow : OpenClaim := { program := "yticgmchbihakkaa", sum := "1a42f6e4558ccdffc514a559ad3469c43c5c9348b741f73077617c0c75f83572", func := "cordwain/cordwainlaw24.ClientReads", spec := "clientReads", plainKeys := false, apart := false }
def ClientReadsSaid : Prop := clientReadsRow.holds Try.pinned (OpenSpec.ofChange clientReadsSpec)

/-- ITS FALSE NEIGHBOUR: 'it returns false'. Refute it at one input. -/
def clientReadsWrong : ChangeSpec := { name := "clientReads", fn := fun _ => fun
  | [d1, d2, d3, d4, d5] => { results := [.lit (.bool false)], args := [d1, d2, d3, d4, d5] }
  | _ => none }
def ClientReadsWrongFalsely : Prop := clientReadsRow.holds Try.pinned (OpenSpec.ofChange clientReadsWrong)

/-- 'cordwainlaw24.ClientFollows': WHATEVER THE INPUT: true; the input reads as it did. -/
def clientFollowsSpec : ChangeSpec := { name := "clientFollows", fn := fun _ => fun
  | [d1, d2] => { results := [.lit (.bool true)], args := [d1, d2] }
  | _ => none }
def clientFollowsRow : OpenClaim := { program := "yticgmchbihakkaa", sum := "1a42f6e4558ccdffc514a559ad3469c43c5c9348b741f73077617c0c75f83572", func := "cordwain/cordwainlaw24.ClientFollows", spec := "clientFollows", plainKeys := false, apart := false }
def ClientFollowsSaid : Prop := clientFollowsRow.holds Try.pinned (OpenSpec.ofChange clientFollowsSpec)

/-- ITS FALSE NEIGHBOUR: 'it returns false'. Refute it at one input. -/
def clientFollowsWrong : ChangeSpec := { name := "clientFollows", fn := fun _ => fun
  | [d1, d2] => { results := [.lit (.bool false)], args := [d1, d2] }
  | _ => none }
def ClientFollowsWrongFalsely : Prop := clientFollowsRow.holds Try.pinned (OpenSpec.ofChange clientFollowsWrong)

/-- 'cordwainlaw24.ClientNothing': WHATEVER THE INPUT: true; the input reads as it did. -/
def clientNothingSpec : ChangeSpec := { name := "clientNothing", fn := fun _ => fun
  | [d] => { results := [.lit (.bool true)], args := [d] }
  | _ => none }
def clientNothingRow : OpenClaim := { program := "yticgmchbihakkaa", sum := "1a42f6e4558ccdffc514a559ad3469c43c5c9348b741f73077617c0c75f83572", func := "cordwain/cordwainlaw24.ClientNothing", spec := "clientNothing", plainKeys := false, apart := false }
def ClientNothingSaid : Prop := clientNothingRow.holds Try.pinned (OpenSpec.ofChange clientNothingSpec)

/-- ITS FALSE NEIGHBOUR: 'it returns false'. Refute it at one input. -/
def clientNothingWrong : ChangeSpec := { name := "clientNothing", fn := fun _ => fun
  | [d] => { results := [.lit (.bool false)], args := [d] }
  | _ => none }
def ClientNothingWrongFalsely : Prop := clientNothingRow.holds Try.pinned (OpenSpec.ofChange clientNothingWrong)

/-- 'cordwainlaw18.CommitsPlays': WHATEVER THE INPUT: true; the input reads as it did. -/
def commitsPlaysSpec : ChangeSpec := { name := "commitsPlays", fn := fun _ => fun
  | [d1, d2, d3] => { results := [.lit (.bool true)], args := [d1, d2, d3] }
  | _ => none }
def commitsPlaysRow : OpenClaim := { program := "yticgmchbihakkaa", sum := "1a42f6e4558ccdffc514a559ad3469c43c5c9348b741f73077617c0c75f83572", func := "cordwain/cordwainlaw18.CommitsPlays", spec := "commitsPlays", unfollowed := true, recurses := true, plainKeys := false, apart := false }
def CommitsPlaysSaid : Prop := commitsPlaysRow.holds Try.pinned (OpenSpec.ofChange commitsPlaysSpec)

/-- ITS FALSE NEIGHBOUR: 'it returns false'. Refute it at one input. -/
def commitsPlaysWrong : ChangeSpec := { name := "commitsPlays", fn := fun _ => fun
  | [d1, d2, d3] => { results := [.lit (.bool false)], args := [d1, d2, d3] }
  | _ => none }
def CommitsPlaysWrongFalsely : Prop := commitsPlaysRow.holds Try.pinned (OpenSpec.ofChange commitsPlaysWrong)

/-- 'cordwainlaw21.TopicsPlays': WHATEVER THE INPUT: true; the input reads as it did. -/
def topicsPlaysSpec : ChangeSpec := { name := "topicsPlays", fn := fun _ => fun
  | [d1, d2] => { results := [.lit (.bool true)], args := [d1, d2] }
  | _ => none }
def topicsPlaysRow : OpenClaim := { program := "yticgmchbihakkaa", sum := "1a42f6e4558ccdffc514a559ad3469c43c5c9348b741f73077617c0c75f83572", func := "cordwain/cordwainlaw21.TopicsPlays", spec := "topicsPlays", inPlace := ["maps.clone"], unfollowed := true, recurses := true, plainKeys := false, apart := false }
def TopicsPlaysSaid : Prop := topicsPlaysRow.holds Try.pinned (OpenSpec.ofChange topicsPlaysSpec)

/-- ITS FALSE NEIGHBOUR: 'it returns false'. Refute it at one input. -/
def topicsPlaysWrong : ChangeSpec := { name := "topicsPlays", fn := fun _ => fun
  | [d1, d2] => { results := [.lit (.bool false)], args := [d1, d2] }
  | _ => none }
def TopicsPlaysWrongFalsely : Prop := topicsPlaysRow.holds Try.pinned (OpenSpec.ofChange topicsPlaysWrong)

/-- 'cordwainlaw21.TopicsNothing': WHATEVER THE INPUT: true; the input reads as it did. -/
def topicsNothingSpec : ChangeSpec := { name := "topicsNothing", fn := fun _ => fun
  | [d1, d2] => { results := [.lit (.bool true)], args := [d1, d2] }
  | _ => none }
def topicsNothingRow : OpenClaim := { program := "yticgmchbihakkaa", sum := "1a42f6e4558ccdffc514a559ad3469c43c5c9348b741f73077617c0c75f83572", func := "cordwain/cordwainlaw21.TopicsNothing", spec := "topicsNothing", inPlace := ["maps.clone"], unfollowed := true, recurses := true, plainKeys := false, apart := false }
def TopicsNothingSaid : Prop := topicsNothingRow.holds Try.pinned (OpenSpec.ofChange topicsNothingSpec)

/-- ITS FALSE NEIGHBOUR: 'it returns false'. Refute it at one input. -/
def topicsNothingWrong : ChangeSpec := { name := "topicsNothing", fn := fun _ => fun
  | [d1, d2] => { results := [.lit (.bool false)], args := [d1, d2] }
  | _ => none }
def TopicsNothingWrongFalsely : Prop := topicsNothingRow.holds Try.pinned (OpenSpec.ofChange topicsNothingWrong)

/-- 'cordwainlaw21.TopicsFull': WHATEVER THE INPUT: true; the input reads as it did. -/
def topicsFullSpec : ChangeSpec := { name := "topicsFull", fn := fun _ => fun
  | [d1, d2] => { results := [.lit (.bool true)], args := [d1, d2] }
  | _ => none }
def topicsFullRow : OpenClaim := { program := "yticgmchbihakkaa", sum := "1a42f6e4558ccdffc514a559ad3469c43c5c9348b741f73077617c0c75f83572", func := "cordwain/cordwainlaw21.TopicsFull", spec := "topicsFull", inPlace := ["maps.clone"], unfollowed := true, recurses := true, plainKeys := false, apart := false }
def TopicsFullSaid : Prop := topicsFullRow.holds Try.pinned (OpenSpec.ofChange topicsFullSpec)

/-- ITS FALSE NEIGHBOUR: 'it returns false'. Refute it at one input. -/
def topicsFullWrong : ChangeSpec := { name := "topicsFull", fn := fun _ => fun
  | [d1, d2] => { results := [.lit (.bool false)], args := [d1, d2] }
  | _ => none }
def TopicsFullWrongFalsely : Prop := topicsFullRow.holds Try.pinned (OpenSpec.ofChange topicsFullWrong)

/-- 'cordwainlaw21.TopicsCrash': WHATEVER THE INPUT: true; the input reads as it did. -/
def topicsCrashSpec : ChangeSpec := { name := "topicsCrash", fn := fun _ => fun
  | [d1, d2, d3] => { results := [.lit (.bool true)], args := [d1, d2, d3] }
  | _ => none }
def topicsCrashRow : OpenClaim := { program := "yticgmchbihakkaa", sum := "1a42f6e4558ccdffc514a559ad3469c43c5c9348b741f73077617c0c75f83572", func := "cordwain/cordwainlaw21.TopicsCrash", spec := "topicsCrash", inPlace := ["maps.clone"], unfollowed := true, recurses := true, plainKeys := false, apart := false }
def TopicsCrashSaid : Prop := topicsCrashRow.holds Try.pinned (OpenSpec.ofChange topicsCrashSpec)

/-- ITS FALSE NEIGHBOUR: 'it returns false'. Refute it at one input. -/
def topicsCrashWrong : ChangeSpec := { name := "topicsCrash", fn := fun _ => fun
  | [d1, d2, d3] => { results := [.lit (.bool false)], args := [d1, d2, d3] }
  | _ => none }
def TopicsCrashWrongFalsely : Prop := topicsCrashRow.holds Try.pinned (OpenSpec.ofChange topicsCrashWrong)

/- THE SECOND FORM. 'bulk': how many values and letters a reading holds, each counted each time it is reached (what is shared counts as often as it is met; a slice's spare places count too). A statement '..UptoSaid' is the law's where the arguments, and the package variables that the reading takes, are together of bulk at most 1048576: NARROWER than '..Said'. Prove '..Said' where nothing that the law and all that it calls make is longer than what came in: it says more and counts as full. Else prove '..UptoSaid'. A law counts once. -/
mutual
def uptoBulk {H : Type} : DataW H → Nat
  | .lit (.string bytes) => bytes.length + 1
  | .lit _ => 1
  | .nil => 1
  | .ptr d => uptoBulk d + 1
  | .slice elems spare => uptoBulkAll elems + uptoBulkAll spare + 1
  | .agg parts => uptoBulkAll parts + 1
  | .iface _ d => uptoBulk d + 1
  | .map entries => uptoBulkEntries entries + 1
  | .held _ => 1
def uptoBulkAll {H : Type} : List (DataW H) → Nat
  | [] => 0
  | d :: r => uptoBulk d + uptoBulkAll r
def uptoBulkEntries {H : Type} : List (Lit × DataW H) → Nat
  | [] => 0
  | x :: r => uptoBulkEntry x + uptoBulkEntries r
def uptoBulkEntry {H : Type} : Lit × DataW H → Nat
  | (.string bytes, d) => bytes.length + uptoBulk d + 1
  | (_, d) => uptoBulk d + 1
 end
def uptoSmall : (H : Type) → List (DataW H) → Bool := fun _ ds => decide (uptoBulkAll ds ≤ 1048576)
def OpenSpec.upto (s : _root_.Go.ChangeSpec) : _root_.Go.OpenSpec := { _root_.Go.OpenSpec.ofChange s with cond := some uptoSmall }

/-- 'cordwainlaw6.OindexSeeks', WHERE WHAT IT READS IS OF BULK AT MOST 1048576: true; the input reads as it did. -/
def oindexSeeksUptoRow : OpenClaim := { program := "yticgmchbihakkaa", sum := "1a42f6e4558ccdffc514a559ad3469c43c5c9348b741f73077617c0c75f83572", func := "cordwain/cordwainlaw6.OindexSeeks", spec := "oindexSeeks", unfollowed := true, recurses := true, plainKeys := false, apart := false, narrowed := true }
def OindexSeeksUptoSaid : Prop := oindexSeeksUptoRow.holds Try.pinned (OpenSpec.upto oindexSeeksSpec)

/-- 'cordwainlaw24.ClientReads', WHERE WHAT IT READS IS OF BULK AT MOST 1048576: true; the input reads as it did. -/
def clientReadsUptoRow : OpenClaim := { program := "yticgmchbihakkaa", sum := "1a42f6e4558ccdffc514a559ad3469c43c5c9348b741f73077617c0c75f83572", func := "cordwain/cordwainlaw24.ClientReads", spec := "clientReads", plainKeys := false, apart := false, narrowed := true }
def ClientReadsUptoSaid : Prop := clientReadsUptoRow.holds Try.pinned (OpenSpec.upto clientReadsSpec)

/-- 'cordwainlaw24.ClientFollows', WHERE WHAT IT READS IS OF BULK AT MOST 1048576: true; the input reads as it did. -/
def clientFollowsUptoRow : OpenClaim := { program := "yticgmchbihakkaa", sum := "1a42f6e4558ccdffc514a559ad3469c43c5c9348b741f73077617c0c75f83572", func := "cordwain/cordwainlaw24.ClientFollows", spec := "clientFollows", plainKeys := false, apart := false, narrowed := true }
def ClientFollowsUptoSaid : Prop := clientFollowsUptoRow.holds Try.pinned (OpenSpec.upto clientFollowsSpec)

/-- 'cordwainlaw24.ClientNothing', WHERE WHAT IT READS IS OF BULK AT MOST 1048576: true; the input reads as it did. -/
def clientNothingUptoRow : OpenClaim := { program := "yticgmchbihakkaa", sum := "1a42f6e4558ccdffc514a559ad3469c43c5c9348b741f73077617c0c75f83572", func := "cordwain/cordwainlaw24.ClientNothing", spec := "clientNothing", plainKeys := false, apart := false, narrowed := true }
def ClientNothingUptoSaid : Prop := clientNothingUptoRow.holds Try.pinned (OpenSpec.upto clientNothingSpec)

/-- 'cordwainlaw18.CommitsPlays', WHERE WHAT IT READS IS OF BULK AT MOST 1048576: true; the input reads as it did. -/
def commitsPlaysUptoRow : OpenClaim := { program := "yticgmchbihakkaa", sum := "1a42f6e4558ccdffc514a559ad3469c43c5c9348b741f73077617c0c75f83572", func := "cordwain/cordwainlaw18.CommitsPlays", spec := "commitsPlays", unfollowed := true, recurses := true, plainKeys := false, apart := false, narrowed := true }
def CommitsPlaysUptoSaid : Prop := commitsPlaysUptoRow.holds Try.pinned (OpenSpec.upto commitsPlaysSpec)

/-- 'cordwainlaw21.TopicsPlays', WHERE WHAT IT READS IS OF BULK AT MOST 1048576: true; the input reads as it did. -/
def topicsPlaysUptoRow : OpenClaim := { program := "yticgmchbihakkaa", sum := "1a42f6e4558ccdffc514a559ad3469c43c5c9348b741f73077617c0c75f83572", func := "cordwain/cordwainlaw21.TopicsPlays", spec := "topicsPlays", inPlace := ["maps.clone"], unfollowed := true, recurses := true, plainKeys := false, apart := false, narrowed := true }
def TopicsPlaysUptoSaid : Prop := topicsPlaysUptoRow.holds Try.pinned (OpenSpec.upto topicsPlaysSpec)

/-- 'cordwainlaw21.TopicsNothing', WHERE WHAT IT READS IS OF BULK AT MOST 1048576: true; the input reads as it did. -/
def topicsNothingUptoRow : OpenClaim := { program := "yticgmchbihakkaa", sum := "1a42f6e4558ccdffc514a559ad3469c43c5c9348b741f73077617c0c75f83572", func := "cordwain/cordwainlaw21.TopicsNothing", spec := "topicsNothing", inPlace := ["maps.clone"], unfollowed := true, recurses := true, plainKeys := false, apart := false, narrowed := true }
def TopicsNothingUptoSaid : Prop := topicsNothingUptoRow.holds Try.pinned (OpenSpec.upto topicsNothingSpec)

/-- 'cordwainlaw21.TopicsFull', WHERE WHAT IT READS IS OF BULK AT MOST 1048576: true; the input reads as it did. -/
def topicsFullUptoRow : OpenClaim := { program := "yticgmchbihakkaa", sum := "1a42f6e4558ccdffc514a559ad3469c43c5c9348b741f73077617c0c75f83572", func := "cordwain/cordwainlaw21.TopicsFull", spec := "topicsFull", inPlace := ["maps.clone"], unfollowed := true, recurses := true, plainKeys := false, apart := false, narrowed := true }
def TopicsFullUptoSaid : Prop := topicsFullUptoRow.holds Try.pinned (OpenSpec.upto topicsFullSpec)

/-- 'cordwainlaw21.TopicsCrash', WHERE WHAT IT READS IS OF BULK AT MOST 1048576: true; the input reads as it did. -/
def topicsCrashUptoRow : OpenClaim := { program := "yticgmchbihakkaa", sum := "1a42f6e4558ccdffc514a559ad3469c43c5c9348b741f73077617c0c75f83572", func := "cordwain/cordwainlaw21.TopicsCrash", spec := "topicsCrash", inPlace := ["maps.clone"], unfollowed := true, recurses := true, plainKeys := false, apart := false, narrowed := true }
def TopicsCrashUptoSaid : Prop := topicsCrashUptoRow.holds Try.pinned (OpenSpec.upto topicsCrashSpec)

end Rows
end Go.Proofs.Yticgmchbihakkaa
