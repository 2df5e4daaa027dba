/-
  No cell of these rows narrows 'for every input' (looked for: loops, veiled, ifaces, maps, wideKeys, modest, calm, conditions, laid).
  DERIVED. THE GIVEN ROWS OF THIS SEAT. 13 by the template 'for every input the law returns true; each argument reads behind the call as it read before'; 0 by the template 'total and deterministic' (their statements: YtgnigkghkldcfaaTotals.lean).
  GIVEN WITH THE SEED: the statements are not yours to turn. If you find one false, say at which input.
  Laid BY PROGRAM, IN A SANDBOX (cutbox-rows.mjs): the forced cells as the released guide's own fill.sh prints them over the translation da6304c8a7e8d6d0… (all of the seat's roots in one cut). By AI agents, Wed Nov 11 2026. No macro, syntax, notation, axiom, sorry.
-/
import Derived.Test.YtgnigkghkldcfaaChecked
import GoSem.Claim
import GoSem.ClaimJoined
import GoSem.ClaimMapViews
import Derived.JoinedTies
import Derived.KernelRfl
namespace Go.Proofs.Ytgnigkghkldcfaa
/- THE CELL 'sum', in the pinned program and in every row, IS THE sha256 OF THE DUMP (.gsa) THAT YtgnigkghkldcfaaProg.lean LOADS. Nothing in Lean hashes anything: it is a label: what it is worth is what the hold of that sum in a sandbox is worth. -/
noncomputable def Try.pinned : Pinned := { name := "ytgnigkghkldcfaa", sum := "da6304c8a7e8d6d07dddf4b00642a06fce1c66a18b077dadf4daa97fe1f55ea8", checked := Try.checked }
namespace Rows
def none {H : Type} : Left H := { results := [], args := [] }

/-- 'coldstorelaw06.ObjectPlays': WHATEVER THE INPUT: true; the input reads as it did. -/
def objectPlaysSpec : ChangeSpec := { name := "objectPlays", fn := fun _ => fun
  | [d1, d2, d3, d4, d5] => { results := [.lit (.bool true)], args := [d1, d2, d3, d4, d5] }
  | _ => none }
def objectPlaysRow : OpenClaim := { program := "ytgnigkghkldcfaa", sum := "da6304c8a7e8d6d07dddf4b00642a06fce1c66a18b077dadf4daa97fe1f55ea8", func := "coldstore/coldstorelaw06.ObjectPlays", spec := "objectPlays", unfollowed := true, recurses := true, apart := false }
def ObjectPlaysSaid : Prop := objectPlaysRow.holds Try.pinned (OpenSpec.ofChange objectPlaysSpec)

/-- ITS FALSE NEIGHBOUR: 'it returns false'. Refute it at one input. -/
def objectPlaysWrong : ChangeSpec := { name := "objectPlays", fn := fun _ => fun
  | [d1, d2, d3, d4, d5] => { results := [.lit (.bool false)], args := [d1, d2, d3, d4, d5] }
  | _ => none }
def ObjectPlaysWrongFalsely : Prop := objectPlaysRow.holds Try.pinned (OpenSpec.ofChange objectPlaysWrong)

/-- 'coldstorelaw06.ObjectRooms': WHATEVER THE INPUT: true; the input reads as it did. -/
def objectRoomsSpec : ChangeSpec := { name := "objectRooms", fn := fun _ => fun
  | [d1, d2, d3, d4] => { results := [.lit (.bool true)], args := [d1, d2, d3, d4] }
  | _ => none }
def objectRoomsRow : OpenClaim := { program := "ytgnigkghkldcfaa", sum := "da6304c8a7e8d6d07dddf4b00642a06fce1c66a18b077dadf4daa97fe1f55ea8", func := "coldstore/coldstorelaw06.ObjectRooms", spec := "objectRooms", unfollowed := true, recurses := true, apart := false }
def ObjectRoomsSaid : Prop := objectRoomsRow.holds Try.pinned (OpenSpec.ofChange objectRoomsSpec)

/-- ITS FALSE NEIGHBOUR: 'it returns false'. Refute it at one input. -/
def objectRoomsWrong : ChangeSpec := { name := "objectRooms", fn := fun _ => fun
  | [d1, d2, d3, d4] => { results := [.lit (.bool false)], args := [d1, d2, d3, d4] }
  | _ => none }
def ObjectRoomsWrongFalsely : Prop := objectRoomsRow.holds Try.pinned (OpenSpec.ofChange objectRoomsWrong)

/-- 'coldstorelaw06.ObjectLists': WHATEVER THE INPUT: true; the input reads as it did. -/
def objectListsSpec : ChangeSpec := { name := "objectLists", fn := fun _ => fun
  | [d1, d2] => { results := [.lit (.bool true)], args := [d1, d2] }
  | _ => none }
def objectListsRow : OpenClaim := { program := "ytgnigkghkldcfaa", sum := "da6304c8a7e8d6d07dddf4b00642a06fce1c66a18b077dadf4daa97fe1f55ea8", func := "coldstore/coldstorelaw06.ObjectLists", spec := "objectLists", unfollowed := true, recurses := true, apart := false }
def ObjectListsSaid : Prop := objectListsRow.holds Try.pinned (OpenSpec.ofChange objectListsSpec)

/-- ITS FALSE NEIGHBOUR: 'it returns false'. Refute it at one input. -/
def objectListsWrong : ChangeSpec := { name := "objectLists", fn := fun _ => fun
  | [d1, d2] => { results := [.lit (.bool false)], args := [d1, d2] }
  | _ => none }
def ObjectListsWrongFalsely : Prop := objectListsRow.holds Try.pinned (OpenSpec.ofChange objectListsWrong)

/-- 'coldstorelaw06.ObjectCopies': WHATEVER THE INPUT: true; the input reads as it did. -/
def objectCopiesSpec : ChangeSpec := { name := "objectCopies", fn := fun _ => fun
  | [d1, d2] => { results := [.lit (.bool true)], args := [d1, d2] }
  | _ => none }
def objectCopiesRow : OpenClaim := { program := "ytgnigkghkldcfaa", sum := "da6304c8a7e8d6d07dddf4b00642a06fce1c66a18b077dadf4daa97fe1f55ea8", func := "coldstore/coldstorelaw06.ObjectCopies", spec := "objectCopies", unfollowed := true, recurses := true, apart := false }
def ObjectCopiesSaid : Prop := objectCopiesRow.holds Try.pinned (OpenSpec.ofChange objectCopiesSpec)

/-- ITS FALSE NEIGHBOUR: 'it returns false'. Refute it at one input. -/
def objectCopiesWrong : ChangeSpec := { name := "objectCopies", fn := fun _ => fun
  | [d1, d2] => { results := [.lit (.bool false)], args := [d1, d2] }
  | _ => none }
def ObjectCopiesWrongFalsely : Prop := objectCopiesRow.holds Try.pinned (OpenSpec.ofChange objectCopiesWrong)

/-- 'coldstorelaw06.ObjectFuses': WHATEVER THE INPUT: true; the input reads as it did. -/
def objectFusesSpec : ChangeSpec := { name := "objectFuses", fn := fun _ => fun
  | [d1, d2] => { results := [.lit (.bool true)], args := [d1, d2] }
  | _ => none }
def objectFusesRow : OpenClaim := { program := "ytgnigkghkldcfaa", sum := "da6304c8a7e8d6d07dddf4b00642a06fce1c66a18b077dadf4daa97fe1f55ea8", func := "coldstore/coldstorelaw06.ObjectFuses", spec := "objectFuses", unfollowed := true, recurses := true, apart := false }
def ObjectFusesSaid : Prop := objectFusesRow.holds Try.pinned (OpenSpec.ofChange objectFusesSpec)

/-- ITS FALSE NEIGHBOUR: 'it returns false'. Refute it at one input. -/
def objectFusesWrong : ChangeSpec := { name := "objectFuses", fn := fun _ => fun
  | [d1, d2] => { results := [.lit (.bool false)], args := [d1, d2] }
  | _ => none }
def ObjectFusesWrongFalsely : Prop := objectFusesRow.holds Try.pinned (OpenSpec.ofChange objectFusesWrong)

/-- 'coldstorelaw07.ColdJobs': WHATEVER THE INPUT: true; the input reads as it did. -/
def coldJobsSpec : ChangeSpec := { name := "coldJobs", fn := fun _ => fun
  | [d1, d2] => { results := [.lit (.bool true)], args := [d1, d2] }
  | _ => none }
def coldJobsRow : OpenClaim := { program := "ytgnigkghkldcfaa", sum := "da6304c8a7e8d6d07dddf4b00642a06fce1c66a18b077dadf4daa97fe1f55ea8", func := "coldstore/coldstorelaw07.ColdJobs", spec := "coldJobs", unfollowed := true, recurses := true, apart := false }
def ColdJobsSaid : Prop := coldJobsRow.holds Try.pinned (OpenSpec.ofChange coldJobsSpec)

/-- ITS FALSE NEIGHBOUR: 'it returns false'. Refute it at one input. -/
def coldJobsWrong : ChangeSpec := { name := "coldJobs", fn := fun _ => fun
  | [d1, d2] => { results := [.lit (.bool false)], args := [d1, d2] }
  | _ => none }
def ColdJobsWrongFalsely : Prop := coldJobsRow.holds Try.pinned (OpenSpec.ofChange coldJobsWrong)

/-- 'coldstorelaw07.ColdYoungs': WHATEVER THE INPUT: true; the input reads as it did. -/
def coldYoungsSpec : ChangeSpec := { name := "coldYoungs", fn := fun _ => fun
  | [d1, d2, d3] => { results := [.lit (.bool true)], args := [d1, d2, d3] }
  | _ => none }
def coldYoungsRow : OpenClaim := { program := "ytgnigkghkldcfaa", sum := "da6304c8a7e8d6d07dddf4b00642a06fce1c66a18b077dadf4daa97fe1f55ea8", func := "coldstore/coldstorelaw07.ColdYoungs", spec := "coldYoungs", unfollowed := true, recurses := true, apart := false }
def ColdYoungsSaid : Prop := coldYoungsRow.holds Try.pinned (OpenSpec.ofChange coldYoungsSpec)

/-- ITS FALSE NEIGHBOUR: 'it returns false'. Refute it at one input. -/
def coldYoungsWrong : ChangeSpec := { name := "coldYoungs", fn := fun _ => fun
  | [d1, d2, d3] => { results := [.lit (.bool false)], args := [d1, d2, d3] }
  | _ => none }
def ColdYoungsWrongFalsely : Prop := coldYoungsRow.holds Try.pinned (OpenSpec.ofChange coldYoungsWrong)

/-- 'coldstorelaw07.ColdAgain': WHATEVER THE INPUT: true; the input reads as it did. -/
def coldAgainSpec : ChangeSpec := { name := "coldAgain", fn := fun _ => fun
  | [d1, d2, d3, d4] => { results := [.lit (.bool true)], args := [d1, d2, d3, d4] }
  | _ => none }
def coldAgainRow : OpenClaim := { program := "ytgnigkghkldcfaa", sum := "da6304c8a7e8d6d07dddf4b00642a06fce1c66a18b077dadf4daa97fe1f55ea8", func := "coldstore/coldstorelaw07.ColdAgain", spec := "coldAgain", unfollowed := true, recurses := true, apart := false }
def ColdAgainSaid : Prop := coldAgainRow.holds Try.pinned (OpenSpec.ofChange coldAgainSpec)

/-- ITS FALSE NEIGHBOUR: 'it returns false'. Refute it at one input. -/
def coldAgainWrong : ChangeSpec := { name := "coldAgain", fn := fun _ => fun
  | [d1, d2, d3, d4] => { results := [.lit (.bool false)], args := [d1, d2, d3, d4] }
  | _ => none }
def ColdAgainWrongFalsely : Prop := coldAgainRow.holds Try.pinned (OpenSpec.ofChange coldAgainWrong)

/-- 'coldstorelaw19.RetainKeeps': WHATEVER THE INPUT: true; the input reads as it did. -/
def retainKeepsSpec : ChangeSpec := { name := "retainKeeps", fn := fun _ => fun
  | [d1, d2, d3] => { results := [.lit (.bool true)], args := [d1, d2, d3] }
  | _ => none }
def retainKeepsRow : OpenClaim := { program := "ytgnigkghkldcfaa", sum := "da6304c8a7e8d6d07dddf4b00642a06fce1c66a18b077dadf4daa97fe1f55ea8", func := "coldstore/coldstorelaw19.RetainKeeps", spec := "retainKeeps", inPlace := ["internal/bytealg.Compare"], unfollowed := true, recurses := true, apart := false }
def RetainKeepsSaid : Prop := retainKeepsRow.holds Try.pinned (OpenSpec.ofChange retainKeepsSpec)

/-- ITS FALSE NEIGHBOUR: 'it returns false'. Refute it at one input. -/
def retainKeepsWrong : ChangeSpec := { name := "retainKeeps", fn := fun _ => fun
  | [d1, d2, d3] => { results := [.lit (.bool false)], args := [d1, d2, d3] }
  | _ => none }
def RetainKeepsWrongFalsely : Prop := retainKeepsRow.holds Try.pinned (OpenSpec.ofChange retainKeepsWrong)

/-- 'coldstorelaw19.RetainMore': WHATEVER THE INPUT: true; the input reads as it did. -/
def retainMoreSpec : ChangeSpec := { name := "retainMore", fn := fun _ => fun
  | [d1, d2, d3, d4] => { results := [.lit (.bool true)], args := [d1, d2, d3, d4] }
  | _ => none }
def retainMoreRow : OpenClaim := { program := "ytgnigkghkldcfaa", sum := "da6304c8a7e8d6d07dddf4b00642a06fce1c66a18b077dadf4daa97fe1f55ea8", func := "coldstore/coldstorelaw19.RetainMore", spec := "retainMore", inPlace := ["internal/bytealg.Compare"], unfollowed := true, recurses := true, apart := false }
def RetainMoreSaid : Prop := retainMoreRow.holds Try.pinned (OpenSpec.ofChange retainMoreSpec)

/-- ITS FALSE NEIGHBOUR: 'it returns false'. Refute it at one input. -/
def retainMoreWrong : ChangeSpec := { name := "retainMore", fn := fun _ => fun
  | [d1, d2, d3, d4] => { results := [.lit (.bool false)], args := [d1, d2, d3, d4] }
  | _ => none }
def RetainMoreWrongFalsely : Prop := retainMoreRow.holds Try.pinned (OpenSpec.ofChange retainMoreWrong)

/-- 'coldstorelaw19.RetainDays': WHATEVER THE INPUT: true; the input reads as it did. -/
def retainDaysSpec : ChangeSpec := { name := "retainDays", fn := fun _ => fun
  | [d1, d2, d3] => { results := [.lit (.bool true)], args := [d1, d2, d3] }
  | _ => none }
def retainDaysRow : OpenClaim := { program := "ytgnigkghkldcfaa", sum := "da6304c8a7e8d6d07dddf4b00642a06fce1c66a18b077dadf4daa97fe1f55ea8", func := "coldstore/coldstorelaw19.RetainDays", spec := "retainDays", inPlace := ["internal/bytealg.Compare"], unfollowed := true, recurses := true, apart := false }
def RetainDaysSaid : Prop := retainDaysRow.holds Try.pinned (OpenSpec.ofChange retainDaysSpec)

/-- ITS FALSE NEIGHBOUR: 'it returns false'. Refute it at one input. -/
def retainDaysWrong : ChangeSpec := { name := "retainDays", fn := fun _ => fun
  | [d1, d2, d3] => { results := [.lit (.bool false)], args := [d1, d2, d3] }
  | _ => none }
def RetainDaysWrongFalsely : Prop := retainDaysRow.holds Try.pinned (OpenSpec.ofChange retainDaysWrong)

/-- 'coldstorelaw19.RetainTags': WHATEVER THE INPUT: true; the input reads as it did. -/
def retainTagsSpec : ChangeSpec := { name := "retainTags", fn := fun _ => fun
  | [d1, d2, d3] => { results := [.lit (.bool true)], args := [d1, d2, d3] }
  | _ => none }
def retainTagsRow : OpenClaim := { program := "ytgnigkghkldcfaa", sum := "da6304c8a7e8d6d07dddf4b00642a06fce1c66a18b077dadf4daa97fe1f55ea8", func := "coldstore/coldstorelaw19.RetainTags", spec := "retainTags", inPlace := ["internal/bytealg.Compare"], unfollowed := true, recurses := true, apart := false }
def RetainTagsSaid : Prop := retainTagsRow.holds Try.pinned (OpenSpec.ofChange retainTagsSpec)

/-- ITS FALSE NEIGHBOUR: 'it returns false'. Refute it at one input. -/
def retainTagsWrong : ChangeSpec := { name := "retainTags", fn := fun _ => fun
  | [d1, d2, d3] => { results := [.lit (.bool false)], args := [d1, d2, d3] }
  | _ => none }
def RetainTagsWrongFalsely : Prop := retainTagsRow.holds Try.pinned (OpenSpec.ofChange retainTagsWrong)

/-- 'coldstorelaw19.RetainAll': WHATEVER THE INPUT: true; the input reads as it did. -/
def retainAllSpec : ChangeSpec := { name := "retainAll", fn := fun _ => fun
  | [d1, d2] => { results := [.lit (.bool true)], args := [d1, d2] }
  | _ => none }
def retainAllRow : OpenClaim := { program := "ytgnigkghkldcfaa", sum := "da6304c8a7e8d6d07dddf4b00642a06fce1c66a18b077dadf4daa97fe1f55ea8", func := "coldstore/coldstorelaw19.RetainAll", spec := "retainAll", inPlace := ["internal/bytealg.Compare"], unfollowed := true, recurses := true, apart := false }
def RetainAllSaid : Prop := retainAllRow.holds Try.pinned (OpenSpec.ofChange retainAllSpec)

/-- ITS FALSE NEIGHBOUR: 'it returns false'. Refute it at one input. -/
def retainAllWrong : ChangeSpec := { name := "retainAll", fn := fun _ => fun
  | [d1, d2] => { results := [.lit (.bool false)], args := [d1, d2] }
  | _ => none }
def RetainAllWrongFalsely : Prop := retainAllRow.holds Try.pinned (OpenSpec.ofChange retainAllWrong)

/- THE SECOND FORM. 'bulk': how many values and letters a reading holds, each counted each time it is reached (what is shared counts as often as it is met; a slice's spare places count too). A statement '..UptoSaid' is the law's where the arguments, and the package variables that the reading takes, are together of bulk at most 1048576: NARROWER than '..Said'. Prove '..Said' where nothing that the law and all that it calls make is longer than what came in: it says more and counts as full. Else prove '..UptoSaid'. A law counts once. -/
mutual
def uptoBulk {H : Type} : DataW H → Nat
  | .lit (.string bytes) => bytes.length + 1
  | .lit _ => 1
  | .nil => 1
  | .ptr d => uptoBulk d + 1
  | .slice elems spare => uptoBulkAll elems + uptoBulkAll spare + 1
  | .agg parts => uptoBulkAll parts + 1
  | .iface _ d => uptoBulk d + 1
  | .map entries => uptoBulkEntries entries + 1
  | .held _ => 1
def uptoBulkAll {H : Type} : List (DataW H) → Nat
  | [] => 0
  | d :: r => uptoBulk d + uptoBulkAll r
def uptoBulkEntries {H : Type} : List (Lit × DataW H) → Nat
  | [] => 0
  | x :: r => uptoBulkEntry x + uptoBulkEntries r
def uptoBulkEntry {H : Type} : Lit × DataW H → Nat
  | (.string bytes, d) => bytes.length + uptoBulk d + 1
  | (_, d) => uptoBulk d + 1
 end
def uptoSmall : (H : Type) → List (DataW H) → Bool := fun _ ds => decide (uptoBulkAll ds ≤ 1048576)
def OpenSpec.upto (s : _root_.Go.ChangeSpec) : _root_.Go.OpenSpec := { _root_.Go.OpenSpec.ofChange s with cond := some uptoSmall }

/-- 'coldstorelaw06.ObjectPlays', WHERE WHAT IT READS IS OF BULK AT MOST 1048576: true; the input reads as it did. -/
def objectPlaysUptoRow : OpenClaim := { program := "ytgnigkghkldcfaa", sum := "da6304c8a7e8d6d07dddf4b00642a06fce1c66a18b077dadf4daa97fe1f55ea8", func := "coldstore/coldstorelaw06.ObjectPlays", spec := "objectPlays", unfollowed := true, recurses := true, apart := false, narrowed := true }
def ObjectPlaysUptoSaid : Prop := objectPlaysUptoRow.holds Try.pinned (OpenSpec.upto objectPlaysSpec)

/-- 'coldstorelaw06.ObjectRooms', WHERE WHAT IT READS IS OF BULK AT MOST 1048576: true; the input reads as it did. -/
def objectRoomsUptoRow : OpenClaim := { program := "ytgnigkghkldcfaa", sum := "da6304c8a7e8d6d07dddf4b00642a06fce1c66a18b077dadf4daa97fe1f55ea8", func := "coldstore/coldstorelaw06.ObjectRooms", spec := "objectRooms", unfollowed := true, recurses := true, apart := false, narrowed := true }
def ObjectRoomsUptoSaid : Prop := objectRoomsUptoRow.holds Try.pinned (OpenSpec.upto objectRoomsSpec)

/-- 'coldstorelaw06.ObjectLists', WHERE WHAT IT READS IS OF BULK AT MOST 1048576: true; the input reads as it did. -/
def objectListsUptoRow : OpenClaim := { program := "ytgnigkghkldcfaa", sum := "da6304c8a7e8d6d07dddf4b00642a06fce1c66a18b077dadf4daa97fe1f55ea8", func := "coldstore/coldstorelaw06.ObjectLists", spec := "objectLists", unfollowed := true, recurses := true, apart := false, narrowed := true }
def ObjectListsUptoSaid : Prop := objectListsUptoRow.holds Try.pinned (OpenSpec.upto objectListsSpec)

/-- 'coldstorelaw06.ObjectCopies', WHERE WHAT IT READS IS OF BULK AT MOST 1048576: true; the input reads as it did. -/
def objectCopiesUptoRow : OpenClaim := { program := "ytgnigkghkldcfaa", sum := "da6304c8a7e8d6d07dddf4b00642a06fce1c66a18b077dadf4daa97fe1f55ea8", func := "coldstore/coldstorelaw06.ObjectCopies", spec := "objectCopies", unfollowed := true, recurses := true, apart := false, narrowed := true }
def ObjectCopiesUptoSaid : Prop := objectCopiesUptoRow.holds Try.pinned (OpenSpec.upto objectCopiesSpec)

/-- 'coldstorelaw06.ObjectFuses', WHERE WHAT IT READS IS OF BULK AT MOST 1048576: true; the input reads as it did. -/
def objectFusesUptoRow : OpenClaim := { program := "ytgnigkghkldcfaa", sum := "da6304c8a7e8d6d07dddf4b00642a06fce1c66a18b077dadf4daa97fe1f55ea8", func := "coldstore/coldstorelaw06.ObjectFuses", spec := "objectFuses", unfollowed := true, recurses := true, apart := false, narrowed := true }
def ObjectFusesUptoSaid : Prop := objectFusesUptoRow.holds Try.pinned (OpenSpec.upto objectFusesSpec)

/-- 'coldstorelaw07.ColdJobs', WHERE WHAT IT READS IS OF BULK AT MOST 1048576: true; the input reads as it did. -/
def coldJobsUptoRow : OpenClaim := { program := "ytgnigkghkldcfaa", sum := "da6304c8a7e8d6d07dddf4b00642a06fce1c66a18b077dadf4daa97fe1f55ea8", func := "coldstore/coldstorelaw07.ColdJobs", spec := "coldJobs", unfollowed := true, recurses := true, apart := false, narrowed := true }
def ColdJobsUptoSaid : Prop := coldJobsUptoRow.holds Try.pinned (OpenSpec.upto coldJobsSpec)

/-- 'coldstorelaw07.ColdYoungs', WHERE WHAT IT READS IS OF BULK AT MOST 1048576: true; the input reads as it did. -/
def coldYoungsUptoRow : OpenClaim := { program := "ytgnigkghkldcfaa", sum := "da6304c8a7e8d6d07dddf4b00642a06fce1c66a18b077dadf4daa97fe1f55ea8", func := "coldstore/coldstorelaw07.ColdYoungs", spec := "coldYoungs", unfollowed := true, recurses := true, apart := false, narrowed := true }
def ColdYoungsUptoSaid : Prop := coldYoungsUptoRow.holds Try.pinned (OpenSpec.upto coldYoungsSpec)

/-- 'coldstorelaw07.ColdAgain', WHERE WHAT IT READS IS OF BULK AT MOST 1048576: true; the input reads as it did. -/
def coldAgainUptoRow : OpenClaim := { program := "ytgnigkghkldcfaa", sum := "da6304c8a7e8d6d07dddf4b00642a06fce1c66a18b077dadf4daa97fe1f55ea8", func := "coldstore/coldstorelaw07.ColdAgain", spec := "coldAgain", unfollowed := true, recurses := true, apart := false, narrowed := true }
def ColdAgainUptoSaid : Prop := coldAgainUptoRow.holds Try.pinned (OpenSpec.upto coldAgainSpec)

/-- 'coldstorelaw19.RetainKeeps', WHERE WHAT IT READS IS OF BULK AT MOST 1048576: true; the input reads as it did. -/
def retainKeepsUptoRow : OpenClaim := { program := "ytgnigkghkldcfaa", sum := "da6304c8a7e8d6d07dddf4b00642a06fce1c66a18b077dadf4daa97fe1f55ea8", func := "coldstore/coldstorelaw19.RetainKeeps", spec := "retainKeeps", inPlace := ["internal/bytealg.Compare"], unfollowed := true, recurses := true, apart := false, narrowed := true }
def RetainKeepsUptoSaid : Prop := retainKeepsUptoRow.holds Try.pinned (OpenSpec.upto retainKeepsSpec)

/-- 'coldstorelaw19.RetainMore', WHERE WHAT IT READS IS OF BULK AT MOST 1048576: true; the input reads as it did. -/
def retainMoreUptoRow : OpenClaim := { program := "ytgnigkghkldcfaa", sum := "da6304c8a7e8d6d07dddf4b00642a06fce1c66a18b077dadf4daa97fe1f55ea8", func := "coldstore/coldstorelaw19.RetainMore", spec := "retainMore", inPlace := ["internal/bytealg.Compare"], unfollowed := true, recurses := true, apart := false, narrowed := true }
def RetainMoreUptoSaid : Prop := retainMoreUptoRow.holds Try.pinned (OpenSpec.upto retainMoreSpec)

/-- 'coldstorelaw19.RetainDays', WHERE WHAT IT READS IS OF BULK AT MOST 1048576: true; the input reads as it did. -/
def retainDaysUptoRow : OpenClaim := { program := "ytgnigkghkldcfaa", sum := "da6304c8a7e8d6d07dddf4b00642a06fce1c66a18b077dadf4daa97fe1f55ea8", func := "coldstore/coldstorelaw19.RetainDays", spec := "retainDays", inPlace := ["internal/bytealg.Compare"], unfollowed := true, recurses := true, apart := false, narrowed := true }
def RetainDaysUptoSaid : Prop := retainDaysUptoRow.holds Try.pinned (OpenSpec.upto retainDaysSpec)

/-- 'coldstorelaw19.RetainTags', WHERE WHAT IT READS IS OF BULK AT MOST 1048576: true; the input reads as it did. -/
def retainTagsUptoRow : OpenClaim := { program := "ytgnigkghkldcfaa", sum := "da6304c8a7e8d6d07dddf4b00642a06fce1c66a18b077dadf4daa97fe1f55ea8", func := "coldstore/coldstorelaw19.RetainTags", spec := "retainTags", inPlace := ["internal/bytealg.Compare"], unfollowed := true, recurses := true, apart := false, narrowed := true }
def RetainTagsUptoSaid : Prop := retainTagsUptoRow.holds Try.pinned (OpenSpec.upto retainTagsSpec)

/-- 'coldstorelaw19.RetainAll', WHERE WHAT IT READS IS OF BULK AT MOST 1048576: true; the input reads as it did. -/
def retainAllUptoRow : OpenClaim := { program := "ytgnigkghkldcfaa", sum := "da6304c8a7e8d6d07dddf4b00642a06fce1c66a18b077dadf4daa97fe1f55ea8", func := "coldstore/coldstorelaw19.RetainAll", spec := "retainAll", inPlace := ["internal/bytealg.Compare"], unfollowed := true, recurses := true, apart := false, narrowed := true }
def RetainAllUptoSaid : Prop := retainAllUptoRow.holds Try.pinned (OpenSpec.upto retainAllSpec)

end Rows
end Go.Proofs.Ytgnigkghkldcfaa
