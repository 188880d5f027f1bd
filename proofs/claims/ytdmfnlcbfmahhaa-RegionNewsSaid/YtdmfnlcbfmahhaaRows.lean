/-
  No cell of these rows narrows 'for every input' (looked for: loops, veiled, ifaces, maps, wideKeys, modest, calm, conditions, laid).
  DERIVED. THE GIVEN ROWS OF THIS SEAT. 17 by the template 'for every input the law returns true; each argument reads behind the call as it read before'; 0 by the template 'total and deterministic' (their statements: YtdmfnlcbfmahhaaTotals.lean).
  GIVEN WITH THE SEED: the statements are not yours to turn. If you find one false, say at which input.
  Laid BY PROGRAM, IN A SANDBOX (cutbox-rows.mjs): the forced cells as the released guide's own fill.sh prints them over the translation 6d83f9e59b945a84… (all of the seat's roots in one cut). By AI agents, Wed Nov 11 2026. No macro, syntax, notation, axiom, sorry.
-/
import Derived.Test.YtdmfnlcbfmahhaaChecked
import GoSem.Claim
import GoSem.ClaimJoined
import GoSem.ClaimMapViews
import Derived.JoinedTies
import Derived.KernelRfl
namespace Go.Proofs.Ytdmfnlcbfmahhaa
/- THE CELL 'sum', in the pinned program and in every row, IS THE sha256 OF THE DUMP (.gsa) THAT YtdmfnlcbfmahhaaProg.lean LOADS. Nothing in Lean hashes anything: it is a label: what it is worth is what the hold of that sum in a sandbox is worth. -/
noncomputable def Try.pinned : Pinned := { name := "ytdmfnlcbfmahhaa", sum := "6d83f9e59b945a8463a4e96c818eb73834f5a791306f48fe2fa97a389e700d7c", checked := Try.checked }
namespace Rows
def none {H : Type} : Left H := { results := [], args := [] }

/-- 'croftlaw5.BuddyExactly': WHATEVER THE INPUT: true; the input reads as it did. -/
def buddyExactlySpec : ChangeSpec := { name := "buddyExactly", fn := fun _ => fun
  | [d1, d2] => { results := [.lit (.bool true)], args := [d1, d2] }
  | _ => none }
def buddyExactlyRow : OpenClaim := { program := "ytdmfnlcbfmahhaa", sum := "6d83f9e59b945a8463a4e96c818eb73834f5a791306f48fe2fa97a389e700d7c", func := "croft/croftlaw5.BuddyExactly", spec := "buddyExactly", unfollowed := true, recurses := true, apart := false }
def BuddyExactlySaid : Prop := buddyExactlyRow.holds Try.pinned (OpenSpec.ofChange buddyExactlySpec)

/-- ITS FALSE NEIGHBOUR: 'it returns false'. Refute it at one input. -/
def buddyExactlyWrong : ChangeSpec := { name := "buddyExactly", fn := fun _ => fun
  | [d1, d2] => { results := [.lit (.bool false)], args := [d1, d2] }
  | _ => none }
def BuddyExactlyWrongFalsely : Prop := buddyExactlyRow.holds Try.pinned (OpenSpec.ofChange buddyExactlyWrong)

/-- 'croftlaw5.BuddyKeeps': WHATEVER THE INPUT: true; the input reads as it did. -/
def buddyKeepsSpec : ChangeSpec := { name := "buddyKeeps", fn := fun _ => fun
  | [d1, d2] => { results := [.lit (.bool true)], args := [d1, d2] }
  | _ => none }
def buddyKeepsRow : OpenClaim := { program := "ytdmfnlcbfmahhaa", sum := "6d83f9e59b945a8463a4e96c818eb73834f5a791306f48fe2fa97a389e700d7c", func := "croft/croftlaw5.BuddyKeeps", spec := "buddyKeeps", unfollowed := true, recurses := true, apart := false }
def BuddyKeepsSaid : Prop := buddyKeepsRow.holds Try.pinned (OpenSpec.ofChange buddyKeepsSpec)

/-- ITS FALSE NEIGHBOUR: 'it returns false'. Refute it at one input. -/
def buddyKeepsWrong : ChangeSpec := { name := "buddyKeeps", fn := fun _ => fun
  | [d1, d2] => { results := [.lit (.bool false)], args := [d1, d2] }
  | _ => none }
def BuddyKeepsWrongFalsely : Prop := buddyKeepsRow.holds Try.pinned (OpenSpec.ofChange buddyKeepsWrong)

/-- 'croftlaw6.RegionOpens': WHATEVER THE INPUT: true; the input reads as it did. -/
def regionOpensSpec : ChangeSpec := { name := "regionOpens", fn := fun _ => fun
  | [d1, d2, d3, d4, d5, d6] => { results := [.lit (.bool true)], args := [d1, d2, d3, d4, d5, d6] }
  | _ => none }
def regionOpensRow : OpenClaim := { program := "ytdmfnlcbfmahhaa", sum := "6d83f9e59b945a8463a4e96c818eb73834f5a791306f48fe2fa97a389e700d7c", func := "croft/croftlaw6.RegionOpens", spec := "regionOpens", unfollowed := true, recurses := true, apart := false }
def RegionOpensSaid : Prop := regionOpensRow.holds Try.pinned (OpenSpec.ofChange regionOpensSpec)

/-- ITS FALSE NEIGHBOUR: 'it returns false'. Refute it at one input. -/
def regionOpensWrong : ChangeSpec := { name := "regionOpens", fn := fun _ => fun
  | [d1, d2, d3, d4, d5, d6] => { results := [.lit (.bool false)], args := [d1, d2, d3, d4, d5, d6] }
  | _ => none }
def RegionOpensWrongFalsely : Prop := regionOpensRow.holds Try.pinned (OpenSpec.ofChange regionOpensWrong)

/-- 'croftlaw6.RegionSame': WHATEVER THE INPUT: true; the input reads as it did. -/
def regionSameSpec : ChangeSpec := { name := "regionSame", fn := fun _ => fun
  | [d] => { results := [.lit (.bool true)], args := [d] }
  | _ => none }
def regionSameRow : OpenClaim := { program := "ytdmfnlcbfmahhaa", sum := "6d83f9e59b945a8463a4e96c818eb73834f5a791306f48fe2fa97a389e700d7c", func := "croft/croftlaw6.RegionSame", spec := "regionSame", unfollowed := true, recurses := true, apart := false }
def RegionSameSaid : Prop := regionSameRow.holds Try.pinned (OpenSpec.ofChange regionSameSpec)

/-- ITS FALSE NEIGHBOUR: 'it returns false'. Refute it at one input. -/
def regionSameWrong : ChangeSpec := { name := "regionSame", fn := fun _ => fun
  | [d] => { results := [.lit (.bool false)], args := [d] }
  | _ => none }
def RegionSameWrongFalsely : Prop := regionSameRow.holds Try.pinned (OpenSpec.ofChange regionSameWrong)

/-- 'croftlaw5.BuddyKnown': WHATEVER THE INPUT: true; the input reads as it did. -/
def buddyKnownSpec : ChangeSpec := { name := "buddyKnown", fn := fun _ => fun
  | [] => { results := [.lit (.bool true)], args := [] }
  | _ => none }
def buddyKnownRow : OpenClaim := { program := "ytdmfnlcbfmahhaa", sum := "6d83f9e59b945a8463a4e96c818eb73834f5a791306f48fe2fa97a389e700d7c", func := "croft/croftlaw5.BuddyKnown", spec := "buddyKnown", unfollowed := true, recurses := true, apart := false }
def BuddyKnownSaid : Prop := buddyKnownRow.holds Try.pinned (OpenSpec.ofChange buddyKnownSpec)

/-- ITS FALSE NEIGHBOUR: 'it returns false'. Refute it at one input. -/
def buddyKnownWrong : ChangeSpec := { name := "buddyKnown", fn := fun _ => fun
  | [] => { results := [.lit (.bool false)], args := [] }
  | _ => none }
def BuddyKnownWrongFalsely : Prop := buddyKnownRow.holds Try.pinned (OpenSpec.ofChange buddyKnownWrong)

/-- 'croftlaw5.BuddyEnds': WHATEVER THE INPUT: true; the input reads as it did. -/
def buddyEndsSpec : ChangeSpec := { name := "buddyEnds", fn := fun _ => fun
  | [d1, d2] => { results := [.lit (.bool true)], args := [d1, d2] }
  | _ => none }
def buddyEndsRow : OpenClaim := { program := "ytdmfnlcbfmahhaa", sum := "6d83f9e59b945a8463a4e96c818eb73834f5a791306f48fe2fa97a389e700d7c", func := "croft/croftlaw5.BuddyEnds", spec := "buddyEnds", unfollowed := true, recurses := true, apart := false }
def BuddyEndsSaid : Prop := buddyEndsRow.holds Try.pinned (OpenSpec.ofChange buddyEndsSpec)

/-- ITS FALSE NEIGHBOUR: 'it returns false'. Refute it at one input. -/
def buddyEndsWrong : ChangeSpec := { name := "buddyEnds", fn := fun _ => fun
  | [d1, d2] => { results := [.lit (.bool false)], args := [d1, d2] }
  | _ => none }
def BuddyEndsWrongFalsely : Prop := buddyEndsRow.holds Try.pinned (OpenSpec.ofChange buddyEndsWrong)

/-- 'croftlaw5.BuddyTiles': WHATEVER THE INPUT: true; the input reads as it did. -/
def buddyTilesSpec : ChangeSpec := { name := "buddyTiles", fn := fun _ => fun
  | [d1, d2] => { results := [.lit (.bool true)], args := [d1, d2] }
  | _ => none }
def buddyTilesRow : OpenClaim := { program := "ytdmfnlcbfmahhaa", sum := "6d83f9e59b945a8463a4e96c818eb73834f5a791306f48fe2fa97a389e700d7c", func := "croft/croftlaw5.BuddyTiles", spec := "buddyTiles", unfollowed := true, recurses := true, apart := false }
def BuddyTilesSaid : Prop := buddyTilesRow.holds Try.pinned (OpenSpec.ofChange buddyTilesSpec)

/-- ITS FALSE NEIGHBOUR: 'it returns false'. Refute it at one input. -/
def buddyTilesWrong : ChangeSpec := { name := "buddyTiles", fn := fun _ => fun
  | [d1, d2] => { results := [.lit (.bool false)], args := [d1, d2] }
  | _ => none }
def BuddyTilesWrongFalsely : Prop := buddyTilesRow.holds Try.pinned (OpenSpec.ofChange buddyTilesWrong)

/-- 'croftlaw5.BuddyAhead': WHATEVER THE INPUT: true; the input reads as it did. -/
def buddyAheadSpec : ChangeSpec := { name := "buddyAhead", fn := fun _ => fun
  | [d1, d2, d3] => { results := [.lit (.bool true)], args := [d1, d2, d3] }
  | _ => none }
def buddyAheadRow : OpenClaim := { program := "ytdmfnlcbfmahhaa", sum := "6d83f9e59b945a8463a4e96c818eb73834f5a791306f48fe2fa97a389e700d7c", func := "croft/croftlaw5.BuddyAhead", spec := "buddyAhead", unfollowed := true, recurses := true, apart := false }
def BuddyAheadSaid : Prop := buddyAheadRow.holds Try.pinned (OpenSpec.ofChange buddyAheadSpec)

/-- ITS FALSE NEIGHBOUR: 'it returns false'. Refute it at one input. -/
def buddyAheadWrong : ChangeSpec := { name := "buddyAhead", fn := fun _ => fun
  | [d1, d2, d3] => { results := [.lit (.bool false)], args := [d1, d2, d3] }
  | _ => none }
def BuddyAheadWrongFalsely : Prop := buddyAheadRow.holds Try.pinned (OpenSpec.ofChange buddyAheadWrong)

/-- 'croftlaw5.BuddyTurns': WHATEVER THE INPUT: true; the input reads as it did. -/
def buddyTurnsSpec : ChangeSpec := { name := "buddyTurns", fn := fun _ => fun
  | [d1, d2, d3, d4] => { results := [.lit (.bool true)], args := [d1, d2, d3, d4] }
  | _ => none }
def buddyTurnsRow : OpenClaim := { program := "ytdmfnlcbfmahhaa", sum := "6d83f9e59b945a8463a4e96c818eb73834f5a791306f48fe2fa97a389e700d7c", func := "croft/croftlaw5.BuddyTurns", spec := "buddyTurns", unfollowed := true, recurses := true, apart := false }
def BuddyTurnsSaid : Prop := buddyTurnsRow.holds Try.pinned (OpenSpec.ofChange buddyTurnsSpec)

/-- ITS FALSE NEIGHBOUR: 'it returns false'. Refute it at one input. -/
def buddyTurnsWrong : ChangeSpec := { name := "buddyTurns", fn := fun _ => fun
  | [d1, d2, d3, d4] => { results := [.lit (.bool false)], args := [d1, d2, d3, d4] }
  | _ => none }
def BuddyTurnsWrongFalsely : Prop := buddyTurnsRow.holds Try.pinned (OpenSpec.ofChange buddyTurnsWrong)

/-- 'croftlaw6.RegionNews': WHATEVER THE INPUT: true; the input reads as it did. -/
def regionNewsSpec : ChangeSpec := { name := "regionNews", fn := fun _ => fun
  | [d] => { results := [.lit (.bool true)], args := [d] }
  | _ => none }
def regionNewsRow : OpenClaim := { program := "ytdmfnlcbfmahhaa", sum := "6d83f9e59b945a8463a4e96c818eb73834f5a791306f48fe2fa97a389e700d7c", func := "croft/croftlaw6.RegionNews", spec := "regionNews", unfollowed := true, recurses := true, apart := false }
def RegionNewsSaid : Prop := regionNewsRow.holds Try.pinned (OpenSpec.ofChange regionNewsSpec)

/-- ITS FALSE NEIGHBOUR: 'it returns false'. Refute it at one input. -/
def regionNewsWrong : ChangeSpec := { name := "regionNews", fn := fun _ => fun
  | [d] => { results := [.lit (.bool false)], args := [d] }
  | _ => none }
def RegionNewsWrongFalsely : Prop := regionNewsRow.holds Try.pinned (OpenSpec.ofChange regionNewsWrong)

/-- 'croftlaw6.RegionExact': WHATEVER THE INPUT: true; the input reads as it did. -/
def regionExactSpec : ChangeSpec := { name := "regionExact", fn := fun _ => fun
  | [d1, d2, d3] => { results := [.lit (.bool true)], args := [d1, d2, d3] }
  | _ => none }
def regionExactRow : OpenClaim := { program := "ytdmfnlcbfmahhaa", sum := "6d83f9e59b945a8463a4e96c818eb73834f5a791306f48fe2fa97a389e700d7c", func := "croft/croftlaw6.RegionExact", spec := "regionExact", unfollowed := true, recurses := true, apart := false }
def RegionExactSaid : Prop := regionExactRow.holds Try.pinned (OpenSpec.ofChange regionExactSpec)

/-- ITS FALSE NEIGHBOUR: 'it returns false'. Refute it at one input. -/
def regionExactWrong : ChangeSpec := { name := "regionExact", fn := fun _ => fun
  | [d1, d2, d3] => { results := [.lit (.bool false)], args := [d1, d2, d3] }
  | _ => none }
def RegionExactWrongFalsely : Prop := regionExactRow.holds Try.pinned (OpenSpec.ofChange regionExactWrong)

/-- 'croftlaw6.RegionKnown': WHATEVER THE INPUT: true; the input reads as it did. -/
def regionKnownSpec : ChangeSpec := { name := "regionKnown", fn := fun _ => fun
  | [] => { results := [.lit (.bool true)], args := [] }
  | _ => none }
def regionKnownRow : OpenClaim := { program := "ytdmfnlcbfmahhaa", sum := "6d83f9e59b945a8463a4e96c818eb73834f5a791306f48fe2fa97a389e700d7c", func := "croft/croftlaw6.RegionKnown", spec := "regionKnown", unfollowed := true, recurses := true, apart := false }
def RegionKnownSaid : Prop := regionKnownRow.holds Try.pinned (OpenSpec.ofChange regionKnownSpec)

/-- ITS FALSE NEIGHBOUR: 'it returns false'. Refute it at one input. -/
def regionKnownWrong : ChangeSpec := { name := "regionKnown", fn := fun _ => fun
  | [] => { results := [.lit (.bool false)], args := [] }
  | _ => none }
def RegionKnownWrongFalsely : Prop := regionKnownRow.holds Try.pinned (OpenSpec.ofChange regionKnownWrong)

/-- 'croftlaw6.RegionRefused': WHATEVER THE INPUT: true; the input reads as it did. -/
def regionRefusedSpec : ChangeSpec := { name := "regionRefused", fn := fun _ => fun
  | [d1, d2] => { results := [.lit (.bool true)], args := [d1, d2] }
  | _ => none }
def regionRefusedRow : OpenClaim := { program := "ytdmfnlcbfmahhaa", sum := "6d83f9e59b945a8463a4e96c818eb73834f5a791306f48fe2fa97a389e700d7c", func := "croft/croftlaw6.RegionRefused", spec := "regionRefused", unfollowed := true, recurses := true, apart := false }
def RegionRefusedSaid : Prop := regionRefusedRow.holds Try.pinned (OpenSpec.ofChange regionRefusedSpec)

/-- ITS FALSE NEIGHBOUR: 'it returns false'. Refute it at one input. -/
def regionRefusedWrong : ChangeSpec := { name := "regionRefused", fn := fun _ => fun
  | [d1, d2] => { results := [.lit (.bool false)], args := [d1, d2] }
  | _ => none }
def RegionRefusedWrongFalsely : Prop := regionRefusedRow.holds Try.pinned (OpenSpec.ofChange regionRefusedWrong)

/-- 'croftlaw6.RegionPlays': WHATEVER THE INPUT: true; the input reads as it did. -/
def regionPlaysSpec : ChangeSpec := { name := "regionPlays", fn := fun _ => fun
  | [d1, d2] => { results := [.lit (.bool true)], args := [d1, d2] }
  | _ => none }
def regionPlaysRow : OpenClaim := { program := "ytdmfnlcbfmahhaa", sum := "6d83f9e59b945a8463a4e96c818eb73834f5a791306f48fe2fa97a389e700d7c", func := "croft/croftlaw6.RegionPlays", spec := "regionPlays", unfollowed := true, recurses := true, apart := false }
def RegionPlaysSaid : Prop := regionPlaysRow.holds Try.pinned (OpenSpec.ofChange regionPlaysSpec)

/-- ITS FALSE NEIGHBOUR: 'it returns false'. Refute it at one input. -/
def regionPlaysWrong : ChangeSpec := { name := "regionPlays", fn := fun _ => fun
  | [d1, d2] => { results := [.lit (.bool false)], args := [d1, d2] }
  | _ => none }
def RegionPlaysWrongFalsely : Prop := regionPlaysRow.holds Try.pinned (OpenSpec.ofChange regionPlaysWrong)

/-- 'croftlaw6.RegionGone': WHATEVER THE INPUT: true; the input reads as it did. -/
def regionGoneSpec : ChangeSpec := { name := "regionGone", fn := fun _ => fun
  | [d1, d2, d3, d4] => { results := [.lit (.bool true)], args := [d1, d2, d3, d4] }
  | _ => none }
def regionGoneRow : OpenClaim := { program := "ytdmfnlcbfmahhaa", sum := "6d83f9e59b945a8463a4e96c818eb73834f5a791306f48fe2fa97a389e700d7c", func := "croft/croftlaw6.RegionGone", spec := "regionGone", unfollowed := true, recurses := true, apart := false }
def RegionGoneSaid : Prop := regionGoneRow.holds Try.pinned (OpenSpec.ofChange regionGoneSpec)

/-- ITS FALSE NEIGHBOUR: 'it returns false'. Refute it at one input. -/
def regionGoneWrong : ChangeSpec := { name := "regionGone", fn := fun _ => fun
  | [d1, d2, d3, d4] => { results := [.lit (.bool false)], args := [d1, d2, d3, d4] }
  | _ => none }
def RegionGoneWrongFalsely : Prop := regionGoneRow.holds Try.pinned (OpenSpec.ofChange regionGoneWrong)

/-- 'croftlaw6.RegionApart': WHATEVER THE INPUT: true; the input reads as it did. -/
def regionApartSpec : ChangeSpec := { name := "regionApart", fn := fun _ => fun
  | [d1, d2, d3] => { results := [.lit (.bool true)], args := [d1, d2, d3] }
  | _ => none }
def regionApartRow : OpenClaim := { program := "ytdmfnlcbfmahhaa", sum := "6d83f9e59b945a8463a4e96c818eb73834f5a791306f48fe2fa97a389e700d7c", func := "croft/croftlaw6.RegionApart", spec := "regionApart", unfollowed := true, recurses := true, apart := false }
def RegionApartSaid : Prop := regionApartRow.holds Try.pinned (OpenSpec.ofChange regionApartSpec)

/-- ITS FALSE NEIGHBOUR: 'it returns false'. Refute it at one input. -/
def regionApartWrong : ChangeSpec := { name := "regionApart", fn := fun _ => fun
  | [d1, d2, d3] => { results := [.lit (.bool false)], args := [d1, d2, d3] }
  | _ => none }
def RegionApartWrongFalsely : Prop := regionApartRow.holds Try.pinned (OpenSpec.ofChange regionApartWrong)

/-- 'croftlaw6.RegionBack': WHATEVER THE INPUT: true; the input reads as it did. -/
def regionBackSpec : ChangeSpec := { name := "regionBack", fn := fun _ => fun
  | [d1, d2, d3] => { results := [.lit (.bool true)], args := [d1, d2, d3] }
  | _ => none }
def regionBackRow : OpenClaim := { program := "ytdmfnlcbfmahhaa", sum := "6d83f9e59b945a8463a4e96c818eb73834f5a791306f48fe2fa97a389e700d7c", func := "croft/croftlaw6.RegionBack", spec := "regionBack", unfollowed := true, recurses := true, apart := false }
def RegionBackSaid : Prop := regionBackRow.holds Try.pinned (OpenSpec.ofChange regionBackSpec)

/-- ITS FALSE NEIGHBOUR: 'it returns false'. Refute it at one input. -/
def regionBackWrong : ChangeSpec := { name := "regionBack", fn := fun _ => fun
  | [d1, d2, d3] => { results := [.lit (.bool false)], args := [d1, d2, d3] }
  | _ => none }
def RegionBackWrongFalsely : Prop := regionBackRow.holds Try.pinned (OpenSpec.ofChange regionBackWrong)

/- THE SECOND FORM. 'bulk': how many values and letters a reading holds, each counted each time it is reached (what is shared counts as often as it is met; a slice's spare places count too). A statement '..UptoSaid' is the law's where the arguments, and the package variables that the reading takes, are together of bulk at most 1048576: NARROWER than '..Said'. Prove '..Said' where nothing that the law and all that it calls make is longer than what came in: it says more and counts as full. Else prove '..UptoSaid'. A law counts once. -/
mutual
def uptoBulk {H : Type} : DataW H → Nat
  | .lit (.string bytes) => bytes.length + 1
  | .lit _ => 1
  | .nil => 1
  | .ptr d => uptoBulk d + 1
  | .slice elems spare => uptoBulkAll elems + uptoBulkAll spare + 1
  | .agg parts => uptoBulkAll parts + 1
  | .iface _ d => uptoBulk d + 1
  | .map entries => uptoBulkEntries entries + 1
  | .held _ => 1
def uptoBulkAll {H : Type} : List (DataW H) → Nat
  | [] => 0
  | d :: r => uptoBulk d + uptoBulkAll r
def uptoBulkEntries {H : Type} : List (Lit × DataW H) → Nat
  | [] => 0
  | x :: r => uptoBulkEntry x + uptoBulkEntries r
def uptoBulkEntry {H : Type} : Lit × DataW H → Nat
  | (.string bytes, d) => bytes.length + uptoBulk d + 1
  | (_, d) => uptoBulk d + 1
 end
def uptoSmall : (H : Type) → List (DataW H) → Bool := fun _ ds => decide (uptoBulkAll ds ≤ 1048576)
def OpenSpec.upto (s : _root_.Go.ChangeSpec) : _root_.Go.OpenSpec := { _root_.Go.OpenSpec.ofChange s with cond := some uptoSmall }

/-- 'croftlaw5.BuddyExactly', WHERE WHAT IT READS IS OF BULK AT MOST 1048576: true; the input reads as it did. -/
def buddyExactlyUptoRow : OpenClaim := { program := "ytdmfnlcbfmahhaa", sum := "6d83f9e59b945a8463a4e96c818eb73834f5a791306f48fe2fa97a389e700d7c", func := "croft/croftlaw5.BuddyExactly", spec := "buddyExactly", unfollowed := true, recurses := true, apart := false, narrowed := true }
def BuddyExactlyUptoSaid : Prop := buddyExactlyUptoRow.holds Try.pinned (OpenSpec.upto buddyExactlySpec)

/-- 'croftlaw5.BuddyKeeps', WHERE WHAT IT READS IS OF BULK AT MOST 1048576: true; the input reads as it did. -/
def buddyKeepsUptoRow : OpenClaim := { program := "ytdmfnlcbfmahhaa", sum := "6d83f9e59b945a8463a4e96c818eb73834f5a791306f48fe2fa97a389e700d7c", func := "croft/croftlaw5.BuddyKeeps", spec := "buddyKeeps", unfollowed := true, recurses := true, apart := false, narrowed := true }
def BuddyKeepsUptoSaid : Prop := buddyKeepsUptoRow.holds Try.pinned (OpenSpec.upto buddyKeepsSpec)

/-- 'croftlaw6.RegionOpens', WHERE WHAT IT READS IS OF BULK AT MOST 1048576: true; the input reads as it did. -/
def regionOpensUptoRow : OpenClaim := { program := "ytdmfnlcbfmahhaa", sum := "6d83f9e59b945a8463a4e96c818eb73834f5a791306f48fe2fa97a389e700d7c", func := "croft/croftlaw6.RegionOpens", spec := "regionOpens", unfollowed := true, recurses := true, apart := false, narrowed := true }
def RegionOpensUptoSaid : Prop := regionOpensUptoRow.holds Try.pinned (OpenSpec.upto regionOpensSpec)

/-- 'croftlaw6.RegionSame', WHERE WHAT IT READS IS OF BULK AT MOST 1048576: true; the input reads as it did. -/
def regionSameUptoRow : OpenClaim := { program := "ytdmfnlcbfmahhaa", sum := "6d83f9e59b945a8463a4e96c818eb73834f5a791306f48fe2fa97a389e700d7c", func := "croft/croftlaw6.RegionSame", spec := "regionSame", unfollowed := true, recurses := true, apart := false, narrowed := true }
def RegionSameUptoSaid : Prop := regionSameUptoRow.holds Try.pinned (OpenSpec.upto regionSameSpec)

/-- 'croftlaw5.BuddyKnown', WHERE WHAT IT READS IS OF BULK AT MOST 1048576: true; the input reads as it did. -/
def buddyKnownUptoRow : OpenClaim := { program := "ytdmfnlcbfmahhaa", sum := "6d83f9e59b945a8463a4e96c818eb73834f5a791306f48fe2fa97a389e700d7c", func := "croft/croftlaw5.BuddyKnown", spec := "buddyKnown", unfollowed := true, recurses := true, apart := false, narrowed := true }
def BuddyKnownUptoSaid : Prop := buddyKnownUptoRow.holds Try.pinned (OpenSpec.upto buddyKnownSpec)

/-- 'croftlaw5.BuddyEnds', WHERE WHAT IT READS IS OF BULK AT MOST 1048576: true; the input reads as it did. -/
def buddyEndsUptoRow : OpenClaim := { program := "ytdmfnlcbfmahhaa", sum := "6d83f9e59b945a8463a4e96c818eb73834f5a791306f48fe2fa97a389e700d7c", func := "croft/croftlaw5.BuddyEnds", spec := "buddyEnds", unfollowed := true, recurses := true, apart := false, narrowed := true }
def BuddyEndsUptoSaid : Prop := buddyEndsUptoRow.holds Try.pinned (OpenSpec.upto buddyEndsSpec)

/-- 'croftlaw5.BuddyTiles', WHERE WHAT IT READS IS OF BULK AT MOST 1048576: true; the input reads as it did. -/
def buddyTilesUptoRow : OpenClaim := { program := "ytdmfnlcbfmahhaa", sum := "6d83f9e59b945a8463a4e96c818eb73834f5a791306f48fe2fa97a389e700d7c", func := "croft/croftlaw5.BuddyTiles", spec := "buddyTiles", unfollowed := true, recurses := true, apart := false, narrowed := true }
def BuddyTilesUptoSaid : Prop := buddyTilesUptoRow.holds Try.pinned (OpenSpec.upto buddyTilesSpec)

/-- 'croftlaw5.BuddyAhead', WHERE WHAT IT READS IS OF BULK AT MOST 1048576: true; the input reads as it did. -/
def buddyAheadUptoRow : OpenClaim := { program := "ytdmfnlcbfmahhaa", sum := "6d83f9e59b945a8463a4e96c818eb73834f5a791306f48fe2fa97a389e700d7c", func := "croft/croftlaw5.BuddyAhead", spec := "buddyAhead", unfollowed := true, recurses := true, apart := false, narrowed := true }
def BuddyAheadUptoSaid : Prop := buddyAheadUptoRow.holds Try.pinned (OpenSpec.upto buddyAheadSpec)

/-- 'croftlaw5.BuddyTurns', WHERE WHAT IT READS IS OF BULK AT MOST 1048576: true; the input reads as it did. -/
def buddyTurnsUptoRow : OpenClaim := { program := "ytdmfnlcbfmahhaa", sum := "6d83f9e59b945a8463a4e96c818eb73834f5a791306f48fe2fa97a389e700d7c", func := "croft/croftlaw5.BuddyTurns", spec := "buddyTurns", unfollowed := true, recurses := true, apart := false, narrowed := true }
def BuddyTurnsUptoSaid : Prop := buddyTurnsUptoRow.holds Try.pinned (OpenSpec.upto buddyTurnsSpec)

/-- 'croftlaw6.RegionNews', WHERE WHAT IT READS IS OF BULK AT MOST 1048576: true; the input reads as it did. -/
def regionNewsUptoRow : OpenClaim := { program := "ytdmfnlcbfmahhaa", sum := "6d83f9e59b945a8463a4e96c818eb73834f5a791306f48fe2fa97a389e700d7c", func := "croft/croftlaw6.RegionNews", spec := "regionNews", unfollowed := true, recurses := true, apart := false, narrowed := true }
def RegionNewsUptoSaid : Prop := regionNewsUptoRow.holds Try.pinned (OpenSpec.upto regionNewsSpec)

/-- 'croftlaw6.RegionExact', WHERE WHAT IT READS IS OF BULK AT MOST 1048576: true; the input reads as it did. -/
def regionExactUptoRow : OpenClaim := { program := "ytdmfnlcbfmahhaa", sum := "6d83f9e59b945a8463a4e96c818eb73834f5a791306f48fe2fa97a389e700d7c", func := "croft/croftlaw6.RegionExact", spec := "regionExact", unfollowed := true, recurses := true, apart := false, narrowed := true }
def RegionExactUptoSaid : Prop := regionExactUptoRow.holds Try.pinned (OpenSpec.upto regionExactSpec)

/-- 'croftlaw6.RegionKnown', WHERE WHAT IT READS IS OF BULK AT MOST 1048576: true; the input reads as it did. -/
def regionKnownUptoRow : OpenClaim := { program := "ytdmfnlcbfmahhaa", sum := "6d83f9e59b945a8463a4e96c818eb73834f5a791306f48fe2fa97a389e700d7c", func := "croft/croftlaw6.RegionKnown", spec := "regionKnown", unfollowed := true, recurses := true, apart := false, narrowed := true }
def RegionKnownUptoSaid : Prop := regionKnownUptoRow.holds Try.pinned (OpenSpec.upto regionKnownSpec)

/-- 'croftlaw6.RegionRefused', WHERE WHAT IT READS IS OF BULK AT MOST 1048576: true; the input reads as it did. -/
def regionRefusedUptoRow : OpenClaim := { program := "ytdmfnlcbfmahhaa", sum := "6d83f9e59b945a8463a4e96c818eb73834f5a791306f48fe2fa97a389e700d7c", func := "croft/croftlaw6.RegionRefused", spec := "regionRefused", unfollowed := true, recurses := true, apart := false, narrowed := true }
def RegionRefusedUptoSaid : Prop := regionRefusedUptoRow.holds Try.pinned (OpenSpec.upto regionRefusedSpec)

/-- 'croftlaw6.RegionPlays', WHERE WHAT IT READS IS OF BULK AT MOST 1048576: true; the input reads as it did. -/
def regionPlaysUptoRow : OpenClaim := { program := "ytdmfnlcbfmahhaa", sum := "6d83f9e59b945a8463a4e96c818eb73834f5a791306f48fe2fa97a389e700d7c", func := "croft/croftlaw6.RegionPlays", spec := "regionPlays", unfollowed := true, recurses := true, apart := false, narrowed := true }
def RegionPlaysUptoSaid : Prop := regionPlaysUptoRow.holds Try.pinned (OpenSpec.upto regionPlaysSpec)

/-- 'croftlaw6.RegionGone', WHERE WHAT IT READS IS OF BULK AT MOST 1048576: true; the input reads as it did. -/
def regionGoneUptoRow : OpenClaim := { program := "ytdmfnlcbfmahhaa", sum := "6d83f9e59b945a8463a4e96c818eb73834f5a791306f48fe2fa97a389e700d7c", func := "croft/croftlaw6.RegionGone", spec := "regionGone", unfollowed := true, recurses := true, apart := false, narrowed := true }
def RegionGoneUptoSaid : Prop := regionGoneUptoRow.holds Try.pinned (OpenSpec.upto regionGoneSpec)

/-- 'croftlaw6.RegionApart', WHERE WHAT IT READS IS OF BULK AT MOST 1048576: true; the input reads as it did. -/
def regionApartUptoRow : OpenClaim := { program := "ytdmfnlcbfmahhaa", sum := "6d83f9e59b945a8463a4e96c818eb73834f5a791306f48fe2fa97a389e700d7c", func := "croft/croftlaw6.RegionApart", spec := "regionApart", unfollowed := true, recurses := true, apart := false, narrowed := true }
def RegionApartUptoSaid : Prop := regionApartUptoRow.holds Try.pinned (OpenSpec.upto regionApartSpec)

/-- 'croftlaw6.RegionBack', WHERE WHAT IT READS IS OF BULK AT MOST 1048576: true; the input reads as it did. -/
def regionBackUptoRow : OpenClaim := { program := "ytdmfnlcbfmahhaa", sum := "6d83f9e59b945a8463a4e96c818eb73834f5a791306f48fe2fa97a389e700d7c", func := "croft/croftlaw6.RegionBack", spec := "regionBack", unfollowed := true, recurses := true, apart := false, narrowed := true }
def RegionBackUptoSaid : Prop := regionBackUptoRow.holds Try.pinned (OpenSpec.upto regionBackSpec)

end Rows
end Go.Proofs.Ytdmfnlcbfmahhaa
