/-
  No cell of these rows narrows 'for every input' (looked for: loops, veiled, ifaces, maps, wideKeys, modest, calm, conditions, laid).
  DERIVED. THE GIVEN ROWS OF THIS SEAT. 16 by the template 'for every input the law returns true; each argument reads behind the call as it read before'; 0 by the template 'total and deterministic' (their statements: YtpkgpldgoajphaaTotals.lean).
  GIVEN WITH THE SEED: the statements are not yours to turn. If you find one false, say at which input.
  Laid BY PROGRAM, IN A SANDBOX (cutbox-rows.mjs): the forced cells as the released guide's own fill.sh prints them over the translation 1ec140fc904552dc… (all of the seat's roots in one cut). By AI agents, Wed Nov 11 2026. No macro, syntax, notation, axiom, sorry.
-/
import Derived.Test.YtpkgpldgoajphaaChecked
import GoSem.Claim
import GoSem.ClaimJoined
import GoSem.ClaimMapViews
import Derived.JoinedTies
import Derived.KernelRfl
namespace Go.Proofs.Ytpkgpldgoajphaa
/- THE CELL 'sum', in the pinned program and in every row, IS THE sha256 OF THE DUMP (.gsa) THAT YtpkgpldgoajphaaProg.lean LOADS. Nothing in Lean hashes anything: it is a label: what it is worth is what the hold of that sum in a sandbox is worth. -/
noncomputable def Try.pinned : Pinned := { name := "ytpkgpldgoajphaa", sum := "1ec140fc904552dc45960269a8c94a276b2c8ffc6454b4d17b579664b07bd637", checked := Try.checked }
namespace Rows
def none {H : Type} : Left H := { results := [], args := [] }

/-- 'frankpledgelaw10.ShelfCounts': WHATEVER THE INPUT: true; the input reads as it did. -/
def shelfCountsSpec : ChangeSpec := { name := "shelfCounts", fn := fun _ => fun
  | [d] => { results := [.lit (.bool true)], args := [d] }
  | _ => none }
def shelfCountsRow : OpenClaim := { program := "ytpkgpldgoajphaa", sum := "1ec140fc904552dc45960269a8c94a276b2c8ffc6454b4d17b579664b07bd637", func := "frankpledge/frankpledgelaw10.ShelfCounts", spec := "shelfCounts", inPlace := ["slices.overlaps[frankpledge/lease.Entry]"], plainKeys := false, apart := false }
def ShelfCountsSaid : Prop := shelfCountsRow.holds Try.pinned (OpenSpec.ofChange shelfCountsSpec)

/-- ITS FALSE NEIGHBOUR: 'it returns false'. Refute it at one input. -/
def shelfCountsWrong : ChangeSpec := { name := "shelfCounts", fn := fun _ => fun
  | [d] => { results := [.lit (.bool false)], args := [d] }
  | _ => none }
def ShelfCountsWrongFalsely : Prop := shelfCountsRow.holds Try.pinned (OpenSpec.ofChange shelfCountsWrong)

/-- 'frankpledgelaw10.ShelfOrder': WHATEVER THE INPUT: true; the input reads as it did. -/
def shelfOrderSpec : ChangeSpec := { name := "shelfOrder", fn := fun _ => fun
  | [d] => { results := [.lit (.bool true)], args := [d] }
  | _ => none }
def shelfOrderRow : OpenClaim := { program := "ytpkgpldgoajphaa", sum := "1ec140fc904552dc45960269a8c94a276b2c8ffc6454b4d17b579664b07bd637", func := "frankpledge/frankpledgelaw10.ShelfOrder", spec := "shelfOrder", inPlace := ["slices.overlaps[frankpledge/lease.Entry]"], plainKeys := false, apart := false }
def ShelfOrderSaid : Prop := shelfOrderRow.holds Try.pinned (OpenSpec.ofChange shelfOrderSpec)

/-- ITS FALSE NEIGHBOUR: 'it returns false'. Refute it at one input. -/
def shelfOrderWrong : ChangeSpec := { name := "shelfOrder", fn := fun _ => fun
  | [d] => { results := [.lit (.bool false)], args := [d] }
  | _ => none }
def ShelfOrderWrongFalsely : Prop := shelfOrderRow.holds Try.pinned (OpenSpec.ofChange shelfOrderWrong)

/-- 'frankpledgelaw10.ShelfNumbers': WHATEVER THE INPUT: true; the input reads as it did. -/
def shelfNumbersSpec : ChangeSpec := { name := "shelfNumbers", fn := fun _ => fun
  | [] => { results := [.lit (.bool true)], args := [] }
  | _ => none }
def shelfNumbersRow : OpenClaim := { program := "ytpkgpldgoajphaa", sum := "1ec140fc904552dc45960269a8c94a276b2c8ffc6454b4d17b579664b07bd637", func := "frankpledge/frankpledgelaw10.ShelfNumbers", spec := "shelfNumbers", inPlace := ["slices.overlaps[frankpledge/lease.Entry]"], plainKeys := false, apart := false }
def ShelfNumbersSaid : Prop := shelfNumbersRow.holds Try.pinned (OpenSpec.ofChange shelfNumbersSpec)

/-- ITS FALSE NEIGHBOUR: 'it returns false'. Refute it at one input. -/
def shelfNumbersWrong : ChangeSpec := { name := "shelfNumbers", fn := fun _ => fun
  | [] => { results := [.lit (.bool false)], args := [] }
  | _ => none }
def ShelfNumbersWrongFalsely : Prop := shelfNumbersRow.holds Try.pinned (OpenSpec.ofChange shelfNumbersWrong)

/-- 'frankpledgelaw10.ShelfPlays': WHATEVER THE INPUT: true; the input reads as it did. -/
def shelfPlaysSpec : ChangeSpec := { name := "shelfPlays", fn := fun _ => fun
  | [d1, d2, d3] => { results := [.lit (.bool true)], args := [d1, d2, d3] }
  | _ => none }
def shelfPlaysRow : OpenClaim := { program := "ytpkgpldgoajphaa", sum := "1ec140fc904552dc45960269a8c94a276b2c8ffc6454b4d17b579664b07bd637", func := "frankpledge/frankpledgelaw10.ShelfPlays", spec := "shelfPlays", inPlace := ["slices.overlaps[frankpledge/lease.Entry]"], plainKeys := false, apart := false }
def ShelfPlaysSaid : Prop := shelfPlaysRow.holds Try.pinned (OpenSpec.ofChange shelfPlaysSpec)

/-- ITS FALSE NEIGHBOUR: 'it returns false'. Refute it at one input. -/
def shelfPlaysWrong : ChangeSpec := { name := "shelfPlays", fn := fun _ => fun
  | [d1, d2, d3] => { results := [.lit (.bool false)], args := [d1, d2, d3] }
  | _ => none }
def ShelfPlaysWrongFalsely : Prop := shelfPlaysRow.holds Try.pinned (OpenSpec.ofChange shelfPlaysWrong)

/-- 'frankpledgelaw12.SweepNumbers': WHATEVER THE INPUT: true; the input reads as it did. -/
def sweepNumbersSpec : ChangeSpec := { name := "sweepNumbers", fn := fun _ => fun
  | [] => { results := [.lit (.bool true)], args := [] }
  | _ => none }
def sweepNumbersRow : OpenClaim := { program := "ytpkgpldgoajphaa", sum := "1ec140fc904552dc45960269a8c94a276b2c8ffc6454b4d17b579664b07bd637", func := "frankpledge/frankpledgelaw12.SweepNumbers", spec := "sweepNumbers", unfollowed := true, recurses := true, plainKeys := false, apart := false }
def SweepNumbersSaid : Prop := sweepNumbersRow.holds Try.pinned (OpenSpec.ofChange sweepNumbersSpec)

/-- ITS FALSE NEIGHBOUR: 'it returns false'. Refute it at one input. -/
def sweepNumbersWrong : ChangeSpec := { name := "sweepNumbers", fn := fun _ => fun
  | [] => { results := [.lit (.bool false)], args := [] }
  | _ => none }
def SweepNumbersWrongFalsely : Prop := sweepNumbersRow.holds Try.pinned (OpenSpec.ofChange sweepNumbersWrong)

/-- 'frankpledgelaw12.SweepTells': WHATEVER THE INPUT: true; the input reads as it did. -/
def sweepTellsSpec : ChangeSpec := { name := "sweepTells", fn := fun _ => fun
  | [d1, d2, d3, d4, d5] => { results := [.lit (.bool true)], args := [d1, d2, d3, d4, d5] }
  | _ => none }
def sweepTellsRow : OpenClaim := { program := "ytpkgpldgoajphaa", sum := "1ec140fc904552dc45960269a8c94a276b2c8ffc6454b4d17b579664b07bd637", func := "frankpledge/frankpledgelaw12.SweepTells", spec := "sweepTells", unfollowed := true, recurses := true, plainKeys := false, apart := false }
def SweepTellsSaid : Prop := sweepTellsRow.holds Try.pinned (OpenSpec.ofChange sweepTellsSpec)

/-- ITS FALSE NEIGHBOUR: 'it returns false'. Refute it at one input. -/
def sweepTellsWrong : ChangeSpec := { name := "sweepTells", fn := fun _ => fun
  | [d1, d2, d3, d4, d5] => { results := [.lit (.bool false)], args := [d1, d2, d3, d4, d5] }
  | _ => none }
def SweepTellsWrongFalsely : Prop := sweepTellsRow.holds Try.pinned (OpenSpec.ofChange sweepTellsWrong)

/-- 'frankpledgelaw12.SweepParts': WHATEVER THE INPUT: true; the input reads as it did. -/
def sweepPartsSpec : ChangeSpec := { name := "sweepParts", fn := fun _ => fun
  | [d1, d2, d3] => { results := [.lit (.bool true)], args := [d1, d2, d3] }
  | _ => none }
def sweepPartsRow : OpenClaim := { program := "ytpkgpldgoajphaa", sum := "1ec140fc904552dc45960269a8c94a276b2c8ffc6454b4d17b579664b07bd637", func := "frankpledge/frankpledgelaw12.SweepParts", spec := "sweepParts", unfollowed := true, recurses := true, plainKeys := false, apart := false }
def SweepPartsSaid : Prop := sweepPartsRow.holds Try.pinned (OpenSpec.ofChange sweepPartsSpec)

/-- ITS FALSE NEIGHBOUR: 'it returns false'. Refute it at one input. -/
def sweepPartsWrong : ChangeSpec := { name := "sweepParts", fn := fun _ => fun
  | [d1, d2, d3] => { results := [.lit (.bool false)], args := [d1, d2, d3] }
  | _ => none }
def SweepPartsWrongFalsely : Prop := sweepPartsRow.holds Try.pinned (OpenSpec.ofChange sweepPartsWrong)

/-- 'frankpledgelaw12.SweepLeasts': WHATEVER THE INPUT: true; the input reads as it did. -/
def sweepLeastsSpec : ChangeSpec := { name := "sweepLeasts", fn := fun _ => fun
  | [d1, d2, d3, d4] => { results := [.lit (.bool true)], args := [d1, d2, d3, d4] }
  | _ => none }
def sweepLeastsRow : OpenClaim := { program := "ytpkgpldgoajphaa", sum := "1ec140fc904552dc45960269a8c94a276b2c8ffc6454b4d17b579664b07bd637", func := "frankpledge/frankpledgelaw12.SweepLeasts", spec := "sweepLeasts", unfollowed := true, recurses := true, plainKeys := false, apart := false }
def SweepLeastsSaid : Prop := sweepLeastsRow.holds Try.pinned (OpenSpec.ofChange sweepLeastsSpec)

/-- ITS FALSE NEIGHBOUR: 'it returns false'. Refute it at one input. -/
def sweepLeastsWrong : ChangeSpec := { name := "sweepLeasts", fn := fun _ => fun
  | [d1, d2, d3, d4] => { results := [.lit (.bool false)], args := [d1, d2, d3, d4] }
  | _ => none }
def SweepLeastsWrongFalsely : Prop := sweepLeastsRow.holds Try.pinned (OpenSpec.ofChange sweepLeastsWrong)

/-- 'frankpledgelaw12.SweepDeads': WHATEVER THE INPUT: true; the input reads as it did. -/
def sweepDeadsSpec : ChangeSpec := { name := "sweepDeads", fn := fun _ => fun
  | [d1, d2] => { results := [.lit (.bool true)], args := [d1, d2] }
  | _ => none }
def sweepDeadsRow : OpenClaim := { program := "ytpkgpldgoajphaa", sum := "1ec140fc904552dc45960269a8c94a276b2c8ffc6454b4d17b579664b07bd637", func := "frankpledge/frankpledgelaw12.SweepDeads", spec := "sweepDeads", unfollowed := true, recurses := true, plainKeys := false, apart := false }
def SweepDeadsSaid : Prop := sweepDeadsRow.holds Try.pinned (OpenSpec.ofChange sweepDeadsSpec)

/-- ITS FALSE NEIGHBOUR: 'it returns false'. Refute it at one input. -/
def sweepDeadsWrong : ChangeSpec := { name := "sweepDeads", fn := fun _ => fun
  | [d1, d2] => { results := [.lit (.bool false)], args := [d1, d2] }
  | _ => none }
def SweepDeadsWrongFalsely : Prop := sweepDeadsRow.holds Try.pinned (OpenSpec.ofChange sweepDeadsWrong)

/-- 'frankpledgelaw14.SealNumbers': WHATEVER THE INPUT: true; the input reads as it did. -/
def sealNumbersSpec : ChangeSpec := { name := "sealNumbers", fn := fun _ => fun
  | [] => { results := [.lit (.bool true)], args := [] }
  | _ => none }
def sealNumbersRow : OpenClaim := { program := "ytpkgpldgoajphaa", sum := "1ec140fc904552dc45960269a8c94a276b2c8ffc6454b4d17b579664b07bd637", func := "frankpledge/frankpledgelaw14.SealNumbers", spec := "sealNumbers", unfollowed := true, recurses := true, plainKeys := false, apart := false }
def SealNumbersSaid : Prop := sealNumbersRow.holds Try.pinned (OpenSpec.ofChange sealNumbersSpec)

/-- ITS FALSE NEIGHBOUR: 'it returns false'. Refute it at one input. -/
def sealNumbersWrong : ChangeSpec := { name := "sealNumbers", fn := fun _ => fun
  | [] => { results := [.lit (.bool false)], args := [] }
  | _ => none }
def SealNumbersWrongFalsely : Prop := sealNumbersRow.holds Try.pinned (OpenSpec.ofChange sealNumbersWrong)

/-- 'frankpledgelaw14.SealSame': WHATEVER THE INPUT: true; the input reads as it did. -/
def sealSameSpec : ChangeSpec := { name := "sealSame", fn := fun _ => fun
  | [d1, d2] => { results := [.lit (.bool true)], args := [d1, d2] }
  | _ => none }
def sealSameRow : OpenClaim := { program := "ytpkgpldgoajphaa", sum := "1ec140fc904552dc45960269a8c94a276b2c8ffc6454b4d17b579664b07bd637", func := "frankpledge/frankpledgelaw14.SealSame", spec := "sealSame", unfollowed := true, recurses := true, plainKeys := false, apart := false }
def SealSameSaid : Prop := sealSameRow.holds Try.pinned (OpenSpec.ofChange sealSameSpec)

/-- ITS FALSE NEIGHBOUR: 'it returns false'. Refute it at one input. -/
def sealSameWrong : ChangeSpec := { name := "sealSame", fn := fun _ => fun
  | [d1, d2] => { results := [.lit (.bool false)], args := [d1, d2] }
  | _ => none }
def SealSameWrongFalsely : Prop := sealSameRow.holds Try.pinned (OpenSpec.ofChange sealSameWrong)

/-- 'frankpledgelaw14.SealParts': WHATEVER THE INPUT: true; the input reads as it did. -/
def sealPartsSpec : ChangeSpec := { name := "sealParts", fn := fun _ => fun
  | [d] => { results := [.lit (.bool true)], args := [d] }
  | _ => none }
def sealPartsRow : OpenClaim := { program := "ytpkgpldgoajphaa", sum := "1ec140fc904552dc45960269a8c94a276b2c8ffc6454b4d17b579664b07bd637", func := "frankpledge/frankpledgelaw14.SealParts", spec := "sealParts", unfollowed := true, recurses := true, plainKeys := false, apart := false }
def SealPartsSaid : Prop := sealPartsRow.holds Try.pinned (OpenSpec.ofChange sealPartsSpec)

/-- ITS FALSE NEIGHBOUR: 'it returns false'. Refute it at one input. -/
def sealPartsWrong : ChangeSpec := { name := "sealParts", fn := fun _ => fun
  | [d] => { results := [.lit (.bool false)], args := [d] }
  | _ => none }
def SealPartsWrongFalsely : Prop := sealPartsRow.holds Try.pinned (OpenSpec.ofChange sealPartsWrong)

/-- 'frankpledgelaw18.GossipNumbers': WHATEVER THE INPUT: true; the input reads as it did. -/
def gossipNumbersSpec : ChangeSpec := { name := "gossipNumbers", fn := fun _ => fun
  | [] => { results := [.lit (.bool true)], args := [] }
  | _ => none }
def gossipNumbersRow : OpenClaim := { program := "ytpkgpldgoajphaa", sum := "1ec140fc904552dc45960269a8c94a276b2c8ffc6454b4d17b579664b07bd637", func := "frankpledge/frankpledgelaw18.GossipNumbers", spec := "gossipNumbers", unfollowed := true, recurses := true, plainKeys := false, apart := false }
def GossipNumbersSaid : Prop := gossipNumbersRow.holds Try.pinned (OpenSpec.ofChange gossipNumbersSpec)

/-- ITS FALSE NEIGHBOUR: 'it returns false'. Refute it at one input. -/
def gossipNumbersWrong : ChangeSpec := { name := "gossipNumbers", fn := fun _ => fun
  | [] => { results := [.lit (.bool false)], args := [] }
  | _ => none }
def GossipNumbersWrongFalsely : Prop := gossipNumbersRow.holds Try.pinned (OpenSpec.ofChange gossipNumbersWrong)

/-- 'frankpledgelaw18.GossipBoth': WHATEVER THE INPUT: true; the input reads as it did. -/
def gossipBothSpec : ChangeSpec := { name := "gossipBoth", fn := fun _ => fun
  | [d] => { results := [.lit (.bool true)], args := [d] }
  | _ => none }
def gossipBothRow : OpenClaim := { program := "ytpkgpldgoajphaa", sum := "1ec140fc904552dc45960269a8c94a276b2c8ffc6454b4d17b579664b07bd637", func := "frankpledge/frankpledgelaw18.GossipBoth", spec := "gossipBoth", unfollowed := true, recurses := true, plainKeys := false, apart := false }
def GossipBothSaid : Prop := gossipBothRow.holds Try.pinned (OpenSpec.ofChange gossipBothSpec)

/-- ITS FALSE NEIGHBOUR: 'it returns false'. Refute it at one input. -/
def gossipBothWrong : ChangeSpec := { name := "gossipBoth", fn := fun _ => fun
  | [d] => { results := [.lit (.bool false)], args := [d] }
  | _ => none }
def GossipBothWrongFalsely : Prop := gossipBothRow.holds Try.pinned (OpenSpec.ofChange gossipBothWrong)

/-- 'frankpledgelaw18.GossipSelf': WHATEVER THE INPUT: true; the input reads as it did. -/
def gossipSelfSpec : ChangeSpec := { name := "gossipSelf", fn := fun _ => fun
  | [d] => { results := [.lit (.bool true)], args := [d] }
  | _ => none }
def gossipSelfRow : OpenClaim := { program := "ytpkgpldgoajphaa", sum := "1ec140fc904552dc45960269a8c94a276b2c8ffc6454b4d17b579664b07bd637", func := "frankpledge/frankpledgelaw18.GossipSelf", spec := "gossipSelf", unfollowed := true, recurses := true, plainKeys := false, apart := false }
def GossipSelfSaid : Prop := gossipSelfRow.holds Try.pinned (OpenSpec.ofChange gossipSelfSpec)

/-- ITS FALSE NEIGHBOUR: 'it returns false'. Refute it at one input. -/
def gossipSelfWrong : ChangeSpec := { name := "gossipSelf", fn := fun _ => fun
  | [d] => { results := [.lit (.bool false)], args := [d] }
  | _ => none }
def GossipSelfWrongFalsely : Prop := gossipSelfRow.holds Try.pinned (OpenSpec.ofChange gossipSelfWrong)

/-- 'frankpledgelaw18.GossipLater': WHATEVER THE INPUT: true; the input reads as it did. -/
def gossipLaterSpec : ChangeSpec := { name := "gossipLater", fn := fun _ => fun
  | [d1, d2] => { results := [.lit (.bool true)], args := [d1, d2] }
  | _ => none }
def gossipLaterRow : OpenClaim := { program := "ytpkgpldgoajphaa", sum := "1ec140fc904552dc45960269a8c94a276b2c8ffc6454b4d17b579664b07bd637", func := "frankpledge/frankpledgelaw18.GossipLater", spec := "gossipLater", unfollowed := true, recurses := true, plainKeys := false, apart := false }
def GossipLaterSaid : Prop := gossipLaterRow.holds Try.pinned (OpenSpec.ofChange gossipLaterSpec)

/-- ITS FALSE NEIGHBOUR: 'it returns false'. Refute it at one input. -/
def gossipLaterWrong : ChangeSpec := { name := "gossipLater", fn := fun _ => fun
  | [d1, d2] => { results := [.lit (.bool false)], args := [d1, d2] }
  | _ => none }
def GossipLaterWrongFalsely : Prop := gossipLaterRow.holds Try.pinned (OpenSpec.ofChange gossipLaterWrong)

/- THE SECOND FORM. 'bulk': how many values and letters a reading holds, each counted each time it is reached (what is shared counts as often as it is met; a slice's spare places count too). A statement '..UptoSaid' is the law's where the arguments, and the package variables that the reading takes, are together of bulk at most 1048576: NARROWER than '..Said'. Prove '..Said' where nothing that the law and all that it calls make is longer than what came in: it says more and counts as full. Else prove '..UptoSaid'. A law counts once. -/
mutual
def uptoBulk {H : Type} : DataW H → Nat
  | .lit (.string bytes) => bytes.length + 1
  | .lit _ => 1
  | .nil => 1
  | .ptr d => uptoBulk d + 1
  | .slice elems spare => uptoBulkAll elems + uptoBulkAll spare + 1
  | .agg parts => uptoBulkAll parts + 1
  | .iface _ d => uptoBulk d + 1
  | .map entries => uptoBulkEntries entries + 1
  | .held _ => 1
def uptoBulkAll {H : Type} : List (DataW H) → Nat
  | [] => 0
  | d :: r => uptoBulk d + uptoBulkAll r
def uptoBulkEntries {H : Type} : List (Lit × DataW H) → Nat
  | [] => 0
  | x :: r => uptoBulkEntry x + uptoBulkEntries r
def uptoBulkEntry {H : Type} : Lit × DataW H → Nat
  | (.string bytes, d) => bytes.length + uptoBulk d + 1
  | (_, d) => uptoBulk d + 1
 end
def uptoSmall : (H : Type) → List (DataW H) → Bool := fun _ ds => decide (uptoBulkAll ds ≤ 1048576)
def OpenSpec.upto (s : _root_.Go.ChangeSpec) : _root_.Go.OpenSpec := { _root_.Go.OpenSpec.ofChange s with cond := some uptoSmall }

/-- 'frankpledgelaw10.ShelfCounts', WHERE WHAT IT READS IS OF BULK AT MOST 1048576: true; the input reads as it did. -/
def shelfCountsUptoRow : OpenClaim := { program := "ytpkgpldgoajphaa", sum := "1ec140fc904552dc45960269a8c94a276b2c8ffc6454b4d17b579664b07bd637", func := "frankpledge/frankpledgelaw10.ShelfCounts", spec := "shelfCounts", inPlace := ["slices.overlaps[frankpledge/lease.Entry]"], plainKeys := false, apart := false, narrowed := true }
def ShelfCountsUptoSaid : Prop := shelfCountsUptoRow.holds Try.pinned (OpenSpec.upto shelfCountsSpec)

/-- 'frankpledgelaw10.ShelfOrder', WHERE WHAT IT READS IS OF BULK AT MOST 1048576: true; the input reads as it did. -/
def shelfOrderUptoRow : OpenClaim := { program := "ytpkgpldgoajphaa", sum := "1ec140fc904552dc45960269a8c94a276b2c8ffc6454b4d17b579664b07bd637", func := "frankpledge/frankpledgelaw10.ShelfOrder", spec := "shelfOrder", inPlace := ["slices.overlaps[frankpledge/lease.Entry]"], plainKeys := false, apart := false, narrowed := true }
def ShelfOrderUptoSaid : Prop := shelfOrderUptoRow.holds Try.pinned (OpenSpec.upto shelfOrderSpec)

/-- 'frankpledgelaw10.ShelfNumbers', WHERE WHAT IT READS IS OF BULK AT MOST 1048576: true; the input reads as it did. -/
def shelfNumbersUptoRow : OpenClaim := { program := "ytpkgpldgoajphaa", sum := "1ec140fc904552dc45960269a8c94a276b2c8ffc6454b4d17b579664b07bd637", func := "frankpledge/frankpledgelaw10.ShelfNumbers", spec := "shelfNumbers", inPlace := ["slices.overlaps[frankpledge/lease.Entry]"], plainKeys := false, apart := false, narrowed := true }
def ShelfNumbersUptoSaid : Prop := shelfNumbersUptoRow.holds Try.pinned (OpenSpec.upto shelfNumbersSpec)

/-- 'frankpledgelaw10.ShelfPlays', WHERE WHAT IT READS IS OF BULK AT MOST 1048576: true; the input reads as it did. -/
def shelfPlaysUptoRow : OpenClaim := { program := "ytpkgpldgoajphaa", sum := "1ec140fc904552dc45960269a8c94a276b2c8ffc6454b4d17b579664b07bd637", func := "frankpledge/frankpledgelaw10.ShelfPlays", spec := "shelfPlays", inPlace := ["slices.overlaps[frankpledge/lease.Entry]"], plainKeys := false, apart := false, narrowed := true }
def ShelfPlaysUptoSaid : Prop := shelfPlaysUptoRow.holds Try.pinned (OpenSpec.upto shelfPlaysSpec)

/-- 'frankpledgelaw12.SweepNumbers', WHERE WHAT IT READS IS OF BULK AT MOST 1048576: true; the input reads as it did. -/
def sweepNumbersUptoRow : OpenClaim := { program := "ytpkgpldgoajphaa", sum := "1ec140fc904552dc45960269a8c94a276b2c8ffc6454b4d17b579664b07bd637", func := "frankpledge/frankpledgelaw12.SweepNumbers", spec := "sweepNumbers", unfollowed := true, recurses := true, plainKeys := false, apart := false, narrowed := true }
def SweepNumbersUptoSaid : Prop := sweepNumbersUptoRow.holds Try.pinned (OpenSpec.upto sweepNumbersSpec)

/-- 'frankpledgelaw12.SweepTells', WHERE WHAT IT READS IS OF BULK AT MOST 1048576: true; the input reads as it did. -/
def sweepTellsUptoRow : OpenClaim := { program := "ytpkgpldgoajphaa", sum := "1ec140fc904552dc45960269a8c94a276b2c8ffc6454b4d17b579664b07bd637", func := "frankpledge/frankpledgelaw12.SweepTells", spec := "sweepTells", unfollowed := true, recurses := true, plainKeys := false, apart := false, narrowed := true }
def SweepTellsUptoSaid : Prop := sweepTellsUptoRow.holds Try.pinned (OpenSpec.upto sweepTellsSpec)

/-- 'frankpledgelaw12.SweepParts', WHERE WHAT IT READS IS OF BULK AT MOST 1048576: true; the input reads as it did. -/
def sweepPartsUptoRow : OpenClaim := { program := "ytpkgpldgoajphaa", sum := "1ec140fc904552dc45960269a8c94a276b2c8ffc6454b4d17b579664b07bd637", func := "frankpledge/frankpledgelaw12.SweepParts", spec := "sweepParts", unfollowed := true, recurses := true, plainKeys := false, apart := false, narrowed := true }
def SweepPartsUptoSaid : Prop := sweepPartsUptoRow.holds Try.pinned (OpenSpec.upto sweepPartsSpec)

/-- 'frankpledgelaw12.SweepLeasts', WHERE WHAT IT READS IS OF BULK AT MOST 1048576: true; the input reads as it did. -/
def sweepLeastsUptoRow : OpenClaim := { program := "ytpkgpldgoajphaa", sum := "1ec140fc904552dc45960269a8c94a276b2c8ffc6454b4d17b579664b07bd637", func := "frankpledge/frankpledgelaw12.SweepLeasts", spec := "sweepLeasts", unfollowed := true, recurses := true, plainKeys := false, apart := false, narrowed := true }
def SweepLeastsUptoSaid : Prop := sweepLeastsUptoRow.holds Try.pinned (OpenSpec.upto sweepLeastsSpec)

/-- 'frankpledgelaw12.SweepDeads', WHERE WHAT IT READS IS OF BULK AT MOST 1048576: true; the input reads as it did. -/
def sweepDeadsUptoRow : OpenClaim := { program := "ytpkgpldgoajphaa", sum := "1ec140fc904552dc45960269a8c94a276b2c8ffc6454b4d17b579664b07bd637", func := "frankpledge/frankpledgelaw12.SweepDeads", spec := "sweepDeads", unfollowed := true, recurses := true, plainKeys := false, apart := false, narrowed := true }
def SweepDeadsUptoSaid : Prop := sweepDeadsUptoRow.holds Try.pinned (OpenSpec.upto sweepDeadsSpec)

/-- 'frankpledgelaw14.SealNumbers', WHERE WHAT IT READS IS OF BULK AT MOST 1048576: true; the input reads as it did. -/
def sealNumbersUptoRow : OpenClaim := { program := "ytpkgpldgoajphaa", sum := "1ec140fc904552dc45960269a8c94a276b2c8ffc6454b4d17b579664b07bd637", func := "frankpledge/frankpledgelaw14.SealNumbers", spec := "sealNumbers", unfollowed := true, recurses := true, plainKeys := false, apart := false, narrowed := true }
def SealNumbersUptoSaid : Prop := sealNumbersUptoRow.holds Try.pinned (OpenSpec.upto sealNumbersSpec)

/-- 'frankpledgelaw14.SealSame', WHERE WHAT IT READS IS OF BULK AT MOST 1048576: true; the input reads as it did. -/
def sealSameUptoRow : OpenClaim := { program := "ytpkgpldgoajphaa", sum := "1ec140fc904552dc45960269a8c94a276b2c8ffc6454b4d17b579664b07bd637", func := "frankpledge/frankpledgelaw14.SealSame", spec := "sealSame", unfollowed := true, recurses := true, plainKeys := false, apart := false, narrowed := true }
def SealSameUptoSaid : Prop := sealSameUptoRow.holds Try.pinned (OpenSpec.upto sealSameSpec)

/-- 'frankpledgelaw14.SealParts', WHERE WHAT IT READS IS OF BULK AT MOST 1048576: true; the input reads as it did. -/
def sealPartsUptoRow : OpenClaim := { program := "ytpkgpldgoajphaa", sum := "1ec140fc904552dc45960269a8c94a276b2c8ffc6454b4d17b579664b07bd637", func := "frankpledge/frankpledgelaw14.SealParts", spec := "sealParts", unfollowed := true, recurses := true, plainKeys := false, apart := false, narrowed := true }
def SealPartsUptoSaid : Prop := sealPartsUptoRow.holds Try.pinned (OpenSpec.upto sealPartsSpec)

/-- 'frankpledgelaw18.GossipNumbers', WHERE WHAT IT READS IS OF BULK AT MOST 1048576: true; the input reads as it did. -/
def gossipNumbersUptoRow : OpenClaim := { program := "ytpkgpldgoajphaa", sum := "1ec140fc904552dc45960269a8c94a276b2c8ffc6454b4d17b579664b07bd637", func := "frankpledge/frankpledgelaw18.GossipNumbers", spec := "gossipNumbers", unfollowed := true, recurses := true, plainKeys := false, apart := false, narrowed := true }
def GossipNumbersUptoSaid : Prop := gossipNumbersUptoRow.holds Try.pinned (OpenSpec.upto gossipNumbersSpec)

/-- 'frankpledgelaw18.GossipBoth', WHERE WHAT IT READS IS OF BULK AT MOST 1048576: true; the input reads as it did. -/
def gossipBothUptoRow : OpenClaim := { program := "ytpkgpldgoajphaa", sum := "1ec140fc904552dc45960269a8c94a276b2c8ffc6454b4d17b579664b07bd637", func := "frankpledge/frankpledgelaw18.GossipBoth", spec := "gossipBoth", unfollowed := true, recurses := true, plainKeys := false, apart := false, narrowed := true }
def GossipBothUptoSaid : Prop := gossipBothUptoRow.holds Try.pinned (OpenSpec.upto gossipBothSpec)

/-- 'frankpledgelaw18.GossipSelf', WHERE WHAT IT READS IS OF BULK AT MOST 1048576: true; the input reads as it did. -/
def gossipSelfUptoRow : OpenClaim := { program := "ytpkgpldgoajphaa", sum := "1ec140fc904552dc45960269a8c94a276b2c8ffc6454b4d17b579664b07bd637", func := "frankpledge/frankpledgelaw18.GossipSelf", spec := "gossipSelf", unfollowed := true, recurses := true, plainKeys := false, apart := false, narrowed := true }
def GossipSelfUptoSaid : Prop := gossipSelfUptoRow.holds Try.pinned (OpenSpec.upto gossipSelfSpec)

/-- 'frankpledgelaw18.GossipLater', WHERE WHAT IT READS IS OF BULK AT MOST 1048576: true; the input reads as it did. -/
def gossipLaterUptoRow : OpenClaim := { program := "ytpkgpldgoajphaa", sum := "1ec140fc904552dc45960269a8c94a276b2c8ffc6454b4d17b579664b07bd637", func := "frankpledge/frankpledgelaw18.GossipLater", spec := "gossipLater", unfollowed := true, recurses := true, plainKeys := false, apart := false, narrowed := true }
def GossipLaterUptoSaid : Prop := gossipLaterUptoRow.holds Try.pinned (OpenSpec.upto gossipLaterSpec)

end Rows
end Go.Proofs.Ytpkgpldgoajphaa
