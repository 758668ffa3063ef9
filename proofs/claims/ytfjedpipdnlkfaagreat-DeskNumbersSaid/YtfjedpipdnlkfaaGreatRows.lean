/-
  No cell of these rows narrows 'for every input' (looked for: loops, veiled, ifaces, maps, wideKeys, modest, calm, conditions, laid).
  DERIVED. THE GIVEN ROWS OF THIS SEAT. 10 by the template 'for every input the law returns true; each argument reads behind the call as it read before'; 0 by the template 'total and deterministic' (their statements: YtfjedpipdnlkfaaGreatTotals.lean).
  GIVEN WITH THE SEED: the statements are not yours to turn. If you find one false, say at which input.
  Laid BY PROGRAM, IN A SANDBOX (cutbox-rows.mjs): the forced cells as the released guide's own fill.sh prints them over the translation 2e592ad195deedbb… (all of the seat's roots in one cut). By AI agents, Wed Nov 11 2026. No macro, syntax, notation, axiom, sorry.
-/
import Derived.Test.YtfjedpipdnlkfaaGreatChecked
import GoSem.Claim
import GoSem.ClaimJoined
import GoSem.ClaimMapViews
import Derived.JoinedTies
import Derived.KernelRfl
namespace Go.Proofs.YtfjedpipdnlkfaaGreat
/- THE CELL 'sum', in the pinned program and in every row, IS THE sha256 OF THE DUMP (.gsa) THAT YtfjedpipdnlkfaaGreatProg.lean LOADS. Nothing in Lean hashes anything: it is a label: what it is worth is what the hold of that sum in a sandbox is worth. -/
noncomputable def Tryz.pinned : Pinned := { name := "ytfjedpipdnlkfaagreat", sum := "2e592ad195deedbbc29470954ac12c4168979b5cd2f6821eb0dfafe3f6f006ba", checked := Tryz.checked }
namespace Rows
def none {H : Type} : Left H := { results := [], args := [] }

/-- 'frankpledgelaw16.DeskStamps': WHATEVER THE INPUT: true; the input reads as it did. -/
def deskStampsSpec : ChangeSpec := { name := "deskStamps", fn := fun _ => fun
  | [d] => { results := [.lit (.bool true)], args := [d] }
  | _ => none }
def deskStampsRow : OpenClaim := { program := "ytfjedpipdnlkfaagreat", sum := "2e592ad195deedbbc29470954ac12c4168979b5cd2f6821eb0dfafe3f6f006ba", func := "frankpledge/frankpledgelaw16.DeskStamps", spec := "deskStamps", inPlace := ["slices.overlaps[frankpledge/lease.Entry]"], unfollowed := true, recurses := true, apart := false }
def DeskStampsSaid : Prop := deskStampsRow.holds Tryz.pinned (OpenSpec.ofChange deskStampsSpec)

/-- ITS FALSE NEIGHBOUR: 'it returns false'. Refute it at one input. -/
def deskStampsWrong : ChangeSpec := { name := "deskStamps", fn := fun _ => fun
  | [d] => { results := [.lit (.bool false)], args := [d] }
  | _ => none }
def DeskStampsWrongFalsely : Prop := deskStampsRow.holds Tryz.pinned (OpenSpec.ofChange deskStampsWrong)

/-- 'frankpledgelaw16.DeskFull': WHATEVER THE INPUT: true; the input reads as it did. -/
def deskFullSpec : ChangeSpec := { name := "deskFull", fn := fun _ => fun
  | [d] => { results := [.lit (.bool true)], args := [d] }
  | _ => none }
def deskFullRow : OpenClaim := { program := "ytfjedpipdnlkfaagreat", sum := "2e592ad195deedbbc29470954ac12c4168979b5cd2f6821eb0dfafe3f6f006ba", func := "frankpledge/frankpledgelaw16.DeskFull", spec := "deskFull", inPlace := ["slices.overlaps[frankpledge/lease.Entry]"], unfollowed := true, recurses := true, apart := false }
def DeskFullSaid : Prop := deskFullRow.holds Tryz.pinned (OpenSpec.ofChange deskFullSpec)

/-- ITS FALSE NEIGHBOUR: 'it returns false'. Refute it at one input. -/
def deskFullWrong : ChangeSpec := { name := "deskFull", fn := fun _ => fun
  | [d] => { results := [.lit (.bool false)], args := [d] }
  | _ => none }
def DeskFullWrongFalsely : Prop := deskFullRow.holds Tryz.pinned (OpenSpec.ofChange deskFullWrong)

/-- 'frankpledgelaw16.DeskRenews': WHATEVER THE INPUT: true; the input reads as it did. -/
def deskRenewsSpec : ChangeSpec := { name := "deskRenews", fn := fun _ => fun
  | [d1, d2, d3] => { results := [.lit (.bool true)], args := [d1, d2, d3] }
  | _ => none }
def deskRenewsRow : OpenClaim := { program := "ytfjedpipdnlkfaagreat", sum := "2e592ad195deedbbc29470954ac12c4168979b5cd2f6821eb0dfafe3f6f006ba", func := "frankpledge/frankpledgelaw16.DeskRenews", spec := "deskRenews", inPlace := ["slices.overlaps[frankpledge/lease.Entry]"], unfollowed := true, recurses := true, apart := false }
def DeskRenewsSaid : Prop := deskRenewsRow.holds Tryz.pinned (OpenSpec.ofChange deskRenewsSpec)

/-- ITS FALSE NEIGHBOUR: 'it returns false'. Refute it at one input. -/
def deskRenewsWrong : ChangeSpec := { name := "deskRenews", fn := fun _ => fun
  | [d1, d2, d3] => { results := [.lit (.bool false)], args := [d1, d2, d3] }
  | _ => none }
def DeskRenewsWrongFalsely : Prop := deskRenewsRow.holds Tryz.pinned (OpenSpec.ofChange deskRenewsWrong)

/-- 'frankpledgelaw16.DeskNumbers': WHATEVER THE INPUT: true; the input reads as it did. -/
def deskNumbersSpec : ChangeSpec := { name := "deskNumbers", fn := fun _ => fun
  | [] => { results := [.lit (.bool true)], args := [] }
  | _ => none }
def deskNumbersRow : OpenClaim := { program := "ytfjedpipdnlkfaagreat", sum := "2e592ad195deedbbc29470954ac12c4168979b5cd2f6821eb0dfafe3f6f006ba", func := "frankpledge/frankpledgelaw16.DeskNumbers", spec := "deskNumbers", inPlace := ["slices.overlaps[frankpledge/lease.Entry]"], unfollowed := true, recurses := true, apart := false }
def DeskNumbersSaid : Prop := deskNumbersRow.holds Tryz.pinned (OpenSpec.ofChange deskNumbersSpec)

/-- ITS FALSE NEIGHBOUR: 'it returns false'. Refute it at one input. -/
def deskNumbersWrong : ChangeSpec := { name := "deskNumbers", fn := fun _ => fun
  | [] => { results := [.lit (.bool false)], args := [] }
  | _ => none }
def DeskNumbersWrongFalsely : Prop := deskNumbersRow.holds Tryz.pinned (OpenSpec.ofChange deskNumbersWrong)

/-- 'frankpledgelaw16.DeskPlays': WHATEVER THE INPUT: true; the input reads as it did. -/
def deskPlaysSpec : ChangeSpec := { name := "deskPlays", fn := fun _ => fun
  | [d1, d2, d3, d4] => { results := [.lit (.bool true)], args := [d1, d2, d3, d4] }
  | _ => none }
def deskPlaysRow : OpenClaim := { program := "ytfjedpipdnlkfaagreat", sum := "2e592ad195deedbbc29470954ac12c4168979b5cd2f6821eb0dfafe3f6f006ba", func := "frankpledge/frankpledgelaw16.DeskPlays", spec := "deskPlays", inPlace := ["slices.overlaps[frankpledge/lease.Entry]"], unfollowed := true, recurses := true, apart := false }
def DeskPlaysSaid : Prop := deskPlaysRow.holds Tryz.pinned (OpenSpec.ofChange deskPlaysSpec)

/-- ITS FALSE NEIGHBOUR: 'it returns false'. Refute it at one input. -/
def deskPlaysWrong : ChangeSpec := { name := "deskPlays", fn := fun _ => fun
  | [d1, d2, d3, d4] => { results := [.lit (.bool false)], args := [d1, d2, d3, d4] }
  | _ => none }
def DeskPlaysWrongFalsely : Prop := deskPlaysRow.holds Tryz.pinned (OpenSpec.ofChange deskPlaysWrong)

/-- 'frankpledgelaw20.ServerTicks': WHATEVER THE INPUT: true; the input reads as it did. -/
def serverTicksSpec : ChangeSpec := { name := "serverTicks", fn := fun _ => fun
  | [d1, d2] => { results := [.lit (.bool true)], args := [d1, d2] }
  | _ => none }
def serverTicksRow : OpenClaim := { program := "ytfjedpipdnlkfaagreat", sum := "2e592ad195deedbbc29470954ac12c4168979b5cd2f6821eb0dfafe3f6f006ba", func := "frankpledge/frankpledgelaw20.ServerTicks", spec := "serverTicks", inPlace := ["slices.overlaps[frankpledge/lease.Entry]"], unfollowed := true, recurses := true, apart := false }
def ServerTicksSaid : Prop := serverTicksRow.holds Tryz.pinned (OpenSpec.ofChange serverTicksSpec)

/-- ITS FALSE NEIGHBOUR: 'it returns false'. Refute it at one input. -/
def serverTicksWrong : ChangeSpec := { name := "serverTicks", fn := fun _ => fun
  | [d1, d2] => { results := [.lit (.bool false)], args := [d1, d2] }
  | _ => none }
def ServerTicksWrongFalsely : Prop := serverTicksRow.holds Tryz.pinned (OpenSpec.ofChange serverTicksWrong)

/-- 'frankpledgelaw20.ServerPairs': WHATEVER THE INPUT: true; the input reads as it did. -/
def serverPairsSpec : ChangeSpec := { name := "serverPairs", fn := fun _ => fun
  | [d1, d2] => { results := [.lit (.bool true)], args := [d1, d2] }
  | _ => none }
def serverPairsRow : OpenClaim := { program := "ytfjedpipdnlkfaagreat", sum := "2e592ad195deedbbc29470954ac12c4168979b5cd2f6821eb0dfafe3f6f006ba", func := "frankpledge/frankpledgelaw20.ServerPairs", spec := "serverPairs", inPlace := ["slices.overlaps[frankpledge/lease.Entry]"], unfollowed := true, recurses := true, apart := false }
def ServerPairsSaid : Prop := serverPairsRow.holds Tryz.pinned (OpenSpec.ofChange serverPairsSpec)

/-- ITS FALSE NEIGHBOUR: 'it returns false'. Refute it at one input. -/
def serverPairsWrong : ChangeSpec := { name := "serverPairs", fn := fun _ => fun
  | [d1, d2] => { results := [.lit (.bool false)], args := [d1, d2] }
  | _ => none }
def ServerPairsWrongFalsely : Prop := serverPairsRow.holds Tryz.pinned (OpenSpec.ofChange serverPairsWrong)

/-- 'frankpledgelaw20.ServerCrash': WHATEVER THE INPUT: true; the input reads as it did. -/
def serverCrashSpec : ChangeSpec := { name := "serverCrash", fn := fun _ => fun
  | [d1, d2] => { results := [.lit (.bool true)], args := [d1, d2] }
  | _ => none }
def serverCrashRow : OpenClaim := { program := "ytfjedpipdnlkfaagreat", sum := "2e592ad195deedbbc29470954ac12c4168979b5cd2f6821eb0dfafe3f6f006ba", func := "frankpledge/frankpledgelaw20.ServerCrash", spec := "serverCrash", inPlace := ["slices.overlaps[frankpledge/lease.Entry]"], unfollowed := true, recurses := true, apart := false }
def ServerCrashSaid : Prop := serverCrashRow.holds Tryz.pinned (OpenSpec.ofChange serverCrashSpec)

/-- ITS FALSE NEIGHBOUR: 'it returns false'. Refute it at one input. -/
def serverCrashWrong : ChangeSpec := { name := "serverCrash", fn := fun _ => fun
  | [d1, d2] => { results := [.lit (.bool false)], args := [d1, d2] }
  | _ => none }
def ServerCrashWrongFalsely : Prop := serverCrashRow.holds Tryz.pinned (OpenSpec.ofChange serverCrashWrong)

/-- 'frankpledgelaw20.ServerNumbers': WHATEVER THE INPUT: true; the input reads as it did. -/
def serverNumbersSpec : ChangeSpec := { name := "serverNumbers", fn := fun _ => fun
  | [] => { results := [.lit (.bool true)], args := [] }
  | _ => none }
def serverNumbersRow : OpenClaim := { program := "ytfjedpipdnlkfaagreat", sum := "2e592ad195deedbbc29470954ac12c4168979b5cd2f6821eb0dfafe3f6f006ba", func := "frankpledge/frankpledgelaw20.ServerNumbers", spec := "serverNumbers", inPlace := ["slices.overlaps[frankpledge/lease.Entry]"], unfollowed := true, recurses := true, apart := false }
def ServerNumbersSaid : Prop := serverNumbersRow.holds Tryz.pinned (OpenSpec.ofChange serverNumbersSpec)

/-- ITS FALSE NEIGHBOUR: 'it returns false'. Refute it at one input. -/
def serverNumbersWrong : ChangeSpec := { name := "serverNumbers", fn := fun _ => fun
  | [] => { results := [.lit (.bool false)], args := [] }
  | _ => none }
def ServerNumbersWrongFalsely : Prop := serverNumbersRow.holds Tryz.pinned (OpenSpec.ofChange serverNumbersWrong)

/-- 'frankpledgelaw20.ServerPlays': WHATEVER THE INPUT: true; the input reads as it did. -/
def serverPlaysSpec : ChangeSpec := { name := "serverPlays", fn := fun _ => fun
  | [d1, d2, d3, d4] => { results := [.lit (.bool true)], args := [d1, d2, d3, d4] }
  | _ => none }
def serverPlaysRow : OpenClaim := { program := "ytfjedpipdnlkfaagreat", sum := "2e592ad195deedbbc29470954ac12c4168979b5cd2f6821eb0dfafe3f6f006ba", func := "frankpledge/frankpledgelaw20.ServerPlays", spec := "serverPlays", inPlace := ["slices.overlaps[frankpledge/lease.Entry]"], unfollowed := true, recurses := true, apart := false }
def ServerPlaysSaid : Prop := serverPlaysRow.holds Tryz.pinned (OpenSpec.ofChange serverPlaysSpec)

/-- ITS FALSE NEIGHBOUR: 'it returns false'. Refute it at one input. -/
def serverPlaysWrong : ChangeSpec := { name := "serverPlays", fn := fun _ => fun
  | [d1, d2, d3, d4] => { results := [.lit (.bool false)], args := [d1, d2, d3, d4] }
  | _ => none }
def ServerPlaysWrongFalsely : Prop := serverPlaysRow.holds Tryz.pinned (OpenSpec.ofChange serverPlaysWrong)

/- THE SECOND FORM. 'bulk': how many values and letters a reading holds, each counted each time it is reached (what is shared counts as often as it is met; a slice's spare places count too). A statement '..UptoSaid' is the law's where the arguments, and the package variables that the reading takes, are together of bulk at most 1048576: NARROWER than '..Said'. Prove '..Said' where nothing that the law and all that it calls make is longer than what came in: it says more and counts as full. Else prove '..UptoSaid'. A law counts once. -/
mutual
def uptoBulk {H : Type} : DataW H → Nat
  | .lit (.string bytes) => bytes.length + 1
  | .lit _ => 1
  | .nil => 1
  | .ptr d => uptoBulk d + 1
  | .slice elems spare => uptoBulkAll elems + uptoBulkAll spare + 1
  | .agg parts => uptoBulkAll parts + 1
  | .iface _ d => uptoBulk d + 1
  | .map entries => uptoBulkEntries entries + 1
  | .held _ => 1
def uptoBulkAll {H : Type} : List (DataW H) → Nat
  | [] => 0
  | d :: r => uptoBulk d + uptoBulkAll r
def uptoBulkEntries {H : Type} : List (Lit × DataW H) → Nat
  | [] => 0
  | x :: r => uptoBulkEntry x + uptoBulkEntries r
def uptoBulkEntry {H : Type} : Lit × DataW H → Nat
  | (.string bytes, d) => bytes.length + uptoBulk d + 1
  | (_, d) => uptoBulk d + 1
 end
def uptoSmall : (H : Type) → List (DataW H) → Bool := fun _ ds => decide (uptoBulkAll ds ≤ 1048576)
def OpenSpec.upto (s : _root_.Go.ChangeSpec) : _root_.Go.OpenSpec := { _root_.Go.OpenSpec.ofChange s with cond := some uptoSmall }

/-- 'frankpledgelaw16.DeskStamps', WHERE WHAT IT READS IS OF BULK AT MOST 1048576: true; the input reads as it did. -/
def deskStampsUptoRow : OpenClaim := { program := "ytfjedpipdnlkfaagreat", sum := "2e592ad195deedbbc29470954ac12c4168979b5cd2f6821eb0dfafe3f6f006ba", func := "frankpledge/frankpledgelaw16.DeskStamps", spec := "deskStamps", inPlace := ["slices.overlaps[frankpledge/lease.Entry]"], unfollowed := true, recurses := true, apart := false, narrowed := true }
def DeskStampsUptoSaid : Prop := deskStampsUptoRow.holds Tryz.pinned (OpenSpec.upto deskStampsSpec)

/-- 'frankpledgelaw16.DeskFull', WHERE WHAT IT READS IS OF BULK AT MOST 1048576: true; the input reads as it did. -/
def deskFullUptoRow : OpenClaim := { program := "ytfjedpipdnlkfaagreat", sum := "2e592ad195deedbbc29470954ac12c4168979b5cd2f6821eb0dfafe3f6f006ba", func := "frankpledge/frankpledgelaw16.DeskFull", spec := "deskFull", inPlace := ["slices.overlaps[frankpledge/lease.Entry]"], unfollowed := true, recurses := true, apart := false, narrowed := true }
def DeskFullUptoSaid : Prop := deskFullUptoRow.holds Tryz.pinned (OpenSpec.upto deskFullSpec)

/-- 'frankpledgelaw16.DeskRenews', WHERE WHAT IT READS IS OF BULK AT MOST 1048576: true; the input reads as it did. -/
def deskRenewsUptoRow : OpenClaim := { program := "ytfjedpipdnlkfaagreat", sum := "2e592ad195deedbbc29470954ac12c4168979b5cd2f6821eb0dfafe3f6f006ba", func := "frankpledge/frankpledgelaw16.DeskRenews", spec := "deskRenews", inPlace := ["slices.overlaps[frankpledge/lease.Entry]"], unfollowed := true, recurses := true, apart := false, narrowed := true }
def DeskRenewsUptoSaid : Prop := deskRenewsUptoRow.holds Tryz.pinned (OpenSpec.upto deskRenewsSpec)

/-- 'frankpledgelaw16.DeskNumbers', WHERE WHAT IT READS IS OF BULK AT MOST 1048576: true; the input reads as it did. -/
def deskNumbersUptoRow : OpenClaim := { program := "ytfjedpipdnlkfaagreat", sum := "2e592ad195deedbbc29470954ac12c4168979b5cd2f6821eb0dfafe3f6f006ba", func := "frankpledge/frankpledgelaw16.DeskNumbers", spec := "deskNumbers", inPlace := ["slices.overlaps[frankpledge/lease.Entry]"], unfollowed := true, recurses := true, apart := false, narrowed := true }
def DeskNumbersUptoSaid : Prop := deskNumbersUptoRow.holds Tryz.pinned (OpenSpec.upto deskNumbersSpec)

/-- 'frankpledgelaw16.DeskPlays', WHERE WHAT IT READS IS OF BULK AT MOST 1048576: true; the input reads as it did. -/
def deskPlaysUptoRow : OpenClaim := { program := "ytfjedpipdnlkfaagreat", sum := "2e592ad195deedbbc29470954ac12c4168979b5cd2f6821eb0dfafe3f6f006ba", func := "frankpledge/frankpledgelaw16.DeskPlays", spec := "deskPlays", inPlace := ["slices.overlaps[frankpledge/lease.Entry]"], unfollowed := true, recurses := true, apart := false, narrowed := true }
def DeskPlaysUptoSaid : Prop := deskPlaysUptoRow.holds Tryz.pinned (OpenSpec.upto deskPlaysSpec)

/-- 'frankpledgelaw20.ServerTicks', WHERE WHAT IT READS IS OF BULK AT MOST 1048576: true; the input reads as it did. -/
def serverTicksUptoRow : OpenClaim := { program := "ytfjedpipdnlkfaagreat", sum := "2e592ad195deedbbc29470954ac12c4168979b5cd2f6821eb0dfafe3f6f006ba", func := "frankpledge/frankpledgelaw20.ServerTicks", spec := "serverTicks", inPlace := ["slices.overlaps[frankpledge/lease.Entry]"], unfollowed := true, recurses := true, apart := false, narrowed := true }
def ServerTicksUptoSaid : Prop := serverTicksUptoRow.holds Tryz.pinned (OpenSpec.upto serverTicksSpec)

/-- 'frankpledgelaw20.ServerPairs', WHERE WHAT IT READS IS OF BULK AT MOST 1048576: true; the input reads as it did. -/
def serverPairsUptoRow : OpenClaim := { program := "ytfjedpipdnlkfaagreat", sum := "2e592ad195deedbbc29470954ac12c4168979b5cd2f6821eb0dfafe3f6f006ba", func := "frankpledge/frankpledgelaw20.ServerPairs", spec := "serverPairs", inPlace := ["slices.overlaps[frankpledge/lease.Entry]"], unfollowed := true, recurses := true, apart := false, narrowed := true }
def ServerPairsUptoSaid : Prop := serverPairsUptoRow.holds Tryz.pinned (OpenSpec.upto serverPairsSpec)

/-- 'frankpledgelaw20.ServerCrash', WHERE WHAT IT READS IS OF BULK AT MOST 1048576: true; the input reads as it did. -/
def serverCrashUptoRow : OpenClaim := { program := "ytfjedpipdnlkfaagreat", sum := "2e592ad195deedbbc29470954ac12c4168979b5cd2f6821eb0dfafe3f6f006ba", func := "frankpledge/frankpledgelaw20.ServerCrash", spec := "serverCrash", inPlace := ["slices.overlaps[frankpledge/lease.Entry]"], unfollowed := true, recurses := true, apart := false, narrowed := true }
def ServerCrashUptoSaid : Prop := serverCrashUptoRow.holds Tryz.pinned (OpenSpec.upto serverCrashSpec)

/-- 'frankpledgelaw20.ServerNumbers', WHERE WHAT IT READS IS OF BULK AT MOST 1048576: true; the input reads as it did. -/
def serverNumbersUptoRow : OpenClaim := { program := "ytfjedpipdnlkfaagreat", sum := "2e592ad195deedbbc29470954ac12c4168979b5cd2f6821eb0dfafe3f6f006ba", func := "frankpledge/frankpledgelaw20.ServerNumbers", spec := "serverNumbers", inPlace := ["slices.overlaps[frankpledge/lease.Entry]"], unfollowed := true, recurses := true, apart := false, narrowed := true }
def ServerNumbersUptoSaid : Prop := serverNumbersUptoRow.holds Tryz.pinned (OpenSpec.upto serverNumbersSpec)

/-- 'frankpledgelaw20.ServerPlays', WHERE WHAT IT READS IS OF BULK AT MOST 1048576: true; the input reads as it did. -/
def serverPlaysUptoRow : OpenClaim := { program := "ytfjedpipdnlkfaagreat", sum := "2e592ad195deedbbc29470954ac12c4168979b5cd2f6821eb0dfafe3f6f006ba", func := "frankpledge/frankpledgelaw20.ServerPlays", spec := "serverPlays", inPlace := ["slices.overlaps[frankpledge/lease.Entry]"], unfollowed := true, recurses := true, apart := false, narrowed := true }
def ServerPlaysUptoSaid : Prop := serverPlaysUptoRow.holds Tryz.pinned (OpenSpec.upto serverPlaysSpec)

end Rows
end Go.Proofs.YtfjedpipdnlkfaaGreat
