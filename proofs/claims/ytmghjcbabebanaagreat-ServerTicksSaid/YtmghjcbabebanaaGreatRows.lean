/-
  No cell of these rows narrows 'for every input' (looked for: loops, veiled, ifaces, maps, wideKeys, modest, calm, conditions, laid).
  DERIVED. THE GIVEN ROWS OF THIS SEAT. 5 by the template 'for every input the law returns true; each argument reads behind the call as it read before'; 0 by the template 'total and deterministic' (their statements: YtmghjcbabebanaaGreatTotals.lean).
  GIVEN WITH THE SEED: the statements are not yours to turn. If you find one false, say at which input.
  Laid BY PROGRAM, IN A SANDBOX (cutbox-rows.mjs): the forced cells as the released guide's own fill.sh prints them over the translation ece46f098577d3b4… (all of the seat's roots in one cut). By AI agents, Wed Nov 11 2026. No macro, syntax, notation, axiom, sorry.
-/
import Derived.Test.YtmghjcbabebanaaGreatChecked
import GoSem.Claim
import GoSem.ClaimJoined
import GoSem.ClaimMapViews
import Derived.JoinedTies
import Derived.KernelRfl
namespace Go.Proofs.YtmghjcbabebanaaGreat
/- THE CELL 'sum', in the pinned program and in every row, IS THE sha256 OF THE DUMP (.gsa) THAT YtmghjcbabebanaaGreatProg.lean LOADS. Nothing in Lean hashes anything: it is a label: what it is worth is what the hold of that sum in a sandbox is worth. -/
noncomputable def Tryz.pinned : Pinned := { name := "ytmghjcbabebanaagreat", sum := "ece46f098577d3b45a3a0c7892d05dc23e20a1e6024a8eac77fc09e31bc97206", checked := Tryz.checked }
namespace Rows
def none {H : Type} : Left H := { results := [], args := [] }

/-- 'frankpledgelaw20.ServerTicks': WHATEVER THE INPUT: true; the input reads as it did. -/
def serverTicksSpec : ChangeSpec := { name := "serverTicks", fn := fun _ => fun
  | [d1, d2] => { results := [.lit (.bool true)], args := [d1, d2] }
  | _ => none }
def serverTicksRow : OpenClaim := { program := "ytmghjcbabebanaagreat", sum := "ece46f098577d3b45a3a0c7892d05dc23e20a1e6024a8eac77fc09e31bc97206", func := "frankpledge/frankpledgelaw20.ServerTicks", spec := "serverTicks", inPlace := ["slices.overlaps[frankpledge/lease.Entry]"], unfollowed := true, recurses := true, apart := false }
def ServerTicksSaid : Prop := serverTicksRow.holds Tryz.pinned (OpenSpec.ofChange serverTicksSpec)

/-- ITS FALSE NEIGHBOUR: 'it returns false'. Refute it at one input. -/
def serverTicksWrong : ChangeSpec := { name := "serverTicks", fn := fun _ => fun
  | [d1, d2] => { results := [.lit (.bool false)], args := [d1, d2] }
  | _ => none }
def ServerTicksWrongFalsely : Prop := serverTicksRow.holds Tryz.pinned (OpenSpec.ofChange serverTicksWrong)

/-- 'frankpledgelaw20.ServerPairs': WHATEVER THE INPUT: true; the input reads as it did. -/
def serverPairsSpec : ChangeSpec := { name := "serverPairs", fn := fun _ => fun
  | [d1, d2] => { results := [.lit (.bool true)], args := [d1, d2] }
  | _ => none }
def serverPairsRow : OpenClaim := { program := "ytmghjcbabebanaagreat", sum := "ece46f098577d3b45a3a0c7892d05dc23e20a1e6024a8eac77fc09e31bc97206", func := "frankpledge/frankpledgelaw20.ServerPairs", spec := "serverPairs", inPlace := ["slices.overlaps[frankpledge/lease.Entry]"], unfollowed := true, recurses := true, apart := false }
def ServerPairsSaid : Prop := serverPairsRow.holds Tryz.pinned (OpenSpec.ofChange serverPairsSpec)

/-- ITS FALSE NEIGHBOUR: 'it returns false'. Refute it at one input. -/
def serverPairsWrong : ChangeSpec := { name := "serverPairs", fn := fun _ => fun
  | [d1, d2] => { results := [.lit (.bool false)], args := [d1, d2] }
  | _ => none }
def ServerPairsWrongFalsely : Prop := serverPairsRow.holds Tryz.pinned (OpenSpec.ofChange serverPairsWrong)

/-- 'frankpledgelaw20.ServerCrash': WHATEVER THE INPUT: true; the input reads as it did. -/
def serverCrashSpec : ChangeSpec := { name := "serverCrash", fn := fun _ => fun
  | [d1, d2] => { results := [.lit (.bool true)], args := [d1, d2] }
  | _ => none }
def serverCrashRow : OpenClaim := { program := "ytmghjcbabebanaagreat", sum := "ece46f098577d3b45a3a0c7892d05dc23e20a1e6024a8eac77fc09e31bc97206", func := "frankpledge/frankpledgelaw20.ServerCrash", spec := "serverCrash", inPlace := ["slices.overlaps[frankpledge/lease.Entry]"], unfollowed := true, recurses := true, apart := false }
def ServerCrashSaid : Prop := serverCrashRow.holds Tryz.pinned (OpenSpec.ofChange serverCrashSpec)

/-- ITS FALSE NEIGHBOUR: 'it returns false'. Refute it at one input. -/
def serverCrashWrong : ChangeSpec := { name := "serverCrash", fn := fun _ => fun
  | [d1, d2] => { results := [.lit (.bool false)], args := [d1, d2] }
  | _ => none }
def ServerCrashWrongFalsely : Prop := serverCrashRow.holds Tryz.pinned (OpenSpec.ofChange serverCrashWrong)

/-- 'frankpledgelaw20.ServerNumbers': WHATEVER THE INPUT: true; the input reads as it did. -/
def serverNumbersSpec : ChangeSpec := { name := "serverNumbers", fn := fun _ => fun
  | [] => { results := [.lit (.bool true)], args := [] }
  | _ => none }
def serverNumbersRow : OpenClaim := { program := "ytmghjcbabebanaagreat", sum := "ece46f098577d3b45a3a0c7892d05dc23e20a1e6024a8eac77fc09e31bc97206", func := "frankpledge/frankpledgelaw20.ServerNumbers", spec := "serverNumbers", inPlace := ["slices.overlaps[frankpledge/lease.Entry]"], unfollowed := true, recurses := true, apart := false }
def ServerNumbersSaid : Prop := serverNumbersRow.holds Tryz.pinned (OpenSpec.ofChange serverNumbersSpec)

/-- ITS FALSE NEIGHBOUR: 'it returns false'. Refute it at one input. -/
def serverNumbersWrong : ChangeSpec := { name := "serverNumbers", fn := fun _ => fun
  | [] => { results := [.lit (.bool false)], args := [] }
  | _ => none }
def ServerNumbersWrongFalsely : Prop := serverNumbersRow.holds Tryz.pinned (OpenSpec.ofChange serverNumbersWrong)

/-- 'frankpledgelaw20.ServerPlays': WHATEVER THE INPUT: true; the input reads as it did. -/
def serverPlaysSpec : ChangeSpec := { name := "serverPlays", fn := fun _ => fun
  | [d1, d2, d3, d4] => { results := [.lit (.bool true)], args := [d1, d2, d3, d4] }
  | _ => none }
def serverPlaysRow : OpenClaim := { program := "ytmghjcbabebanaagreat", sum := "ece46f098577d3b45a3a0c7892d05dc23e20a1e6024a8eac77fc09e31bc97206", func := "frankpledge/frankpledgelaw20.ServerPlays", spec := "serverPlays", inPlace := ["slices.overlaps[frankpledge/lease.Entry]"], unfollowed := true, recurses := true, apart := false }
def ServerPlaysSaid : Prop := serverPlaysRow.holds Tryz.pinned (OpenSpec.ofChange serverPlaysSpec)

/-- ITS FALSE NEIGHBOUR: 'it returns false'. Refute it at one input. -/
def serverPlaysWrong : ChangeSpec := { name := "serverPlays", fn := fun _ => fun
  | [d1, d2, d3, d4] => { results := [.lit (.bool false)], args := [d1, d2, d3, d4] }
  | _ => none }
def ServerPlaysWrongFalsely : Prop := serverPlaysRow.holds Tryz.pinned (OpenSpec.ofChange serverPlaysWrong)

/- THE SECOND FORM. 'bulk': how many values and letters a reading holds, each counted each time it is reached (what is shared counts as often as it is met; a slice's spare places count too). A statement '..UptoSaid' is the law's where the arguments, and the package variables that the reading takes, are together of bulk at most 1048576: NARROWER than '..Said'. Prove '..Said' where nothing that the law and all that it calls make is longer than what came in: it says more and counts as full. Else prove '..UptoSaid'. A law counts once. -/
mutual
def uptoBulk {H : Type} : DataW H → Nat
  | .lit (.string bytes) => bytes.length + 1
  | .lit _ => 1
  | .nil => 1
  | .ptr d => uptoBulk d + 1
  | .slice elems spare => uptoBulkAll elems + uptoBulkAll spare + 1
  | .agg parts => uptoBulkAll parts + 1
  | .iface _ d => uptoBulk d + 1
  | .map entries => uptoBulkEntries entries + 1
  | .held _ => 1
def uptoBulkAll {H : Type} : List (DataW H) → Nat
  | [] => 0
  | d :: r => uptoBulk d + uptoBulkAll r
def uptoBulkEntries {H : Type} : List (Lit × DataW H) → Nat
  | [] => 0
  | x :: r => uptoBulkEntry x + uptoBulkEntries r
def uptoBulkEntry {H : Type} : Lit × DataW H → Nat
  | (.string bytes, d) => bytes.length + uptoBulk d + 1
  | (_, d) => uptoBulk d + 1
 end
def uptoSmall : (H : Type) → List (DataW H) → Bool := fun _ ds => decide (uptoBulkAll ds ≤ 1048576)
def OpenSpec.upto (s : _root_.Go.ChangeSpec) : _root_.Go.OpenSpec := { _root_.Go.OpenSpec.ofChange s with cond := some uptoSmall }

/-- 'frankpledgelaw20.ServerTicks', WHERE WHAT IT READS IS OF BULK AT MOST 1048576: true; the input reads as it did. -/
def serverTicksUptoRow : OpenClaim := { program := "ytmghjcbabebanaagreat", sum := "ece46f098577d3b45a3a0c7892d05dc23e20a1e6024a8eac77fc09e31bc97206", func := "frankpledge/frankpledgelaw20.ServerTicks", spec := "serverTicks", inPlace := ["slices.overlaps[frankpledge/lease.Entry]"], unfollowed := true, recurses := true, apart := false, narrowed := true }
def ServerTicksUptoSaid : Prop := serverTicksUptoRow.holds Tryz.pinned (OpenSpec.upto serverTicksSpec)

/-- 'frankpledgelaw20.ServerPairs', WHERE WHAT IT READS IS OF BULK AT MOST 1048576: true; the input reads as it did. -/
def serverPairsUptoRow : OpenClaim := { program := "ytmghjcbabebanaagreat", sum := "ece46f098577d3b45a3a0c7892d05dc23e20a1e6024a8eac77fc09e31bc97206", func := "frankpledge/frankpledgelaw20.ServerPairs", spec := "serverPairs", inPlace := ["slices.overlaps[frankpledge/lease.Entry]"], unfollowed := true, recurses := true, apart := false, narrowed := true }
def ServerPairsUptoSaid : Prop := serverPairsUptoRow.holds Tryz.pinned (OpenSpec.upto serverPairsSpec)

/-- 'frankpledgelaw20.ServerCrash', WHERE WHAT IT READS IS OF BULK AT MOST 1048576: true; the input reads as it did. -/
def serverCrashUptoRow : OpenClaim := { program := "ytmghjcbabebanaagreat", sum := "ece46f098577d3b45a3a0c7892d05dc23e20a1e6024a8eac77fc09e31bc97206", func := "frankpledge/frankpledgelaw20.ServerCrash", spec := "serverCrash", inPlace := ["slices.overlaps[frankpledge/lease.Entry]"], unfollowed := true, recurses := true, apart := false, narrowed := true }
def ServerCrashUptoSaid : Prop := serverCrashUptoRow.holds Tryz.pinned (OpenSpec.upto serverCrashSpec)

/-- 'frankpledgelaw20.ServerNumbers', WHERE WHAT IT READS IS OF BULK AT MOST 1048576: true; the input reads as it did. -/
def serverNumbersUptoRow : OpenClaim := { program := "ytmghjcbabebanaagreat", sum := "ece46f098577d3b45a3a0c7892d05dc23e20a1e6024a8eac77fc09e31bc97206", func := "frankpledge/frankpledgelaw20.ServerNumbers", spec := "serverNumbers", inPlace := ["slices.overlaps[frankpledge/lease.Entry]"], unfollowed := true, recurses := true, apart := false, narrowed := true }
def ServerNumbersUptoSaid : Prop := serverNumbersUptoRow.holds Tryz.pinned (OpenSpec.upto serverNumbersSpec)

/-- 'frankpledgelaw20.ServerPlays', WHERE WHAT IT READS IS OF BULK AT MOST 1048576: true; the input reads as it did. -/
def serverPlaysUptoRow : OpenClaim := { program := "ytmghjcbabebanaagreat", sum := "ece46f098577d3b45a3a0c7892d05dc23e20a1e6024a8eac77fc09e31bc97206", func := "frankpledge/frankpledgelaw20.ServerPlays", spec := "serverPlays", inPlace := ["slices.overlaps[frankpledge/lease.Entry]"], unfollowed := true, recurses := true, apart := false, narrowed := true }
def ServerPlaysUptoSaid : Prop := serverPlaysUptoRow.holds Tryz.pinned (OpenSpec.upto serverPlaysSpec)

end Rows
end Go.Proofs.YtmghjcbabebanaaGreat
