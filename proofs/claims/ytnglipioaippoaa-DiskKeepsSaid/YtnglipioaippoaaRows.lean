/-
  No cell of these rows narrows 'for every input' (looked for: loops, veiled, ifaces, maps, wideKeys, modest, calm, conditions, laid).
  DERIVED. THE GIVEN ROWS OF THIS SEAT. 8 by the template 'for every input the law returns true; each argument reads behind the call as it read before'; 0 by the template 'total and deterministic' (their statements: YtnglipioaippoaaTotals.lean).
  GIVEN WITH THE SEED: the statements are not yours to turn. If you find one false, say at which input.
  Laid BY PROGRAM, IN A SANDBOX (cutbox-rows.mjs): the forced cells as the released guide's own fill.sh prints them over the translation 3993b6e6570286fb… (all of the seat's roots in one cut). By AI agents, Wed Nov 11 2026. No macro, syntax, notation, axiom, sorry.
-/
import Derived.Test.YtnglipioaippoaaChecked
import GoSem.Claim
import GoSem.ClaimJoined
import GoSem.ClaimMapViews
import Derived.JoinedTies
import Derived.KernelRfl
namespace Go.Proofs.Ytnglipioaippoaa
/- THE CELL 'sum', in the pinned program and in every row, IS THE sha256 OF THE DUMP (.gsa) THAT YtnglipioaippoaaProg.lean LOADS. Nothing in Lean hashes anything: it is a label: what it is worth is what the hold of that sum in a sandbox is worth. -/
noncomputable def Try.pinned : Pinned := { name := "ytnglipioaippoaa", sum := "3993b6e6570286fbbcc552690ec15e29b5a638781c1149634b520dc0565ffeee", checked := Try.checked }
namespace Rows
def none {H : Type} : Left H := { results := [], args := [] }

/-- 'semvcslaw40.DiskKeeps': WHATEVER THE INPUT: true; the input reads as it did. -/
def diskKeepsSpec : ChangeSpec := { name := "diskKeeps", fn := fun _ => fun
  | [d1, d2, d3, d4, d5, d6] => { results := [.lit (.bool true)], args := [d1, d2, d3, d4, d5, d6] }
  | _ => none }
def diskKeepsRow : OpenClaim := { program := "ytnglipioaippoaa", sum := "3993b6e6570286fbbcc552690ec15e29b5a638781c1149634b520dc0565ffeee", func := "semvcs/semvcslaw40.DiskKeeps", spec := "diskKeeps", apart := false }
def DiskKeepsSaid : Prop := diskKeepsRow.holds Try.pinned (OpenSpec.ofChange diskKeepsSpec)

/-- ITS FALSE NEIGHBOUR: 'it returns false'. Refute it at one input. -/
def diskKeepsWrong : ChangeSpec := { name := "diskKeeps", fn := fun _ => fun
  | [d1, d2, d3, d4, d5, d6] => { results := [.lit (.bool false)], args := [d1, d2, d3, d4, d5, d6] }
  | _ => none }
def DiskKeepsWrongFalsely : Prop := diskKeepsRow.holds Try.pinned (OpenSpec.ofChange diskKeepsWrong)

/-- 'semvcslaw40.DiskFull': WHATEVER THE INPUT: true; the input reads as it did. -/
def diskFullSpec : ChangeSpec := { name := "diskFull", fn := fun _ => fun
  | [d] => { results := [.lit (.bool true)], args := [d] }
  | _ => none }
def diskFullRow : OpenClaim := { program := "ytnglipioaippoaa", sum := "3993b6e6570286fbbcc552690ec15e29b5a638781c1149634b520dc0565ffeee", func := "semvcs/semvcslaw40.DiskFull", spec := "diskFull", apart := false }
def DiskFullSaid : Prop := diskFullRow.holds Try.pinned (OpenSpec.ofChange diskFullSpec)

/-- ITS FALSE NEIGHBOUR: 'it returns false'. Refute it at one input. -/
def diskFullWrong : ChangeSpec := { name := "diskFull", fn := fun _ => fun
  | [d] => { results := [.lit (.bool false)], args := [d] }
  | _ => none }
def DiskFullWrongFalsely : Prop := diskFullRow.holds Try.pinned (OpenSpec.ofChange diskFullWrong)

/-- 'semvcslaw40.DiskSizes': WHATEVER THE INPUT: true; the input reads as it did. -/
def diskSizesSpec : ChangeSpec := { name := "diskSizes", fn := fun _ => fun
  | [d1, d2] => { results := [.lit (.bool true)], args := [d1, d2] }
  | _ => none }
def diskSizesRow : OpenClaim := { program := "ytnglipioaippoaa", sum := "3993b6e6570286fbbcc552690ec15e29b5a638781c1149634b520dc0565ffeee", func := "semvcs/semvcslaw40.DiskSizes", spec := "diskSizes", apart := false }
def DiskSizesSaid : Prop := diskSizesRow.holds Try.pinned (OpenSpec.ofChange diskSizesSpec)

/-- ITS FALSE NEIGHBOUR: 'it returns false'. Refute it at one input. -/
def diskSizesWrong : ChangeSpec := { name := "diskSizes", fn := fun _ => fun
  | [d1, d2] => { results := [.lit (.bool false)], args := [d1, d2] }
  | _ => none }
def DiskSizesWrongFalsely : Prop := diskSizesRow.holds Try.pinned (OpenSpec.ofChange diskSizesWrong)

/-- 'semvcslaw41.LogOff': WHATEVER THE INPUT: true; the input reads as it did. -/
def logOffSpec : ChangeSpec := { name := "logOff", fn := fun _ => fun
  | [d] => { results := [.lit (.bool true)], args := [d] }
  | _ => none }
def logOffRow : OpenClaim := { program := "ytnglipioaippoaa", sum := "3993b6e6570286fbbcc552690ec15e29b5a638781c1149634b520dc0565ffeee", func := "semvcs/semvcslaw41.LogOff", spec := "logOff", unfollowed := true, recurses := true, apart := false }
def LogOffSaid : Prop := logOffRow.holds Try.pinned (OpenSpec.ofChange logOffSpec)

/-- ITS FALSE NEIGHBOUR: 'it returns false'. Refute it at one input. -/
def logOffWrong : ChangeSpec := { name := "logOff", fn := fun _ => fun
  | [d] => { results := [.lit (.bool false)], args := [d] }
  | _ => none }
def LogOffWrongFalsely : Prop := logOffRow.holds Try.pinned (OpenSpec.ofChange logOffWrong)

/-- 'semvcslaw41.LogKeeps': WHATEVER THE INPUT: true; the input reads as it did. -/
def logKeepsSpec : ChangeSpec := { name := "logKeeps", fn := fun _ => fun
  | [d1, d2, d3, d4, d5] => { results := [.lit (.bool true)], args := [d1, d2, d3, d4, d5] }
  | _ => none }
def logKeepsRow : OpenClaim := { program := "ytnglipioaippoaa", sum := "3993b6e6570286fbbcc552690ec15e29b5a638781c1149634b520dc0565ffeee", func := "semvcs/semvcslaw41.LogKeeps", spec := "logKeeps", unfollowed := true, recurses := true, apart := false }
def LogKeepsSaid : Prop := logKeepsRow.holds Try.pinned (OpenSpec.ofChange logKeepsSpec)

/-- ITS FALSE NEIGHBOUR: 'it returns false'. Refute it at one input. -/
def logKeepsWrong : ChangeSpec := { name := "logKeeps", fn := fun _ => fun
  | [d1, d2, d3, d4, d5] => { results := [.lit (.bool false)], args := [d1, d2, d3, d4, d5] }
  | _ => none }
def LogKeepsWrongFalsely : Prop := logKeepsRow.holds Try.pinned (OpenSpec.ofChange logKeepsWrong)

/-- 'semvcslaw41.LogOpens': WHATEVER THE INPUT: true; the input reads as it did. -/
def logOpensSpec : ChangeSpec := { name := "logOpens", fn := fun _ => fun
  | [d1, d2, d3] => { results := [.lit (.bool true)], args := [d1, d2, d3] }
  | _ => none }
def logOpensRow : OpenClaim := { program := "ytnglipioaippoaa", sum := "3993b6e6570286fbbcc552690ec15e29b5a638781c1149634b520dc0565ffeee", func := "semvcs/semvcslaw41.LogOpens", spec := "logOpens", unfollowed := true, recurses := true, apart := false }
def LogOpensSaid : Prop := logOpensRow.holds Try.pinned (OpenSpec.ofChange logOpensSpec)

/-- ITS FALSE NEIGHBOUR: 'it returns false'. Refute it at one input. -/
def logOpensWrong : ChangeSpec := { name := "logOpens", fn := fun _ => fun
  | [d1, d2, d3] => { results := [.lit (.bool false)], args := [d1, d2, d3] }
  | _ => none }
def LogOpensWrongFalsely : Prop := logOpensRow.holds Try.pinned (OpenSpec.ofChange logOpensWrong)

/-- 'semvcslaw41.LogResets': WHATEVER THE INPUT: true; the input reads as it did. -/
def logResetsSpec : ChangeSpec := { name := "logResets", fn := fun _ => fun
  | [d1, d2, d3, d4, d5] => { results := [.lit (.bool true)], args := [d1, d2, d3, d4, d5] }
  | _ => none }
def logResetsRow : OpenClaim := { program := "ytnglipioaippoaa", sum := "3993b6e6570286fbbcc552690ec15e29b5a638781c1149634b520dc0565ffeee", func := "semvcs/semvcslaw41.LogResets", spec := "logResets", unfollowed := true, recurses := true, apart := false }
def LogResetsSaid : Prop := logResetsRow.holds Try.pinned (OpenSpec.ofChange logResetsSpec)

/-- ITS FALSE NEIGHBOUR: 'it returns false'. Refute it at one input. -/
def logResetsWrong : ChangeSpec := { name := "logResets", fn := fun _ => fun
  | [d1, d2, d3, d4, d5] => { results := [.lit (.bool false)], args := [d1, d2, d3, d4, d5] }
  | _ => none }
def LogResetsWrongFalsely : Prop := logResetsRow.holds Try.pinned (OpenSpec.ofChange logResetsWrong)

/-- 'semvcslaw41.LogPlays': WHATEVER THE INPUT: true; the input reads as it did. -/
def logPlaysSpec : ChangeSpec := { name := "logPlays", fn := fun _ => fun
  | [d1, d2] => { results := [.lit (.bool true)], args := [d1, d2] }
  | _ => none }
def logPlaysRow : OpenClaim := { program := "ytnglipioaippoaa", sum := "3993b6e6570286fbbcc552690ec15e29b5a638781c1149634b520dc0565ffeee", func := "semvcs/semvcslaw41.LogPlays", spec := "logPlays", unfollowed := true, recurses := true, apart := false }
def LogPlaysSaid : Prop := logPlaysRow.holds Try.pinned (OpenSpec.ofChange logPlaysSpec)

/-- ITS FALSE NEIGHBOUR: 'it returns false'. Refute it at one input. -/
def logPlaysWrong : ChangeSpec := { name := "logPlays", fn := fun _ => fun
  | [d1, d2] => { results := [.lit (.bool false)], args := [d1, d2] }
  | _ => none }
def LogPlaysWrongFalsely : Prop := logPlaysRow.holds Try.pinned (OpenSpec.ofChange logPlaysWrong)

/- THE SECOND FORM. 'bulk': how many values and letters a reading holds, each counted each time it is reached (what is shared counts as often as it is met; a slice's spare places count too). A statement '..UptoSaid' is the law's where the arguments, and the package variables that the reading takes, are together of bulk at most 1048576: NARROWER than '..Said'. Prove '..Said' where nothing that the law and all that it calls make is longer than what came in: it says more and counts as full. Else prove '..UptoSaid'. A law counts once. -/
mutual
def uptoBulk {H : Type} : DataW H → Nat
  | .lit (.string bytes) => bytes.length + 1
  | .lit _ => 1
  | .nil => 1
  | .ptr d => uptoBulk d + 1
  | .slice elems spare => uptoBulkAll elems + uptoBulkAll spare + 1
  | .agg parts => uptoBulkAll parts + 1
  | .iface _ d => uptoBulk d + 1
  | .map entries => uptoBulkEntries entries + 1
  | .held _ => 1
def uptoBulkAll {H : Type} : List (DataW H) → Nat
  | [] => 0
  | d :: r => uptoBulk d + uptoBulkAll r
def uptoBulkEntries {H : Type} : List (Lit × DataW H) → Nat
  | [] => 0
  | x :: r => uptoBulkEntry x + uptoBulkEntries r
def uptoBulkEntry {H : Type} : Lit × DataW H → Nat
  | (.string bytes, d) => bytes.length + uptoBulk d + 1
  | (_, d) => uptoBulk d + 1
 end
def uptoSmall : (H : Type) → List (DataW H) → Bool := fun _ ds => decide (uptoBulkAll ds ≤ 1048576)
def OpenSpec.upto (s : _root_.Go.ChangeSpec) : _root_.Go.OpenSpec := { _root_.Go.OpenSpec.ofChange s with cond := some uptoSmall }

/-- 'semvcslaw40.DiskKeeps', WHERE WHAT IT READS IS OF BULK AT MOST 1048576: true; the input reads as it did. -/
def diskKeepsUptoRow : OpenClaim := { program := "ytnglipioaippoaa", sum := "3993b6e6570286fbbcc552690ec15e29b5a638781c1149634b520dc0565ffeee", func := "semvcs/semvcslaw40.DiskKeeps", spec := "diskKeeps", apart := false, narrowed := true }
def DiskKeepsUptoSaid : Prop := diskKeepsUptoRow.holds Try.pinned (OpenSpec.upto diskKeepsSpec)

/-- 'semvcslaw40.DiskFull', WHERE WHAT IT READS IS OF BULK AT MOST 1048576: true; the input reads as it did. -/
def diskFullUptoRow : OpenClaim := { program := "ytnglipioaippoaa", sum := "3993b6e6570286fbbcc552690ec15e29b5a638781c1149634b520dc0565ffeee", func := "semvcs/semvcslaw40.DiskFull", spec := "diskFull", apart := false, narrowed := true }
def DiskFullUptoSaid : Prop := diskFullUptoRow.holds Try.pinned (OpenSpec.upto diskFullSpec)

/-- 'semvcslaw40.DiskSizes', WHERE WHAT IT READS IS OF BULK AT MOST 1048576: true; the input reads as it did. -/
def diskSizesUptoRow : OpenClaim := { program := "ytnglipioaippoaa", sum := "3993b6e6570286fbbcc552690ec15e29b5a638781c1149634b520dc0565ffeee", func := "semvcs/semvcslaw40.DiskSizes", spec := "diskSizes", apart := false, narrowed := true }
def DiskSizesUptoSaid : Prop := diskSizesUptoRow.holds Try.pinned (OpenSpec.upto diskSizesSpec)

/-- 'semvcslaw41.LogOff', WHERE WHAT IT READS IS OF BULK AT MOST 1048576: true; the input reads as it did. -/
def logOffUptoRow : OpenClaim := { program := "ytnglipioaippoaa", sum := "3993b6e6570286fbbcc552690ec15e29b5a638781c1149634b520dc0565ffeee", func := "semvcs/semvcslaw41.LogOff", spec := "logOff", unfollowed := true, recurses := true, apart := false, narrowed := true }
def LogOffUptoSaid : Prop := logOffUptoRow.holds Try.pinned (OpenSpec.upto logOffSpec)

/-- 'semvcslaw41.LogKeeps', WHERE WHAT IT READS IS OF BULK AT MOST 1048576: true; the input reads as it did. -/
def logKeepsUptoRow : OpenClaim := { program := "ytnglipioaippoaa", sum := "3993b6e6570286fbbcc552690ec15e29b5a638781c1149634b520dc0565ffeee", func := "semvcs/semvcslaw41.LogKeeps", spec := "logKeeps", unfollowed := true, recurses := true, apart := false, narrowed := true }
def LogKeepsUptoSaid : Prop := logKeepsUptoRow.holds Try.pinned (OpenSpec.upto logKeepsSpec)

/-- 'semvcslaw41.LogOpens', WHERE WHAT IT READS IS OF BULK AT MOST 1048576: true; the input reads as it did. -/
def logOpensUptoRow : OpenClaim := { program := "ytnglipioaippoaa", sum := "3993b6e6570286fbbcc552690ec15e29b5a638781c1149634b520dc0565ffeee", func := "semvcs/semvcslaw41.LogOpens", spec := "logOpens", unfollowed := true, recurses := true, apart := false, narrowed := true }
def LogOpensUptoSaid : Prop := logOpensUptoRow.holds Try.pinned (OpenSpec.upto logOpensSpec)

/-- 'semvcslaw41.LogResets', WHERE WHAT IT READS IS OF BULK AT MOST 1048576: true; the input reads as it did. -/
def logResetsUptoRow : OpenClaim := { program := "ytnglipioaippoaa", sum := "3993b6e6570286fbbcc552690ec15e29b5a638781c1149634b520dc0565ffeee", func := "semvcs/semvcslaw41.LogResets", spec := "logResets", unfollowed := true, recurses := true, apart := false, narrowed := true }
def LogResetsUptoSaid : Prop := logResetsUptoRow.holds Try.pinned (OpenSpec.upto logResetsSpec)

/-- 'semvcslaw41.LogPlays', WHERE WHAT IT READS IS OF BULK AT MOST 1048576: true; the input reads as it did. -/
def logPlaysUptoRow : OpenClaim := { program := "ytnglipioaippoaa", sum := "3993b6e6570286fbbcc552690ec15e29b5a638781c1149634b520dc0565ffeee", func := "semvcs/semvcslaw41.LogPlays", spec := "logPlays", unfollowed := true, recurses := true, apart := false, narrowed := true }
def LogPlaysUptoSaid : Prop := logPlaysUptoRow.holds Try.pinned (OpenSpec.upto logPlaysSpec)

end Rows
end Go.Proofs.Ytnglipioaippoaa
