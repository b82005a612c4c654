/-
  NARROWER THAN 'FOR EVERY INPUT', by the rows' own cells (each row's printed sentence says how): TypingTrees: loops.
  DERIVED. THE GIVEN ROWS OF THIS SEAT. 6 by the template 'for every input the law returns true; each argument reads behind the call as it read before'; 0 by the template 'total and deterministic' (their statements: YtppbeklokajeaaaGreatTotals.lean).
  GIVEN WITH THE SEED: the statements are not yours to turn. If you find one false, say at which input.
  Laid BY PROGRAM, IN A SANDBOX (cutbox-rows.mjs): the forced cells as the released guide's own fill.sh prints them over the translation 308e007f18b1ef73… (all of the seat's roots in one cut). By AI agents, Wed Nov 11 2026. No macro, syntax, notation, axiom, sorry.
-/
import Derived.Test.YtppbeklokajeaaaGreatChecked
import GoSem.Claim
import GoSem.ClaimJoined
import GoSem.ClaimMapViews
import Derived.JoinedTies
import Derived.KernelRfl
namespace Go.Proofs.YtppbeklokajeaaaGreat
/- THE CELL 'sum', in the pinned program and in every row, IS THE sha256 OF THE DUMP (.gsa) THAT YtppbeklokajeaaaGreatProg.lean LOADS. Nothing in Lean hashes anything: it is a label: what it is worth is what the hold of that sum in a sandbox is worth. -/
noncomputable def Tryz.pinned : Pinned := { name := "ytppbeklokajeaaagreat", sum := "308e007f18b1ef732d9e83fcf111e3fd025a9310b50919d99d37e89cf732aba1", checked := Tryz.checked }
namespace Rows
def none {H : Type} : Left H := { results := [], args := [] }

/-- 'semvcslaw08.TypingTrees': WHATEVER THE INPUT: true; the input reads as it did. -/
def typingTreesSpec : ChangeSpec := { name := "typingTrees", fn := fun _ => fun
  | [d1, d2] => { results := [.lit (.bool true)], args := [d1, d2] }
  | _ => none }
def typingTreesRow : OpenClaim := { program := "ytppbeklokajeaaagreat", sum := "308e007f18b1ef732d9e83fcf111e3fd025a9310b50919d99d37e89cf732aba1", func := "semvcs/semvcslaw08.TypingTrees", spec := "typingTrees", inPlace := ["internal/bytealg.IndexByteString", "internal/bytealg.IndexString"], unfollowed := true, recurses := true, named := ["internal/bytealg.MaxLen"], loops := true, plainKeys := false, apart := false }
def TypingTreesSaid : Prop := typingTreesRow.holds Tryz.pinned (OpenSpec.ofChange typingTreesSpec)

/-- ITS FALSE NEIGHBOUR: 'it returns false'. Refute it at one input. -/
def typingTreesWrong : ChangeSpec := { name := "typingTrees", fn := fun _ => fun
  | [d1, d2] => { results := [.lit (.bool false)], args := [d1, d2] }
  | _ => none }
def TypingTreesWrongFalsely : Prop := typingTreesRow.holds Tryz.pinned (OpenSpec.ofChange typingTreesWrong)

/-- 'semvcslaw08.TypingErrors': WHATEVER THE INPUT: true; the input reads as it did. -/
def typingErrorsSpec : ChangeSpec := { name := "typingErrors", fn := fun _ => fun
  | [d] => { results := [.lit (.bool true)], args := [d] }
  | _ => none }
def typingErrorsRow : OpenClaim := { program := "ytppbeklokajeaaagreat", sum := "308e007f18b1ef732d9e83fcf111e3fd025a9310b50919d99d37e89cf732aba1", func := "semvcs/semvcslaw08.TypingErrors", spec := "typingErrors", inPlace := ["internal/bytealg.IndexByteString", "internal/bytealg.IndexString"], unfollowed := true, recurses := true, named := ["internal/bytealg.MaxLen"], plainKeys := false, apart := false }
def TypingErrorsSaid : Prop := typingErrorsRow.holds Tryz.pinned (OpenSpec.ofChange typingErrorsSpec)

/-- ITS FALSE NEIGHBOUR: 'it returns false'. Refute it at one input. -/
def typingErrorsWrong : ChangeSpec := { name := "typingErrors", fn := fun _ => fun
  | [d] => { results := [.lit (.bool false)], args := [d] }
  | _ => none }
def TypingErrorsWrongFalsely : Prop := typingErrorsRow.holds Tryz.pinned (OpenSpec.ofChange typingErrorsWrong)

/-- 'semvcslaw08.TypingOf': WHATEVER THE INPUT: true; the input reads as it did. -/
def typingOfSpec : ChangeSpec := { name := "typingOf", fn := fun _ => fun
  | [d] => { results := [.lit (.bool true)], args := [d] }
  | _ => none }
def typingOfRow : OpenClaim := { program := "ytppbeklokajeaaagreat", sum := "308e007f18b1ef732d9e83fcf111e3fd025a9310b50919d99d37e89cf732aba1", func := "semvcs/semvcslaw08.TypingOf", spec := "typingOf", inPlace := ["internal/bytealg.IndexByteString", "internal/bytealg.IndexString"], unfollowed := true, recurses := true, named := ["internal/bytealg.MaxLen"], plainKeys := false, apart := false }
def TypingOfSaid : Prop := typingOfRow.holds Tryz.pinned (OpenSpec.ofChange typingOfSpec)

/-- ITS FALSE NEIGHBOUR: 'it returns false'. Refute it at one input. -/
def typingOfWrong : ChangeSpec := { name := "typingOf", fn := fun _ => fun
  | [d] => { results := [.lit (.bool false)], args := [d] }
  | _ => none }
def TypingOfWrongFalsely : Prop := typingOfRow.holds Tryz.pinned (OpenSpec.ofChange typingOfWrong)

/-- 'semvcslaw08.TypingLayout': WHATEVER THE INPUT: true; the input reads as it did. -/
def typingLayoutSpec : ChangeSpec := { name := "typingLayout", fn := fun _ => fun
  | [d] => { results := [.lit (.bool true)], args := [d] }
  | _ => none }
def typingLayoutRow : OpenClaim := { program := "ytppbeklokajeaaagreat", sum := "308e007f18b1ef732d9e83fcf111e3fd025a9310b50919d99d37e89cf732aba1", func := "semvcs/semvcslaw08.TypingLayout", spec := "typingLayout", inPlace := ["internal/bytealg.IndexByteString", "internal/bytealg.IndexString"], unfollowed := true, recurses := true, named := ["internal/bytealg.MaxLen"], plainKeys := false, apart := false }
def TypingLayoutSaid : Prop := typingLayoutRow.holds Tryz.pinned (OpenSpec.ofChange typingLayoutSpec)

/-- ITS FALSE NEIGHBOUR: 'it returns false'. Refute it at one input. -/
def typingLayoutWrong : ChangeSpec := { name := "typingLayout", fn := fun _ => fun
  | [d] => { results := [.lit (.bool false)], args := [d] }
  | _ => none }
def TypingLayoutWrongFalsely : Prop := typingLayoutRow.holds Tryz.pinned (OpenSpec.ofChange typingLayoutWrong)

/-- 'semvcslaw08.TypingGood': WHATEVER THE INPUT: true; the input reads as it did. -/
def typingGoodSpec : ChangeSpec := { name := "typingGood", fn := fun _ => fun
  | [d1, d2, d3] => { results := [.lit (.bool true)], args := [d1, d2, d3] }
  | _ => none }
def typingGoodRow : OpenClaim := { program := "ytppbeklokajeaaagreat", sum := "308e007f18b1ef732d9e83fcf111e3fd025a9310b50919d99d37e89cf732aba1", func := "semvcs/semvcslaw08.TypingGood", spec := "typingGood", inPlace := ["internal/bytealg.IndexByteString", "internal/bytealg.IndexString"], unfollowed := true, recurses := true, named := ["internal/bytealg.MaxLen"], plainKeys := false, apart := false }
def TypingGoodSaid : Prop := typingGoodRow.holds Tryz.pinned (OpenSpec.ofChange typingGoodSpec)

/-- ITS FALSE NEIGHBOUR: 'it returns false'. Refute it at one input. -/
def typingGoodWrong : ChangeSpec := { name := "typingGood", fn := fun _ => fun
  | [d1, d2, d3] => { results := [.lit (.bool false)], args := [d1, d2, d3] }
  | _ => none }
def TypingGoodWrongFalsely : Prop := typingGoodRow.holds Tryz.pinned (OpenSpec.ofChange typingGoodWrong)

/-- 'semvcslaw08.TypingHoles': WHATEVER THE INPUT: true; the input reads as it did. -/
def typingHolesSpec : ChangeSpec := { name := "typingHoles", fn := fun _ => fun
  | [d] => { results := [.lit (.bool true)], args := [d] }
  | _ => none }
def typingHolesRow : OpenClaim := { program := "ytppbeklokajeaaagreat", sum := "308e007f18b1ef732d9e83fcf111e3fd025a9310b50919d99d37e89cf732aba1", func := "semvcs/semvcslaw08.TypingHoles", spec := "typingHoles", inPlace := ["internal/bytealg.IndexByteString", "internal/bytealg.IndexString"], unfollowed := true, recurses := true, named := ["internal/bytealg.MaxLen"], plainKeys := false, apart := false }
def TypingHolesSaid : Prop := typingHolesRow.holds Tryz.pinned (OpenSpec.ofChange typingHolesSpec)

/-- ITS FALSE NEIGHBOUR: 'it returns false'. Refute it at one input. -/
def typingHolesWrong : ChangeSpec := { name := "typingHoles", fn := fun _ => fun
  | [d] => { results := [.lit (.bool false)], args := [d] }
  | _ => none }
def TypingHolesWrongFalsely : Prop := typingHolesRow.holds Tryz.pinned (OpenSpec.ofChange typingHolesWrong)

/- THE SECOND FORM. 'bulk': how many values and letters a reading holds, each counted each time it is reached (what is shared counts as often as it is met; a slice's spare places count too). A statement '..UptoSaid' is the law's where the arguments, and the package variables that the reading takes, are together of bulk at most 1048576: NARROWER than '..Said'. Prove '..Said' where nothing that the law and all that it calls make is longer than what came in: it says more and counts as full. Else prove '..UptoSaid'. A law counts once. -/
mutual
def uptoBulk {H : Type} : DataW H → Nat
  | .lit (.string bytes) => bytes.length + 1
  | .lit _ => 1
  | .nil => 1
  | .ptr d => uptoBulk d + 1
  | .slice elems spare => uptoBulkAll elems + uptoBulkAll spare + 1
  | .agg parts => uptoBulkAll parts + 1
  | .iface _ d => uptoBulk d + 1
  | .map entries => uptoBulkEntries entries + 1
  | .held _ => 1
def uptoBulkAll {H : Type} : List (DataW H) → Nat
  | [] => 0
  | d :: r => uptoBulk d + uptoBulkAll r
def uptoBulkEntries {H : Type} : List (Lit × DataW H) → Nat
  | [] => 0
  | x :: r => uptoBulkEntry x + uptoBulkEntries r
def uptoBulkEntry {H : Type} : Lit × DataW H → Nat
  | (.string bytes, d) => bytes.length + uptoBulk d + 1
  | (_, d) => uptoBulk d + 1
 end
def uptoSmall : (H : Type) → List (DataW H) → Bool := fun _ ds => decide (uptoBulkAll ds ≤ 1048576)
def OpenSpec.upto (s : _root_.Go.ChangeSpec) : _root_.Go.OpenSpec := { _root_.Go.OpenSpec.ofChange s with cond := some uptoSmall }

/-- 'semvcslaw08.TypingTrees', WHERE WHAT IT READS IS OF BULK AT MOST 1048576: true; the input reads as it did. -/
def typingTreesUptoRow : OpenClaim := { program := "ytppbeklokajeaaagreat", sum := "308e007f18b1ef732d9e83fcf111e3fd025a9310b50919d99d37e89cf732aba1", func := "semvcs/semvcslaw08.TypingTrees", spec := "typingTrees", inPlace := ["internal/bytealg.IndexByteString", "internal/bytealg.IndexString"], unfollowed := true, recurses := true, named := ["internal/bytealg.MaxLen"], loops := true, plainKeys := false, apart := false, narrowed := true }
def TypingTreesUptoSaid : Prop := typingTreesUptoRow.holds Tryz.pinned (OpenSpec.upto typingTreesSpec)

/-- 'semvcslaw08.TypingErrors', WHERE WHAT IT READS IS OF BULK AT MOST 1048576: true; the input reads as it did. -/
def typingErrorsUptoRow : OpenClaim := { program := "ytppbeklokajeaaagreat", sum := "308e007f18b1ef732d9e83fcf111e3fd025a9310b50919d99d37e89cf732aba1", func := "semvcs/semvcslaw08.TypingErrors", spec := "typingErrors", inPlace := ["internal/bytealg.IndexByteString", "internal/bytealg.IndexString"], unfollowed := true, recurses := true, named := ["internal/bytealg.MaxLen"], plainKeys := false, apart := false, narrowed := true }
def TypingErrorsUptoSaid : Prop := typingErrorsUptoRow.holds Tryz.pinned (OpenSpec.upto typingErrorsSpec)

/-- 'semvcslaw08.TypingOf', WHERE WHAT IT READS IS OF BULK AT MOST 1048576: true; the input reads as it did. -/
def typingOfUptoRow : OpenClaim := { program := "ytppbeklokajeaaagreat", sum := "308e007f18b1ef732d9e83fcf111e3fd025a9310b50919d99d37e89cf732aba1", func := "semvcs/semvcslaw08.TypingOf", spec := "typingOf", inPlace := ["internal/bytealg.IndexByteString", "internal/bytealg.IndexString"], unfollowed := true, recurses := true, named := ["internal/bytealg.MaxLen"], plainKeys := false, apart := false, narrowed := true }
def TypingOfUptoSaid : Prop := typingOfUptoRow.holds Tryz.pinned (OpenSpec.upto typingOfSpec)

/-- 'semvcslaw08.TypingLayout', WHERE WHAT IT READS IS OF BULK AT MOST 1048576: true; the input reads as it did. -/
def typingLayoutUptoRow : OpenClaim := { program := "ytppbeklokajeaaagreat", sum := "308e007f18b1ef732d9e83fcf111e3fd025a9310b50919d99d37e89cf732aba1", func := "semvcs/semvcslaw08.TypingLayout", spec := "typingLayout", inPlace := ["internal/bytealg.IndexByteString", "internal/bytealg.IndexString"], unfollowed := true, recurses := true, named := ["internal/bytealg.MaxLen"], plainKeys := false, apart := false, narrowed := true }
def TypingLayoutUptoSaid : Prop := typingLayoutUptoRow.holds Tryz.pinned (OpenSpec.upto typingLayoutSpec)

/-- 'semvcslaw08.TypingGood', WHERE WHAT IT READS IS OF BULK AT MOST 1048576: true; the input reads as it did. -/
def typingGoodUptoRow : OpenClaim := { program := "ytppbeklokajeaaagreat", sum := "308e007f18b1ef732d9e83fcf111e3fd025a9310b50919d99d37e89cf732aba1", func := "semvcs/semvcslaw08.TypingGood", spec := "typingGood", inPlace := ["internal/bytealg.IndexByteString", "internal/bytealg.IndexString"], unfollowed := true, recurses := true, named := ["internal/bytealg.MaxLen"], plainKeys := false, apart := false, narrowed := true }
def TypingGoodUptoSaid : Prop := typingGoodUptoRow.holds Tryz.pinned (OpenSpec.upto typingGoodSpec)

/-- 'semvcslaw08.TypingHoles', WHERE WHAT IT READS IS OF BULK AT MOST 1048576: true; the input reads as it did. -/
def typingHolesUptoRow : OpenClaim := { program := "ytppbeklokajeaaagreat", sum := "308e007f18b1ef732d9e83fcf111e3fd025a9310b50919d99d37e89cf732aba1", func := "semvcs/semvcslaw08.TypingHoles", spec := "typingHoles", inPlace := ["internal/bytealg.IndexByteString", "internal/bytealg.IndexString"], unfollowed := true, recurses := true, named := ["internal/bytealg.MaxLen"], plainKeys := false, apart := false, narrowed := true }
def TypingHolesUptoSaid : Prop := typingHolesUptoRow.holds Tryz.pinned (OpenSpec.upto typingHolesSpec)

end Rows
end Go.Proofs.YtppbeklokajeaaaGreat
