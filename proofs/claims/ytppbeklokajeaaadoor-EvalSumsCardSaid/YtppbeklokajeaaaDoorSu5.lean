/- The law on sums, reckoned. -/
import Derived.Test.YtppbeklokajeaaaDoorSu4
import Derived.Test.YtppbeklokajeaaaDoorAw
namespace Go.Proofs.YtppbeklokajeaaaDoor.T.Sums
open Go.Dx Go.Proofs

def tvG (B : List Fact) (L : Int) (k : IntKind) (j : Nat) : AV := match j with
  | 0 => .tok B k 2
  | 1 => .int k L
  | 2 => .tok B k 3
  | _ => .tok B k 4
/-- Where the blocks lie, read off the memory. -/
def places (σ : Heap) : List AV → List Nat
  | .ptr iM _ _ _ :: _ => match σ[iM]? with
    | some (.row _ _ [[.ptr iX _ _ _, _]] _ _) => match σ[iX]? with
      | some (.row _ _ [[_, .map a, .sl b _ _ _]] _ _) => match σ[b]? with
        | some (.row _ _ [[.map c]] _ _) => [iM, iX, a, b, c]
        | _ => []
      | _ => []
    | _ => []
  | _ => []
noncomputable def ovrT (B : List Fact) : CallF := fun f args σ => match Nat.beq (places σ args).length 5 with
  | true => ovr28 (places σ args) (tvG B 16384) f args σ
  | false => none
noncomputable def ovrP (B : List Fact) : CallF := fun f args σ => match Nat.beq f 16, args with
  | true, [.str s] => cond (eqB s.data.toList s5.data.toList) (some (v5, σ)) none
  | _, _ => ovrT B f args σ
noncomputable def ovrL (B : List Fact) : CallF := fun f args σ => match Nat.beq f 8, args with
  | true, [] => some (.bool true, σ)
  | _, _ => ovrP B f args σ
def factsP : List Fact := [⟨.rem, .i64, .tok 0, .lit 300, .tok 2⟩, ⟨.lss, .i64, .tok 2, .lit 0, .bool false⟩]
def factsN : List Fact := [⟨.rem, .i64, .tok 0, .lit 300, .tok 1⟩, ⟨.lss, .i64, .tok 1, .lit 0, .bool true⟩, ⟨.add, .i64, .tok 1, .lit 300, .tok 2⟩]
def factsR : List Fact := [⟨.sub, .i64, .lit 16384, .tok 4, .tok 5⟩, ⟨.mul, .i64, .lit 10, .tok 2, .tok 6⟩, ⟨.add, .i64, .tok 6, .lit 5, .tok 7⟩, ⟨.eql, .i64, .tok 5, .tok 7, .bool true⟩,
  ⟨.add, .i64, .tok 2, .lit 1, .tok 8⟩, ⟨.mul, .i64, .tok 2, .tok 8, .tok 9⟩, ⟨.quo, .i64, .tok 9, .lit 2, .tok 10⟩, ⟨.neq, .i64, .tok 3, .tok 10, .bool false⟩]
noncomputable def lawR (B : List Fact) : Option (AV × Heap) := bodyW Tryd.prog tab (callW Tryd.prog tab (ovrL B) 60) i5 Tryd.f5.body.get! [.tok B .i64 0] []
theorem lawP : (lawR (factsP ++ factsR)).map (·.1) = some (.bool true) := by kernel_rfl
theorem lawN : (lawR (factsN ++ factsR)).map (·.1) = some (.bool true) := by kernel_rfl
end Go.Proofs.YtppbeklokajeaaaDoor.T.Sums
