/- The law on sizes, reckoned. -/
import Derived.Test.YtnglipioaippoaaEtab
import Derived.Test.YtnglipioaippoaaEcut
namespace Go.Proofs.Ytnglipioaippoaa.T
open Go.Dx Go.Proofs

theorem mixed : Try.prog.follows .mixedOrders = true := by kernel_rfl
theorem awakeRun : (reck Try.prog tab 40 12 [] []).map (·.1) = some (.bool true) := by kernel_rfl
theorem awakeAt (σ : Heap) : reck Try.prog tab 40 12 [] σ = some (.bool true, σ) := pure_at (i := i12) rfl rfl rfl awakeRun σ
namespace Sizes
def facts (lo hi : Bool) (r : Int) : List Fact := [⟨.rem, .i64, .tok 1, .lit 3, .tok 2⟩, ⟨.add, .i64, .tok 2, .lit 3, .tok 3⟩, ⟨.rem, .i64, .tok 3, .lit 3, .lit r⟩, ⟨.lss, .i64, .tok 0, .lit 64, .bool lo⟩, ⟨.gtr, .i64, .tok 0, .lit 131072, .bool hi⟩,
  ⟨.geq, .i64, .tok 0, .lit 64, .bool (!lo)⟩, ⟨.leq, .i64, .tok 0, .lit 131072, .bool (!hi)⟩, ⟨.neq, .i64, .tok 0, .tok 0, .bool false⟩]
noncomputable abbrev go (lo hi : Bool) (r : Int) : Option AV := (endA Try.prog i5 (codeA Try.prog false (overC 12 (.bool true) (reck Try.prog tab 40)) (drawA Try.prog (modesOf tab) false (overC 12 (.bool true) (reck Try.prog tab 40)) i5.fn.ntmps) i5.fn.ntmps i5.rounds i5.keep Try.f5.body.get! ⟨[], initE 0 [.tok (facts lo hi r) .i64 0, .tok (facts lo hi r) .i64 1]⟩)).map (·.1)
theorem go0 : go true false 0 = some (.bool true) := by kernel_rfl
theorem go1 : go true false 1 = some (.bool true) := by kernel_rfl
theorem go2 : go true false 2 = some (.bool true) := by kernel_rfl
theorem go3 : go false true 0 = some (.bool true) := by kernel_rfl
theorem go4 : go false true 1 = some (.bool true) := by kernel_rfl
theorem go5 : go false true 2 = some (.bool true) := by kernel_rfl
theorem go6 : go false false 0 = some (.bool true) := by kernel_rfl
theorem go7 : go false false 1 = some (.bool true) := by kernel_rfl
theorem go8 : go false false 2 = some (.bool true) := by kernel_rfl
end Sizes
end Go.Proofs.Ytnglipioaippoaa.T
