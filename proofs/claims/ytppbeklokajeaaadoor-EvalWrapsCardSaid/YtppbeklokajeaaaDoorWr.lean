/- The law on wraps, reckoned. -/
import Derived.Test.YtppbeklokajeaaaDoorAw
namespace Go.Proofs.YtppbeklokajeaaaDoor.T
open Go.Dx Go.Proofs
namespace Wraps
def facts (lt eq : Bool) : List Fact := [⟨.add, .i64, .tok 0, .tok 1, .tok 2⟩, ⟨.sub, .i64, .tok 0, .tok 1, .tok 3⟩, ⟨.mul, .i64, .tok 0, .tok 1, .tok 4⟩, ⟨.lss, .i64, .tok 0, .tok 1, .bool lt⟩, ⟨.eql, .i64, .tok 0, .tok 1, .bool eq⟩, ⟨.neq, .i64, .tok 0, .tok 1, .bool (!eq)⟩,
  ⟨.neq, .i64, .tok 2, .tok 2, .bool false⟩, ⟨.neq, .i64, .tok 3, .tok 3, .bool false⟩, ⟨.neq, .i64, .tok 4, .tok 4, .bool false⟩]
noncomputable def call : CallF := overC 8 (.bool true) (overS 16 [(s0, v0), (s1, v1), (s2, v2), (s3, v3), (s4, v4)] (reck Tryd.prog tab 80))
theorem call_eq : reck Tryd.prog tab 80 = call := by
  have h1 : reck Tryd.prog tab 80 = overS 16 [(s0, v0), (s1, v1), (s2, v2), (s3, v3), (s4, v4)] (reck Tryd.prog tab 80) := overS_eq fun s v h => by
    simp only [List.mem_cons, Prod.mk.injEq, List.not_mem_nil, or_false] at h
    rcases h with ⟨rfl, rfl⟩ | ⟨rfl, rfl⟩ | ⟨rfl, rfl⟩ | ⟨rfl, rfl⟩ | ⟨rfl, rfl⟩
    · exact p0
    · exact p1
    · exact p2
    · exact p3
    · exact p4
  have h2 := overC_eq (f0 := 8) (v := .bool true) awakeAt
  unfold call
  rw [← h1]
  exact h2
noncomputable abbrev go (lt eq : Bool) : Option AV := (endA Tryd.prog i6 (codeA Tryd.prog false call (drawA Tryd.prog (modesOf tab) false call i6.fn.ntmps) i6.fn.ntmps i6.rounds i6.keep Tryd.f6.body.get! ⟨[], initE 0 [.tok (facts lt eq) .i64 0, .tok (facts lt eq) .i64 1]⟩)).map (·.1)
theorem go0 : go true false = some (.bool true) := by kernel_rfl
theorem go1 : go false true = some (.bool true) := by kernel_rfl
theorem go2 : go false false = some (.bool true) := by kernel_rfl
end Wraps
end Go.Proofs.YtppbeklokajeaaaDoor.T
