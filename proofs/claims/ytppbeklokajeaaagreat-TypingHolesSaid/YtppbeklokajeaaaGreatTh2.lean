/- The law on holes, reckoned. -/
import Derived.Test.YtppbeklokajeaaaGreatTh1
namespace Go.Proofs.YtppbeklokajeaaaGreat.T
open Go.Dx Go.Proofs
namespace Holes
def facts (r : Int) : List Fact := [⟨.rem, .i64, .tok 0, .lit 3, .lit r⟩]
noncomputable abbrev go (r : Int) : Option AV := (endA Tryz.prog i8 (codeA Tryz.prog false (overC 11 (.bool true) (reck Tryz.prog tab 40)) (drawA Tryz.prog (modesOf tab) false (overC 11 (.bool true) (reck Tryz.prog tab 40)) i8.fn.ntmps) i8.fn.ntmps i8.rounds i8.keep Tryz.f8.body.get! ⟨[], initE 0 [.tok (facts r) .i64 0]⟩)).map (·.1)
theorem go0 : go 0 = some (.bool true) := by kernel_rfl
theorem go1 : go 1 = some (.bool true) := by kernel_rfl
theorem go2 : go 2 = some (.bool true) := by kernel_rfl
theorem go3 : go (-1) = some (.bool true) := by kernel_rfl
theorem go4 : go (-2) = some (.bool true) := by kernel_rfl
theorem all (a : Int) : ∃ B, Valid (fun _ => a) B ∧ ∃ σ', reck Tryz.prog tab 41 8 [.tok B .i64 0] [] = some (.bool true, σ') := by
  have hr : a.tmod 3 = 0 ∨ a.tmod 3 = 1 ∨ a.tmod 3 = 2 ∨ a.tmod 3 = -1 ∨ a.tmod 3 = -2 := by
    have h1 := Int.tmod_lt_of_pos a (show (0 : Int) < 3 by omega)
    have h2 := Int.lt_tmod_of_pos a (show (0 : Int) < 3 by omega)
    omega
  have valid : ∀ r, a.tmod 3 = r → Valid (fun _ => a) (facts r) := by
    intro r h f hf
    simp only [facts, List.mem_singleton] at hf
    subst hf
    simp [arithA, IV.val, FR.av, h]
  have key : ∀ r, a.tmod 3 = r → go r = some (.bool true) → ∃ B, Valid (fun _ => a) B ∧ ∃ σ', reck Tryz.prog tab 41 8 [.tok B .i64 0] [] = some (.bool true, σ') :=
    fun r h hg => ⟨facts r, valid r h, reck_over (i := i8) (c := Tryz.f8.body.get!) rfl rfl rfl rfl rfl awakeAt hg⟩
  rcases hr with h | h | h | h | h
  · exact key 0 h go0
  · exact key 1 h go1
  · exact key 2 h go2
  · exact key (-1) h go3
  · exact key (-2) h go4
end Holes
end Go.Proofs.YtppbeklokajeaaaGreat.T
