/- EvalWraps: for every two integers true, and the input reads as it did. -/
import Derived.Test.YtppbeklokajeaaaDoorRows
import Derived.WalkKit
import Derived.ProofKit
import Derived.OpenShut
import Derived.ShutString
import Derived.ChangeOld
import Derived.Below
import Derived.LaidMore
import Derived.Stop.Joined
import Derived.Test.YtppbeklokajeaaaDoorWr
import Derived.Test.YtppbeklokajeaaaDoorCards
import Derived.Test.YtppbeklokajeaaaDoorTie
import Derived.SevenTiedAt
namespace Go.Proofs.YtppbeklokajeaaaDoor.T.Wraps
open Go.Dx Go.Proofs
def val (a b : Int) (j : Nat) : Int := match j with
  | 0 => a
  | 1 => b
  | 2 => IntKind.wrap .i64 (a + b)
  | 3 => IntKind.wrap .i64 (a - b)
  | _ => IntKind.wrap .i64 (a * b)
theorem valid (a b : Int) (lt eq : Bool) (hl : decide (a < b) = lt) (he : (a == b) = eq) : Valid (val a b) (facts lt eq) := by
  intro f hf
  simp only [facts, List.mem_cons, List.not_mem_nil, or_false] at hf
  rcases hf with rfl | rfl | rfl | rfl | rfl | rfl | rfl | rfl | rfl
  · rfl
  · rfl
  · rfl
  · show some (AV.bool (decide (a < b))) = _; rw [hl]; rfl
  · show some (AV.bool (a == b)) = _; rw [he]; rfl
  · show some (AV.bool (a != b)) = _; rw [bne, he]; rfl
  · show some (AV.bool (IntKind.wrap .i64 (a + b) != IntKind.wrap .i64 (a + b))) = _; rw [bne_self_eq_false]; rfl
  · show some (AV.bool (IntKind.wrap .i64 (a - b) != IntKind.wrap .i64 (a - b))) = _; rw [bne_self_eq_false]; rfl
  · show some (AV.bool (IntKind.wrap .i64 (a * b) != IntKind.wrap .i64 (a * b))) = _; rw [bne_self_eq_false]; rfl
theorem all (a b : Int) : ∃ B, Valid (val a b) B ∧ ∃ σ', reck Tryd.prog tab 81 6 [.tok B .i64 0, .tok B .i64 1] [] = some (.bool true, σ') := by
  have key : ∀ lt eq, decide (a < b) = lt → (a == b) = eq → go lt eq = some (.bool true) → ∃ B, Valid (val a b) B ∧ ∃ σ', reck Tryd.prog tab 81 6 [.tok B .i64 0, .tok B .i64 1] [] = some (.bool true, σ') :=
    fun lt eq hl he hg => ⟨facts lt eq, valid a b lt eq hl he, reck_by (i := i6) (c := Tryd.f6.body.get!) rfl rfl rfl rfl rfl call_eq hg⟩
  by_cases h1 : a < b
  · exact key true false (decide_eq_true h1) (beq_eq_false_iff_ne.2 (by omega)) go0
  · by_cases h2 : a = b
    · exact key false true (decide_eq_false h1) (beq_iff_eq.2 h2) go1
    · exact key false false (decide_eq_false h1) (beq_eq_false_iff_ne.2 h2) go2
end Go.Proofs.YtppbeklokajeaaaDoor.T.Wraps
namespace Go.Proofs.YtppbeklokajeaaaDoor.evalWraps
open Go.ChangeShapes Go.WideShapes Go.ChangeAt Go.RowKit Go.Dx
set_option linter.unusedVariables false
theorem own : ownKnob Tryd.prog.godebug = none := by kernel_rfl

theorem walk (a0 a1 : Int) (w : World) : Calls Tryd.prog 6 #[.int .i64 a0, .int .i64 a1] w fun e w' => e = .returned (.bool true) ∧ Below w.heap.size w w' := by
  obtain ⟨B, hB, σ', h⟩ := T.Wraps.all a0 a1
  refine walk_of (v := T.Wraps.val a0 a1) T.tab_ok T.mixed Tryd.func6 rfl (by kernel_rfl) h ⟨rfl, fun j v u hv hu => ?_⟩
  rcases j with _ | _ | j
  · simp at hv hu; subst hv; subst hu; exact .tok B .i64 0 hB
  · simp at hv hu; subst hv; subst hu; exact .tok B .i64 1 hB
  · simp at hv

abbrev lst := Rows.evalWrapsRow.laid
theorem door_met (os : Os) (args : Array Value) : laidMetH Tryd.prog lst ((World.doorLaid Tryd.prog 400 os).forCall (fun _ _ => 0) ⟨#[], args, []⟩).memory :=
  laidMetH_of_parts3 (fuel := 8) (laidMet_of_run' 8 (by kernel_rfl) (by kernel_rfl)) (by kernel_rfl) (by kernel_rfl)

set_option maxRecDepth 100000 in
theorem lifted (os : Os) (started : os.Started) (H : Type) (enc : TypeId × Value → H) :
    ReturnsInHanded {} Tryd.checked os 6 .any (fun w args => (Rows.evalWrapsSpec.pre enc Tryd.prog Tryd.f6 [] false w args ∧ laidMetH Tryd.prog lst w) ∧ sizedMet enc Tryd.prog Tryd.f6 (OpenSpec.ofChange Rows.evalWrapsSpec) false w args)
      (Rows.evalWrapsSpec.post enc Tryd.prog Tryd.f6 false true false false) := by
  refine returnsInHanded_of_change_and (C := Tryd.checked) (X := fun w _ => laidMetH Tryd.prog lst w) (fun _ _ _ hh h => h.of_heap hh) own started (by kernel_rfl) Tryd.func6
    (ChangeSpec.witness_shaped (enc := enc) (C := Tryd.checked) (os := os) (X := fun w _ => laidMetH Tryd.prog lst w) false (World.doorLaid Tryd.prog 400 os) #[.int .i64 0, .int .i64 0] 8 rfl (World.shaped_of_RefB (by kernel_rfl) (by kernel_rfl)) (by kernel_rfl) (by kernel_rfl) (by kernel_rfl) (door_met os _)) ?_
  intro W base args ds gs before hval0 hW _ _ hL _
  have hval : ∀ (j : Nat) t v, Tryd.f6.params[j]? = some t → args[j]? = some v → Value.okWide Tryd.prog W .any base t v := hval0
  have hW' := hW
  obtain ⟨p, q, hA0, hV, rfl, hfz, hnd⟩ := hW
  have hA : DataW.TrodAll enc Tryd.prog W 0 (fun _ => true) true Tryd.f6.params.toList args.toList ds p := hA0
  rw [Tryd.params6] at hA hval
  obtain ⟨v0, vs0, d0, ds0, p0, q0, hargs, rfl, rfl, h0, r0⟩ := trodAll_cons hA
  obtain ⟨v1, vs1, d1, ds1, p1, q1, rfl, rfl, rfl, h1, r1⟩ := trodAll_cons r0
  obtain ⟨rfl, rfl, rfl⟩ := trodAll_nil r1
  obtain rfl : args = #[v0, v1] := by cases args; simp_all
  obtain ⟨rfl, rfl⟩ := trodVars_none hV
  obtain ⟨a0, rfl, rfl, rfl, w0⟩ := open_int Tryd.underlying2 (hval 0 2 v0 rfl rfl) h0
  obtain ⟨a1, rfl, rfl, rfl, w1⟩ := open_int Tryd.underlying2 (hval 1 2 v1 rfl rfl) h1
  clear hA0 hval0
  simp only [List.append_nil] at hW'
  refine (walk a0 a1 W).mono fun e W' ⟨he, bel⟩ => ?_
  subst he
  exact ⟨_, rfl, _, _, _, [], _, [], hW', trodAll_mk1 (shut_bool Tryd.underlying4 _), (trodAll_cons_mk (shut_int Tryd.underlying2 w0) (trodAll_cons_mk (shut_int Tryd.underlying2 w1) trodAll_mk0)), rfl, bel.frame _, fun h => by cases h⟩


theorem over : Rows.evalWrapsRow.holds Tryd.pinned (OpenSpec.ofChange Rows.evalWrapsSpec) :=
  OpenClaim.holds_of_wide 6 Tryd.f6 rfl rfl rfl rfl rfl rfl rfl ⟨rfl, rfl, rfl, rfl, rfl⟩ rfl rfl rfl rfl rfl (by kernel_rfl) Tryd.func6 (by kernel_rfl)
    (of_decide_eq_true (by kernel_rfl)) (by unfold Func.isWrapper; first | (rw [if_pos (by decide +kernel)]; kernel_rfl) | (rw [if_neg (by decide +kernel)]; exact ⟨rfl, rfl⟩))
    (fun os started H enc _ => lifted os started H enc)

/-- The tied card. -/
theorem proved : Rows.EvalWrapsCardSaid :=
  Claim7.holds_tied_plain_at .later [] [.data, .data, .data, .sentinel, .sentinel] true (true, "a51132b20449bd6344266ca2cd591c8e7c4321451089475ab92faae313363bf8") true
    over (fun _ h => by cases h) (by kernel_rfl) (fun _ h => by cases h) evalWraps_row_tie rfl ⟨rfl, rfl⟩ (by kernel_rfl) rfl
    (fun f fn hf hfn => by
      obtain rfl : f = 6 := Option.some.inj ((show Tryd.prog.funcNamed "semvcs/semvcslaw09.EvalWraps" = some 6 by kernel_rfl).symm.trans hf) |>.symm
      obtain rfl : fn = Tryd.f6 := (Option.some.inj (Tryd.func6.symm.trans hfn)).symm
      exact ⟨by kernel_rfl, fun j t ht => by
        rw [Tryd.params6] at ht
        have hm : t ∈ [2, 2] := by simpa using Array.mem_of_getElem? ht
        have hall : ([2, 2].all fun u => !Tryd.prog.wantsStandIn u) = true := by kernel_rfl
        exact (show Tryd.prog.wantsStandIn t = false by simpa using List.all_eq_true.1 hall t hm)⟩)
    (by kernel_rfl)
end Go.Proofs.YtppbeklokajeaaaDoor.evalWraps
#print axioms Go.Proofs.YtppbeklokajeaaaDoor.evalWraps.proved
