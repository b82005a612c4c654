/- EvalData: for every datum true, and the input reads as it did. -/
import Derived.Test.YtkiicnfpogdmgaaDoorRows
import Derived.WalkKit
import Derived.ProofKit
import Derived.OpenShut
import Derived.ShutString
import Derived.ChangeOld
import Derived.Below
import Derived.Carry
import Derived.LaidMore
import Derived.Stop.Joined
import Derived.Test.YtkiicnfpogdmgaaDoorDt1
import Derived.Test.YtkiicnfpogdmgaaDoorCards
import Derived.Test.YtkiicnfpogdmgaaDoorTie
import Derived.SevenTiedAt
namespace Go.Proofs.YtkiicnfpogdmgaaDoor.evalData
open Go.ChangeShapes Go.WideShapes Go.ChangeAt Go.RowKit Go.Dx
set_option linter.unusedVariables false
theorem own : ownKnob Tryd.prog.godebug = none := by kernel_rfl
theorem laidOut : laidOutB Tryd.prog = true := by kernel_rfl
def shapes : List TypeId := [24, 3, 2, 9, 22]
theorem shapesOk : okS Tryd.prog shapes = true := by kernel_rfl

/-- A datum among the arguments, told as plain values with short texts. -/
theorem open_datum {H : Type} {enc : TypeId × Value → H} {w : World} {cs : Array Value} {d : DataW H} {p : List MemPlace} (h : DataW.Trod enc Tryd.prog w 0 (fun _ => true) true 24 (.agg cs) d p) (hw : (d.weights Tryd.prog 24).all (· ≤ T.Wei.top) = true) :
    ∃ (n : Nat) (ps : List PV), ps.length = cs.size ∧ PTR Tryd.prog T.Wei.top n 24 ps ∧ PRs w ps cs.toList 0 := by
  obtain ⟨n, h⟩ := h
  obtain ⟨ps, h1, h2, h3⟩ := open_pvR shapesOk n 24 _ _ (by simp [shapes]) h hw
  exact ⟨n, ps, by simpa [Value.cells] using h1, h2, by simpa [Value.cells] using h3⟩
theorem rel_datum {V : Nm → Prop} {k : Kn V} {w : World} (hk : k.H = fun b => w.heap[b]?) {ps : List PV} {cs : Array Value} (hl : ps.length = cs.size) (h : PRs w ps cs.toList 0) : VRel k (.agg (ps.map up)) (.agg cs) := by
  refine .agg _ _ (by simpa using hl) fun j v u hv hu => ?_
  rw [List.getElem?_map] at hv
  obtain ⟨p, hp, rfl⟩ := Option.map_eq_some_iff.1 hv
  exact VRel.of_up (by rw [hk]; exact h j p u hp (by simpa using hu))

theorem walk {n : Nat} {pa : List PV} {ca : Array Value} {w : World} (ha : PTR Tryd.prog T.Wei.top n 24 pa) (la : pa.length = ca.size) (ra : PRs w pa ca.toList 0) :
    Calls Tryd.prog 3 #[.agg ca] w fun e w' => e = .returned (.bool true) ∧ Below w.heap.size w w' := by
  have h := T.Dat.law T.Same.dt ha (fun x => x = (⟨fun _ => 0, fun _ => .nilp⟩ : Nm))
  have hv : VRels (kn0 w) [.agg (pa.map up)] (#[Value.agg ca]).toList := ⟨rfl, fun j x u hx hu => by
    rcases j with _ | j
    · simp at hx hu; subst hx; subst hu
      exact rel_datum rfl la ra
    · simp at hx⟩
  refine Calls.mono (h.2 (kn0 w) w #[.agg ca] (rel0 w _) hv) fun e w' he => ?_
  obtain ⟨k', u, rfl, hu, hst⟩ := he
  cases hu
  exact ⟨rfl, hst.below⟩

abbrev lst := Rows.evalDataRow.laid
theorem door_met (os : Os) (args : Array Value) : laidMetH Tryd.prog lst ((World.doorLaid Tryd.prog 400 os).forCall (fun _ _ => 0) ⟨#[], args, []⟩).memory :=
  laidMetH_of_parts3 (fuel := 8) (laidMet_of_run' 8 (by kernel_rfl) (by kernel_rfl)) (by kernel_rfl) (by kernel_rfl)

def zeroD : Value := .agg #[.int .i64 0, .int .i64 0, .string ⟨#[]⟩, .slice none 0 0]
set_option maxRecDepth 100000 in
theorem lifted (os : Os) (started : os.Started) (H : Type) (enc : TypeId × Value → H) :
    ReturnsInHanded {} Tryd.checked os 3 .any (fun w args => (Rows.evalDataSpec.pre enc Tryd.prog Tryd.f3 [] false w args ∧ laidMetH Tryd.prog lst w) ∧ sizedMet enc Tryd.prog Tryd.f3 (OpenSpec.ofChange Rows.evalDataSpec) false w args)
      (Rows.evalDataSpec.post enc Tryd.prog Tryd.f3 false true false false) := by
  refine returnsInHanded_of_change_and (C := Tryd.checked) (X := fun w _ => laidMetH Tryd.prog lst w) (fun _ _ _ hh h => h.of_heap hh) own started (by kernel_rfl) Tryd.func3
    (ChangeSpec.witness_shaped (enc := enc) (C := Tryd.checked) (os := os) (X := fun w _ => laidMetH Tryd.prog lst w) false (World.doorLaid Tryd.prog 400 os) #[zeroD] 8 rfl (World.shaped_of_RefB (by kernel_rfl) (by kernel_rfl)) (by kernel_rfl) (by kernel_rfl) (by kernel_rfl) (door_met os _)) ?_
  intro W base args ds gs before hval0 hW _ hwts hL _
  have hval : ∀ (j : Nat) t v, Tryd.f3.params[j]? = some t → args[j]? = some v → Value.okWide Tryd.prog W .any base t v := hval0
  have hW' := hW
  obtain ⟨p, q, hA0, hV, rfl, hfz, hnd⟩ := hW
  have hA : DataW.TrodAll enc Tryd.prog W 0 (fun _ => true) true Tryd.f3.params.toList args.toList ds p := hA0
  rw [Tryd.params3] at hA hval hwts
  obtain ⟨v0, vs0, d0, ds0, p0, q0, hargs, rfl, rfl, h0, r0⟩ := trodAll_cons hA
  obtain ⟨rfl, rfl, rfl⟩ := trodAll_nil r0
  obtain rfl : args = #[v0] := by cases args; simp_all
  obtain ⟨rfl, rfl⟩ := trodVars_none hV
  obtain ⟨c0, rfl, _⟩ := okWide_struct Tryd.underlying24 (hval 0 24 v0 rfl rfl)
  clear hA0 hval0
  have lt0 : ∀ x ∈ p0, x.block < W.heap.size := fun x hx => hW'.lt x (by simp [hx])
  obtain ⟨n0, ps0, l0, t0, k0⟩ := open_datum h0 (weightsEach_get (R := T.Wei.top) hwts 0 24 d0 rfl rfl)
  simp only [List.append_nil] at hW'
  refine (walk t0 l0 k0).mono fun e W' ⟨he, bel⟩ => ?_
  subst he
  have s0 := Below.trod laidOut (by kernel_rfl) (of_decide_eq_true (by kernel_rfl)) h0 bel lt0
  exact ⟨_, rfl, _, _, _, [], _, [], hW', trodAll_mk1 (shut_bool Tryd.underlying4 _), (trodAll_cons_mk s0 trodAll_mk0), rfl, bel.frame _, fun h => by cases h⟩


theorem over : Rows.evalDataRow.holds Tryd.pinned (OpenSpec.ofChange Rows.evalDataSpec) :=
  OpenClaim.holds_of_wide 3 Tryd.f3 rfl rfl rfl rfl rfl rfl rfl ⟨rfl, rfl, rfl, rfl, rfl⟩ rfl rfl rfl rfl rfl (by kernel_rfl) Tryd.func3 (by kernel_rfl)
    (of_decide_eq_true (by kernel_rfl)) (by unfold Func.isWrapper; first | (rw [if_pos (by decide +kernel)]; kernel_rfl) | (rw [if_neg (by decide +kernel)]; exact ⟨rfl, rfl⟩))
    (fun os started H enc _ => lifted os started H enc)

/-- The tied card. -/
theorem proved : Rows.EvalDataCardSaid :=
  Claim7.holds_tied_plain_at .later [] [.data, .data, .data, .sentinel, .sentinel] true (true, "a51132b20449bd6344266ca2cd591c8e7c4321451089475ab92faae313363bf8") true
    over (fun _ h => by cases h) (by kernel_rfl) (fun _ h => by cases h) evalData_row_tie rfl ⟨rfl, rfl⟩ (by kernel_rfl) rfl
    (fun f fn hf hfn => by
      obtain rfl : f = 3 := Option.some.inj ((show Tryd.prog.funcNamed "semvcs/semvcslaw09.EvalData" = some 3 by kernel_rfl).symm.trans hf) |>.symm
      obtain rfl : fn = Tryd.f3 := (Option.some.inj (Tryd.func3.symm.trans hfn)).symm
      exact ⟨by kernel_rfl, fun j t ht => by
        rw [Tryd.params3] at ht
        have hm : t ∈ [24] := by simpa using Array.mem_of_getElem? ht
        have hall : ([24].all fun u => !Tryd.prog.wantsStandIn u) = true := by kernel_rfl
        exact (show Tryd.prog.wantsStandIn t = false by simpa using List.all_eq_true.1 hall t hm)⟩)
    (by kernel_rfl)
end Go.Proofs.YtkiicnfpogdmgaaDoor.evalData
#print axioms Go.Proofs.YtkiicnfpogdmgaaDoor.evalData.proved
