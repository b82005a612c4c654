/- EvalSums: for every integer true, and the input reads as it did. -/
import Derived.Test.YtppbeklokajeaaaDoorRows
import Derived.WalkKit
import Derived.ProofKit
import Derived.OpenShut
import Derived.ShutString
import Derived.ChangeOld
import Derived.Below
import Derived.LaidMore
import Derived.Stop.Joined
import Derived.Test.YtppbeklokajeaaaDoorSu5
import Derived.Test.YtppbeklokajeaaaDoorCards
import Derived.Test.YtppbeklokajeaaaDoorTie
import Derived.SevenTiedAt
namespace Go.Proofs.YtppbeklokajeaaaDoor.T.Sums
open Go.Dx Go.Proofs
def vL (a r n s l : Int) (j : Nat) : Int := match j with
  | 0 => a
  | 1 => r
  | 2 => n
  | 3 => s
  | 4 => l
  | 5 => 10 * n + 5
  | 6 => 10 * n
  | 7 => 10 * n + 5
  | 8 => n + 1
  | 9 => n * (n + 1)
  | _ => s
theorem validR {a r n s l : Int} (hl : l = 16384 - (10 * n + 5)) (hn : 0 ≤ n) (hn2 : n < 300) (hs : 0 ≤ s) (hs2 : s ≤ 90000) (h2 : 2 * s = n * (n + 1)) : Valid (vL a r n s l) factsR := by
  intro f hf
  simp only [factsR, List.mem_cons, List.not_mem_nil, or_false] at hf
  rcases hf with rfl | rfl | rfl | rfl | rfl | rfl | rfl | rfl
  · show some (AV.int .i64 (IntKind.wrap .i64 (16384 - l))) = some (AV.int .i64 (10 * n + 5))
    rw [show 16384 - l = 10 * n + 5 by omega, wrap_in _ (by omega)]
  · show some (AV.int .i64 (IntKind.wrap .i64 (10 * n))) = some (AV.int .i64 (10 * n))
    rw [wrap_in _ (by omega)]
  · show some (AV.int .i64 (IntKind.wrap .i64 (10 * n + 5))) = some (AV.int .i64 (10 * n + 5))
    rw [wrap_in _ (by omega)]
  · show some (AV.bool (10 * n + 5 == 10 * n + 5)) = some (AV.bool true)
    simp
  · show some (AV.int .i64 (IntKind.wrap .i64 (n + 1))) = some (AV.int .i64 (n + 1))
    rw [wrap_in _ (by omega)]
  · show some (AV.int .i64 (IntKind.wrap .i64 (n * (n + 1)))) = some (AV.int .i64 (n * (n + 1)))
    rw [← h2, wrap_in _ (by omega)]
  · show (if (2 : Int) = 0 then none else some (AV.int .i64 (IntKind.wrap .i64 ((n * (n + 1)).tdiv 2)))) = some (AV.int .i64 s)
    rw [if_neg (by omega), ← h2, Int.mul_tdiv_cancel_left _ (by omega), wrap_in _ (by omega)]
  · show some (AV.bool (s != s)) = some (AV.bool false)
    rw [bne_self_eq_false]
theorem tvG_ok {a r : Int} {m L s l : Int} {B : List Fact} (hB : Valid (vL a r m s l) B) : (∀ (k : Kn fun v => v = vL a r m s l) i j u, VRel k (tvG B L i j) u → u = .int i (vC m L s l j)) ∧ ∀ (k : Kn fun v => v = vL a r m s l) i j, VRel k (tvG B L i j) (.int i (vC m L s l j)) := by
  constructor
  · intro k i j u h
    have hk : k.val = vL a r m s l := k.hv
    rcases j with _ | _ | _ | j
    · cases h; rw [hk]; rfl
    · cases h; rfl
    · cases h; rw [hk]; rfl
    · cases h; rw [hk]; rfl
  · intro k i j
    have hk : k.val = vL a r m s l := k.hv
    have tk : ∀ j', VRel k (.tok B i j') (.int i (vL a r m s l j')) := fun j' => by
      have h := VRel.tok (k := k) B i j' (by rw [hk]; exact hB)
      rw [congrFun hk j'] at h
      exact h
    rcases j with _ | _ | _ | j
    · exact tk 2
    · exact .int _ _
    · exact tk 3
    · exact tk 4
theorem tvG_one (B : List Fact) (L : Int) (i : IntKind) (j : Nat) : one (tvG B L i j) = true := by
  rcases j with _ | _ | _ | j <;> rfl
theorem ovrT_ok {a r : Int} {m l : Int} {s : Int} {B : List Fact} (hB : Valid (vL a r m s l) B) (hC : C m 16384 s l) (f : FuncId) (args : List AV) (σ : Heap) (x : AV × Heap) (h : ovrT B f args σ = some x) :
    CallOK (fun v => v = vL a r m s l) Tryd.prog f args σ x ∧ (modesOf tab f ≠ 0 → x.2 = σ) := by
  unfold ovrT at h
  split at h
  · rename_i hl
    obtain ⟨h1, h2⟩ := ovr_ok (V := fun v => v = vL a r m s l) hC (Nat.eq_of_beq_eq_true hl) (tv := tvG B 16384) (tvG_one B 16384) (tvG_ok hB).1 (tvG_ok hB).2 f args σ x h
    exact ⟨.inl h1, fun hm => absurd mode28 (by rw [h2] at hm; exact hm)⟩
  · cases h
theorem ovrP_ok {a r : Int} {m l : Int} {s : Int} {B : List Fact} (hB : Valid (vL a r m s l) B) (hC : C m 16384 s l) (f : FuncId) (args : List AV) (σ : Heap) (x : AV × Heap) (h : ovrP B f args σ = some x) :
    CallOK (fun v => v = vL a r m s l) Tryd.prog f args σ x ∧ (modesOf tab f ≠ 0 → x.2 = σ) := by
  unfold ovrP at h
  split at h
  · rename_i t hf
    have hf : f = 16 := Nat.eq_of_beq_eq_true hf
    subst hf
    cases hb : eqB t.data.toList s5.data.toList with
    | false => rw [hb] at h; cases h
    | true =>
      rw [hb] at h
      injection h with h; subst h
      rw [eqB_eq] at hb
      have hs : t = s5 := str_eq (by simpa using hb)
      rw [hs]
      exact ⟨reck_ok tab_ok mixed 79 16 [.str s5] σ _ (p5 σ), fun _ => rfl⟩
  · exact ovrT_ok hB hC _ _ σ x h
theorem ovrL_ok {a r : Int} {m l : Int} {s : Int} {B : List Fact} (hB : Valid (vL a r m s l) B) (hC : C m 16384 s l) (f : FuncId) (args : List AV) (σ : Heap) (x : AV × Heap) (h : ovrL B f args σ = some x) :
    CallOK (fun v => v = vL a r m s l) Tryd.prog f args σ x ∧ (modesOf tab f ≠ 0 → x.2 = σ) := by
  unfold ovrL at h
  split at h
  · rename_i hf
    have hf : f = 8 := Nat.eq_of_beq_eq_true hf
    subst hf
    injection h with h; subst h
    exact ⟨reck_ok tab_ok mixed 80 8 [] σ _ (awakeAt σ), fun _ => rfl⟩
  · exact ovrP_ok hB hC _ _ σ x h
theorem all (a : Int) : ∃ (v : Nat → Int) (B : List Fact) (σ' : Heap), v 0 = a ∧ Valid v B ∧ CallIn (fun x => x = v) Tryd.prog 5 [.tok B .i64 0] [] (.bool true, σ') := by
  have key : ∀ (B : List Fact) (r : Int) (m : Nat), m < 300 → Valid (vL a r m (S m) (16384 - (10 * m + 5))) (B ++ factsR) → (lawR (B ++ factsR)).map (·.1) = some (.bool true) → ∃ (v : Nat → Int) (B : List Fact) (σ' : Heap), v 0 = a ∧ Valid v B ∧ CallIn (fun x => x = v) Tryd.prog 5 [.tok B .i64 0] [] (.bool true, σ') := by
    intro B r m hm hB hg
    obtain ⟨⟨x, σ'⟩, h1, h2⟩ := Option.map_eq_some_iff.1 hg
    simp only at h2; subst h2
    have hC := C_all m 16384 (by omega) (by omega) (by omega)
    exact ⟨vL a r m (S m) (16384 - (10 * m + 5)), B ++ factsR, σ', rfl, hB, bodyW_ok tab_ok mixed (fun f args σ x h => (ovrL_ok hB hC f args σ x h).1) (fun f args σ x hn h => (ovrL_ok hB hC f args σ x h).2 hn) (i := i5) (c := Tryd.f5.body.get!) rfl rfl h1⟩
  have app : ∀ {v : Nat → Int} {B B' : List Fact}, Valid v B → Valid v B' → Valid v (B ++ B') := fun h h' f hf => (List.mem_append.1 hf).elim (h f) (h' f)
  have h1 := Int.tmod_lt_of_pos a (show (0 : Int) < 300 by omega)
  have h2 := Int.lt_tmod_of_pos a (show (0 : Int) < 300 by omega)
  have bound : ∀ m : Nat, m < 300 → 0 ≤ S m ∧ S m ≤ 90000 := fun m hm => by
    have hS := S_le m
    have hq : (m : Int) * m ≤ 300 * 300 := Int.mul_le_mul (by omega) (by omega) (by omega) (by omega)
    exact ⟨hS.1, by omega⟩
  by_cases hneg : a.tmod 300 < 0
  · obtain ⟨m, hm⟩ := Int.eq_ofNat_of_zero_le (show 0 ≤ a.tmod 300 + 300 by omega)
    have hlt : m < 300 := by omega
    refine key factsN (a.tmod 300) m hlt (app ?_ (validR rfl (by omega) (by omega) (bound m hlt).1 (bound m hlt).2 (S_two m))) lawN
    intro f hf
    simp only [factsN, List.mem_cons, List.not_mem_nil, or_false] at hf
    rcases hf with rfl | rfl | rfl
    · rfl
    · show some (AV.bool (decide (a.tmod 300 < 0))) = some (AV.bool true)
      rw [decide_eq_true hneg]
    · show some (AV.int .i64 (IntKind.wrap .i64 (a.tmod 300 + 300))) = some (AV.int .i64 (m : Int))
      rw [wrap_in _ (by omega), hm]
  · obtain ⟨m, hm⟩ := Int.eq_ofNat_of_zero_le (show 0 ≤ a.tmod 300 by omega)
    have hlt : m < 300 := by omega
    refine key factsP (a.tmod 300) m hlt (app ?_ (validR rfl (by omega) (by omega) (bound m hlt).1 (bound m hlt).2 (S_two m))) lawP
    intro f hf
    simp only [factsP, List.mem_cons, List.not_mem_nil, or_false] at hf
    rcases hf with rfl | rfl
    · show some (AV.int .i64 (a.tmod 300)) = some (AV.int .i64 (m : Int))
      rw [hm]
    · show some (AV.bool (decide ((m : Int) < 0))) = some (AV.bool false)
      rw [decide_eq_false (by omega)]
end Go.Proofs.YtppbeklokajeaaaDoor.T.Sums
namespace Go.Proofs.YtppbeklokajeaaaDoor.evalSums
open Go.ChangeShapes Go.WideShapes Go.ChangeAt Go.RowKit Go.Dx
set_option linter.unusedVariables false
theorem own : ownKnob Tryd.prog.godebug = none := by kernel_rfl

theorem walk (a0 : Int) (w : World) : Calls Tryd.prog 5 #[.int .i64 a0] w fun e w' => e = .returned (.bool true) ∧ Below w.heap.size w w' := by
  obtain ⟨v, B, σ', h0, hB, h⟩ := T.Sums.all a0
  have hv : VRels (kn0 w v) [.tok B .i64 0] (#[Value.int .i64 a0]).toList := ⟨rfl, fun j x u hx hu => by
    rcases j with _ | j
    · simp at hx hu; subst hx; subst hu
      rw [← h0]
      exact .tok B .i64 0 hB
    · simp at hx⟩
  refine Calls.mono (h.2 (kn0 w v) w #[.int .i64 a0] (rel0 w v) hv) fun e w' he => ?_
  obtain ⟨k', u, rfl, hu, hst⟩ := he
  cases hu
  exact ⟨rfl, hst.below⟩

abbrev lst := Rows.evalSumsRow.laid
theorem door_met (os : Os) (args : Array Value) : laidMetH Tryd.prog lst ((World.doorLaid Tryd.prog 400 os).forCall (fun _ _ => 0) ⟨#[], args, []⟩).memory :=
  laidMetH_of_parts3 (fuel := 8) (laidMet_of_run' 8 (by kernel_rfl) (by kernel_rfl)) (by kernel_rfl) (by kernel_rfl)

set_option maxRecDepth 100000 in
theorem lifted (os : Os) (started : os.Started) (H : Type) (enc : TypeId × Value → H) :
    ReturnsInHanded {} Tryd.checked os 5 .any (fun w args => (Rows.evalSumsSpec.pre enc Tryd.prog Tryd.f5 [] false w args ∧ laidMetH Tryd.prog lst w) ∧ sizedMet enc Tryd.prog Tryd.f5 (OpenSpec.ofChange Rows.evalSumsSpec) false w args)
      (Rows.evalSumsSpec.post enc Tryd.prog Tryd.f5 false true false false) := by
  refine returnsInHanded_of_change_and (C := Tryd.checked) (X := fun w _ => laidMetH Tryd.prog lst w) (fun _ _ _ hh h => h.of_heap hh) own started (by kernel_rfl) Tryd.func5
    (ChangeSpec.witness_shaped (enc := enc) (C := Tryd.checked) (os := os) (X := fun w _ => laidMetH Tryd.prog lst w) false (World.doorLaid Tryd.prog 400 os) #[.int .i64 0] 8 rfl (World.shaped_of_RefB (by kernel_rfl) (by kernel_rfl)) (by kernel_rfl) (by kernel_rfl) (by kernel_rfl) (door_met os _)) ?_
  intro W base args ds gs before hval0 hW _ _ hL _
  have hval : ∀ (j : Nat) t v, Tryd.f5.params[j]? = some t → args[j]? = some v → Value.okWide Tryd.prog W .any base t v := hval0
  have hW' := hW
  obtain ⟨p, q, hA0, hV, rfl, hfz, hnd⟩ := hW
  have hA : DataW.TrodAll enc Tryd.prog W 0 (fun _ => true) true Tryd.f5.params.toList args.toList ds p := hA0
  rw [Tryd.params5] at hA hval
  obtain ⟨v0, vs0, d0, ds0, p0, q0, hargs, rfl, rfl, h0, r0⟩ := trodAll_cons hA
  obtain ⟨rfl, rfl, rfl⟩ := trodAll_nil r0
  obtain rfl : args = #[v0] := by cases args; simp_all
  obtain ⟨rfl, rfl⟩ := trodVars_none hV
  obtain ⟨a0, rfl, rfl, rfl, w0⟩ := open_int Tryd.underlying3 (hval 0 3 v0 rfl rfl) h0
  clear hA0 hval0
  simp only [List.append_nil] at hW'
  refine (walk a0 W).mono fun e W' ⟨he, bel⟩ => ?_
  subst he
  exact ⟨_, rfl, _, _, _, [], _, [], hW', trodAll_mk1 (shut_bool Tryd.underlying4 _), (trodAll_cons_mk (shut_int Tryd.underlying3 w0) trodAll_mk0), rfl, bel.frame _, fun h => by cases h⟩


theorem over : Rows.evalSumsRow.holds Tryd.pinned (OpenSpec.ofChange Rows.evalSumsSpec) :=
  OpenClaim.holds_of_wide 5 Tryd.f5 rfl rfl rfl rfl rfl rfl rfl ⟨rfl, rfl, rfl, rfl, rfl⟩ rfl rfl rfl rfl rfl (by kernel_rfl) Tryd.func5 (by kernel_rfl)
    (of_decide_eq_true (by kernel_rfl)) (by unfold Func.isWrapper; first | (rw [if_pos (by decide +kernel)]; kernel_rfl) | (rw [if_neg (by decide +kernel)]; exact ⟨rfl, rfl⟩))
    (fun os started H enc _ => lifted os started H enc)

/-- The tied card. -/
theorem proved : Rows.EvalSumsCardSaid :=
  Claim7.holds_tied_plain_at .later [] [.data, .data, .data, .sentinel, .sentinel] true (true, "a51132b20449bd6344266ca2cd591c8e7c4321451089475ab92faae313363bf8") true
    over (fun _ h => by cases h) (by kernel_rfl) (fun _ h => by cases h) evalSums_row_tie rfl ⟨rfl, rfl⟩ (by kernel_rfl) rfl
    (fun f fn hf hfn => by
      obtain rfl : f = 5 := Option.some.inj ((show Tryd.prog.funcNamed "semvcs/semvcslaw09.EvalSums" = some 5 by kernel_rfl).symm.trans hf) |>.symm
      obtain rfl : fn = Tryd.f5 := (Option.some.inj (Tryd.func5.symm.trans hfn)).symm
      exact ⟨by kernel_rfl, fun j t ht => by
        rw [Tryd.params5] at ht
        have hm : t ∈ [3] := by simpa using Array.mem_of_getElem? ht
        have hall : ([3].all fun u => !Tryd.prog.wantsStandIn u) = true := by kernel_rfl
        exact (show Tryd.prog.wantsStandIn t = false by simpa using List.all_eq_true.1 hall t hm)⟩)
    (by kernel_rfl)
end Go.Proofs.YtppbeklokajeaaaDoor.evalSums
#print axioms Go.Proofs.YtppbeklokajeaaaDoor.evalSums.proved
