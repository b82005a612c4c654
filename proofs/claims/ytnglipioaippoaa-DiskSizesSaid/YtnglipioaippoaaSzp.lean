/- DiskSizes: for every two integers true, and the input reads as it did. -/
import Derived.Test.YtnglipioaippoaaRows
import Derived.WalkKit
import Derived.ProofKit
import Derived.OpenShut
import Derived.ShutString
import Derived.ChangeOld
import Derived.Below
import Derived.Test.YtnglipioaippoaaSz1
namespace Go.Proofs.Ytnglipioaippoaa.T.Sizes
open Go.Dx Go.Proofs
def val (a b : Int) (j : Nat) : Int := match j with
  | 0 => a
  | 1 => b
  | 2 => b.tmod 3
  | _ => IntKind.wrap .i64 (b.tmod 3 + 3)
theorem valid (a b : Int) (lo hi : Bool) (r : Int) (hl : decide (a < 64) = lo) (hh : decide (a > 131072) = hi) (hr : (IntKind.wrap .i64 (b.tmod 3 + 3)).tmod 3 = r) : Valid (val a b) (facts lo hi r) := by
  intro f hf
  simp only [facts, List.mem_cons, List.not_mem_nil, or_false] at hf
  rcases hf with rfl | rfl | rfl | rfl | rfl | rfl | rfl | rfl
  · rfl
  · rfl
  · show some (AV.int .i64 ((IntKind.wrap .i64 (b.tmod 3 + 3)).tmod 3)) = _; rw [hr]; rfl
  · show some (AV.bool (decide (a < 64))) = _; rw [hl]; rfl
  · show some (AV.bool (decide (a > 131072))) = _; rw [hh]; rfl
  · show some (AV.bool (decide (a ≥ 64))) = some (AV.bool (!lo))
    rw [← hl, ← decide_not]; congr 3; exact propext (by omega)
  · show some (AV.bool (decide (a ≤ 131072))) = some (AV.bool (!hi))
    rw [← hh, ← decide_not]; congr 3; exact propext (by omega)
  · show some (AV.bool (a != a)) = _; rw [bne_self_eq_false]; rfl
theorem wrap_in (n : Int) (h : -9223372036854775808 ≤ n ∧ n ≤ 9223372036854775807) : IntKind.wrap .i64 n = n := by
  have hb : (2 : Int) ^ IntKind.bits .i64 = 18446744073709551616 := rfl
  have hb1 : (2 : Int) ^ (IntKind.bits .i64 - 1) = 9223372036854775808 := rfl
  have hs : IntKind.signed .i64 = true := rfl
  unfold IntKind.wrap
  simp only [hb, hb1, hs, Bool.true_and, decide_eq_true_eq, ge_iff_le]
  split <;> omega
theorem all (a b : Int) : ∃ B, Valid (val a b) B ∧ ∃ σ', reck Try.prog tab 41 5 [.tok B .i64 0, .tok B .i64 1] [] = some (.bool true, σ') := by
  have h1 := Int.tmod_lt_of_pos b (show (0 : Int) < 3 by omega)
  have h2 := Int.lt_tmod_of_pos b (show (0 : Int) < 3 by omega)
  have hr : (IntKind.wrap .i64 (b.tmod 3 + 3)).tmod 3 = 0 ∨ (IntKind.wrap .i64 (b.tmod 3 + 3)).tmod 3 = 1 ∨ (IntKind.wrap .i64 (b.tmod 3 + 3)).tmod 3 = 2 := by
    rw [wrap_in _ (by omega)]
    have h3 := Int.tmod_lt_of_pos (b.tmod 3 + 3) (show (0 : Int) < 3 by omega)
    have h4 := Int.tmod_nonneg 3 (show (0 : Int) ≤ b.tmod 3 + 3 by omega)
    omega
  have key : ∀ lo hi r, decide (a < 64) = lo → decide (a > 131072) = hi → (IntKind.wrap .i64 (b.tmod 3 + 3)).tmod 3 = r → go lo hi r = some (.bool true) → ∃ B, Valid (val a b) B ∧ ∃ σ', reck Try.prog tab 41 5 [.tok B .i64 0, .tok B .i64 1] [] = some (.bool true, σ') :=
    fun lo hi r hl hh hr hg => ⟨facts lo hi r, valid a b lo hi r hl hh hr, reck_over (i := i5) (c := Try.f5.body.get!) rfl rfl rfl rfl rfl awakeAt hg⟩
  by_cases c1 : a < 64
  · have c2 : ¬ a > 131072 := by omega
    rcases hr with h | h | h
    · exact key true false 0 (decide_eq_true c1) (decide_eq_false c2) h go0
    · exact key true false 1 (decide_eq_true c1) (decide_eq_false c2) h go1
    · exact key true false 2 (decide_eq_true c1) (decide_eq_false c2) h go2
  · by_cases c2 : a > 131072
    · rcases hr with h | h | h
      · exact key false true 0 (decide_eq_false c1) (decide_eq_true c2) h go3
      · exact key false true 1 (decide_eq_false c1) (decide_eq_true c2) h go4
      · exact key false true 2 (decide_eq_false c1) (decide_eq_true c2) h go5
    · rcases hr with h | h | h
      · exact key false false 0 (decide_eq_false c1) (decide_eq_false c2) h go6
      · exact key false false 1 (decide_eq_false c1) (decide_eq_false c2) h go7
      · exact key false false 2 (decide_eq_false c1) (decide_eq_false c2) h go8
end Go.Proofs.Ytnglipioaippoaa.T.Sizes
namespace Go.Proofs.Ytnglipioaippoaa.diskSizes
open Go.ChangeShapes Go.WideShapes Go.ChangeAt Go.RowKit Go.Dx
set_option linter.unusedVariables false
theorem own : ownKnob Try.prog.godebug = none := by kernel_rfl

theorem walk (a0 a1 : Int) (w : World) : Calls Try.prog 5 #[.int .i64 a0, .int .i64 a1] w fun e w' => e = .returned (.bool true) ∧ Below w.heap.size w w' := by
  obtain ⟨B, hB, σ', h⟩ := T.Sizes.all a0 a1
  refine walk_of (v := T.Sizes.val a0 a1) T.tab_ok T.mixed Try.func5 rfl (by kernel_rfl) h ⟨rfl, fun j v u hv hu => ?_⟩
  rcases j with _ | _ | j
  · simp at hv hu; subst hv; subst hu; exact .tok B .i64 0 hB
  · simp at hv hu; subst hv; subst hu; exact .tok B .i64 1 hB
  · simp at hv

set_option maxRecDepth 100000 in
theorem lifted (os : Os) (started : os.Started) (H : Type) (enc : TypeId × Value → H) :
    ReturnsInHanded {} Try.checked os 5 .any (Rows.diskSizesSpec.pre6 enc Try.prog Try.f5 Rows.diskSizesRow.domain false) (Rows.diskSizesSpec.post enc Try.prog Try.f5 false true false false) := by
  refine returnsInHanded_of_change (C := Try.checked) own started (by kernel_rfl) Try.func5
    (ChangeSpec.witness6 (enc := enc) (C := Try.checked) false ⟨#[], #[.int .i64 0, .int .i64 0], []⟩ 8 (by kernel_rfl) (by kernel_rfl) (by kernel_rfl) (by kernel_rfl)) ?_
  intro W base args ds gs before hval0 hW hcnd _
  have hval : ∀ (j : Nat) t v, Try.f5.params[j]? = some t → args[j]? = some v → Value.okWide Try.prog W .any base t v := hval0
  have hW' := hW
  obtain ⟨p, q, hA0, hV, rfl, hfz, hnd⟩ := hW
  have hA : DataW.TrodAll enc Try.prog W 0 (fun _ => true) true Try.f5.params.toList args.toList ds p := hA0
  rw [Try.params5] at hA hval
  obtain ⟨v0, vs0, d0, ds0, p0, q0, hargs, rfl, rfl, h0, r0⟩ := trodAll_cons hA
  obtain ⟨v1, vs1, d1, ds1, p1, q1, rfl, rfl, rfl, h1, r1⟩ := trodAll_cons r0
  obtain ⟨rfl, rfl, rfl⟩ := trodAll_nil r1
  obtain rfl : args = #[v0, v1] := by cases args; simp_all
  obtain ⟨rfl, rfl⟩ := trodVars_none hV
  obtain ⟨a0, rfl, rfl, rfl, w0⟩ := open_int Try.underlying3 (hval 0 3 v0 rfl rfl) h0
  obtain ⟨a1, rfl, rfl, rfl, w1⟩ := open_int Try.underlying3 (hval 1 3 v1 rfl rfl) h1
  clear hA0 hval0
  simp only [List.append_nil] at hW'
  refine (walk a0 a1 W).mono fun e W' ⟨he, bel⟩ => ?_
  subst he
  exact ⟨_, rfl, _, _, _, [], _, [], hW', trodAll_mk1 (shut_bool Try.underlying4 _), (trodAll_cons_mk (shut_int Try.underlying3 w0) (trodAll_cons_mk (shut_int Try.underlying3 w1) trodAll_mk0)), rfl, bel.frame _, fun h => by cases h⟩


theorem over : Rows.diskSizesRow.holds Try.pinned (OpenSpec.ofChange Rows.diskSizesSpec) :=
  OpenClaim.holds_of_wide 5 Try.f5 rfl rfl rfl rfl rfl rfl rfl ⟨rfl, rfl, rfl, rfl, rfl⟩ rfl rfl rfl rfl rfl (by kernel_rfl) Try.func5 (by kernel_rfl)
    (of_decide_eq_true (by kernel_rfl)) (by unfold Func.isWrapper; first | (rw [if_pos (by decide +kernel)]; kernel_rfl) | (rw [if_neg (by decide +kernel)]; exact ⟨rfl, rfl⟩))
    (fun os started H enc _ => lifted os started H enc)

/-- THE STATEMENT -/
theorem proved : Rows.DiskSizesSaid :=
  over
#print axioms proved
end Go.Proofs.Ytnglipioaippoaa.diskSizes
