/- LogOff: for every input true, and the input reads as it did. -/
import Derived.Test.YtnglipioaippoaaRows
import Derived.WalkKit
import Derived.ProofKit
import Derived.OpenShut
import Derived.ShutString
import Derived.ChangeOld
import Derived.Below
import Derived.Test.YtnglipioaippoaaEtab
import Derived.Test.YtnglipioaippoaaEcut
namespace Go.Proofs.Ytnglipioaippoaa.T
open Go.Dx Go.Proofs

theorem mixed : Try.prog.follows .mixedOrders = true := by kernel_rfl

/-- 'Mod' at a told 'n'. -/
def modn (n a : Int) : Int := (IntKind.wrap .i64 (a.tmod n + n)).tmod n
theorem wrap_in (n : Int) (h : -9223372036854775808 ≤ n ∧ n ≤ 9223372036854775807) : IntKind.wrap .i64 n = n := by
  have hb : (2 : Int) ^ IntKind.bits .i64 = 18446744073709551616 := rfl
  have hb1 : (2 : Int) ^ (IntKind.bits .i64 - 1) = 9223372036854775808 := rfl
  have hs : IntKind.signed .i64 = true := rfl
  unfold IntKind.wrap
  simp only [hb, hb1, hs, Bool.true_and, decide_eq_true_eq, ge_iff_le]
  split <;> omega
theorem modn_range (n a : Int) (h : 0 < n) (h2 : n < 1000000) : 0 ≤ modn n a ∧ modn n a < n := by
  unfold modn
  have h1 := Int.tmod_lt_of_pos a h
  have h3 : -n < a.tmod n := by
    have := Int.lt_tmod_of_pos a h
    omega
  rw [wrap_in _ (by omega)]
  exact ⟨Int.tmod_nonneg _ (by omega), Int.tmod_lt_of_pos _ h⟩

namespace LOff
noncomputable def c : Code := Try.f6.body.get!
noncomputable abbrev run (l : List Code) (s : St) : Option (AX × St) := runs Try.prog false (reck Try.prog tab 40) (drawA Try.prog (modesOf tab) false (reck Try.prog tab 40) i6.fn.ntmps) i6.fn.ntmps rounds i6.keep l s
def zs : Blk := .row 5 1 (List.replicate 64 [.int .u8 0]) [(0, 64)] 1
def st (a x : Int) : St := ⟨[zs, zs, .row 72 6 [[.sl 0 0 0 64, .bool false, .bool false, .int .i64 0, .sl 1 0 0 64, .nils]] [(0, 1)] 1], [(0, .int .i64 a), (2, .bool false), (3, .nilp), (4, .int .i64 5), (5, .ptr 2 0 0 0), (7, .int .i64 x), (20, .bool false)]⟩
theorem pre (a : Int) : run ((flat c).take 6) ⟨[], initE 0 [.int .i64 a]⟩ = some (.nrm, st a (modn 4 a)) := by kernel_rfl
theorem post0 (a : Int) : (endA Try.prog i6 (run ((flat c).drop 6) (st a 0))).map (·.1) = some (.bool true) := by kernel_rfl
theorem post1 (a : Int) : (endA Try.prog i6 (run ((flat c).drop 6) (st a 1))).map (·.1) = some (.bool true) := by kernel_rfl
theorem post2 (a : Int) : (endA Try.prog i6 (run ((flat c).drop 6) (st a 2))).map (·.1) = some (.bool true) := by kernel_rfl
theorem post3 (a : Int) : (endA Try.prog i6 (run ((flat c).drop 6) (st a 3))).map (·.1) = some (.bool true) := by kernel_rfl
theorem all (a : Int) : ∃ σ', reck Try.prog tab 41 6 [.int .i64 a] [] = some (.bool true, σ') := by
  have h0 : ∀ x : Option (AV × Heap), x.map (·.1) = some (.bool true) → ∃ σ', x = some (.bool true, σ') := by
    intro x hx
    obtain ⟨⟨v, s⟩, h1, h2⟩ := Option.map_eq_some_iff.1 hx
    simp only at h2; subst h2; exact ⟨s, h1⟩
  have hr := modn_range 4 a (by omega) (by omega)
  have hp := pre a
  have key : ∀ {x}, endA Try.prog i6 (run ((flat c).drop 6) (st a (modn 4 a))) = x → reck Try.prog tab 41 6 [.int .i64 a] [] = x := by
    intro x hx
    rw [reck_run (i := i6) (c := c) rfl rfl rfl rfl rfl (cut 6 hp rfl)]
    exact hx
  have cases4 : modn 4 a = 0 ∨ modn 4 a = 1 ∨ modn 4 a = 2 ∨ modn 4 a = 3 := by omega
  rcases cases4 with h | h | h | h <;> rw [h] at key
  · obtain ⟨s, hs⟩ := h0 _ (post0 a); exact ⟨s, key hs⟩
  · obtain ⟨s, hs⟩ := h0 _ (post1 a); exact ⟨s, key hs⟩
  · obtain ⟨s, hs⟩ := h0 _ (post2 a); exact ⟨s, key hs⟩
  · obtain ⟨s, hs⟩ := h0 _ (post3 a); exact ⟨s, key hs⟩
end LOff
end Go.Proofs.Ytnglipioaippoaa.T
namespace Go.Proofs.Ytnglipioaippoaa.logOff
open Go.ChangeShapes Go.WideShapes Go.ChangeAt Go.RowKit Go.Dx
open Go.ChangeMaps (open_string shut_string)
set_option linter.unusedVariables false

theorem own : ownKnob Try.prog.godebug = none := by kernel_rfl

theorem walk (a0 : Int) (w : World) : Calls Try.prog 6 #[.int .i64 a0] w fun e w' => e = .returned (.bool true) ∧ Below w.heap.size w w' := by
  obtain ⟨σ', h⟩ := T.LOff.all a0
  refine walk_of T.tab_ok T.mixed h ⟨rfl, fun j v u hv hu => ?_⟩
  rcases j with _ | j
  · simp at hv hu; subst hv; subst hu; exact .int _ _
  · simp at hv

set_option maxRecDepth 100000 in
theorem lifted (os : Os) (started : os.Started) (H : Type) (enc : TypeId × Value → H) :
    ReturnsInHanded {} Try.checked os 6 .any (Rows.logOffSpec.pre6 enc Try.prog Try.f6 Rows.logOffRow.domain false) (Rows.logOffSpec.post enc Try.prog Try.f6 false true false false) := by
  refine returnsInHanded_of_change (C := Try.checked) own started (by kernel_rfl) Try.func6
    (ChangeSpec.witness6 (enc := enc) (C := Try.checked) false ⟨#[], #[.int .i64 0], []⟩ 8 (by kernel_rfl) (by kernel_rfl) (by kernel_rfl) (by kernel_rfl)) ?_
  intro W base args ds gs before hval0 hW hcnd _
  have hval : ∀ (j : Nat) t v, Try.f6.params[j]? = some t → args[j]? = some v → Value.okWide Try.prog W .any base t v := hval0
  have hW' := hW
  obtain ⟨p, q, hA0, hV, rfl, hfz, hnd⟩ := hW
  have hA : DataW.TrodAll enc Try.prog W 0 (fun _ => true) true Try.f6.params.toList args.toList ds p := hA0
  rw [Try.params6] at hA hval
  obtain ⟨v0, vs0, d0, ds0, p0, q0, hargs, rfl, rfl, h0, r0⟩ := trodAll_cons hA
  obtain ⟨rfl, rfl, rfl⟩ := trodAll_nil r0
  obtain rfl : args = #[v0] := by cases args; simp_all
  obtain ⟨rfl, rfl⟩ := trodVars_none hV
  obtain ⟨a0, rfl, rfl, rfl, w0⟩ := open_int Try.underlying3 (hval 0 3 v0 rfl rfl) h0
  clear hA0 hval0
  refine (walk a0 W).mono fun e W' ⟨he, bel⟩ => ?_
  subst he
  exact ⟨_, rfl, _, _, _, [], _, [], hW', trodAll_mk1 (shut_bool Try.underlying4 _), (trodAll_cons_mk (shut_int Try.underlying3 w0) trodAll_mk0), rfl, bel.frame _, fun h => by cases h⟩

theorem over : Rows.logOffRow.holds Try.pinned (OpenSpec.ofChange Rows.logOffSpec) :=
  OpenClaim.holds_of_wide 6 Try.f6 rfl rfl rfl rfl rfl rfl rfl ⟨rfl, rfl, rfl, rfl, rfl⟩ rfl rfl rfl rfl rfl (by kernel_rfl) Try.func6 (by kernel_rfl)
    (of_decide_eq_true (by kernel_rfl)) (by unfold Func.isWrapper; first | (rw [if_pos (by decide +kernel)]; kernel_rfl) | (rw [if_neg (by decide +kernel)]; exact ⟨rfl, rfl⟩))
    (fun os started H enc _ => lifted os started H enc)

/-- THE STATEMENT -/
theorem proved : Rows.LogOffSaid := over
end Go.Proofs.Ytnglipioaippoaa.logOff
#print axioms Go.Proofs.Ytnglipioaippoaa.logOff.proved
