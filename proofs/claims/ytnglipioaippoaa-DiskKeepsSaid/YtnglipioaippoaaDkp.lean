/- DiskKeeps: for every two lists of bytes, two places, list of truths and part true, and the input reads as it did. -/
import Derived.Test.YtnglipioaippoaaRows
import Derived.WalkKit
import Derived.ProofKit
import Derived.OpenShut
import Derived.ShutString
import Derived.ChangeOld
import Derived.Below
import Derived.Carry
import Derived.Test.YtnglipioaippoaaDk8
import Derived.Test.YtnglipioaippoaaOpA
namespace Go.Proofs.Ytnglipioaippoaa.T.Disk
open Go.Dx Go.Proofs
theorem pt_by {P : Program} (h22 : P.underlying 22 = some (.slice 5)) (h5 : P.underlying 5 = some (.int .u8)) {n : Nat} {p : PV} (h : PT P n 22 [p]) : ∃ es, ByP p es := by
  cases n with
  | zero => exact (show False from h).elim
  | succ n =>
    unfold PT at h
    rw [h22] at h
    cases p <;> simp only at h
    · exact ⟨[], rfl, rfl, fun e he => by simp at he⟩
    · exact ⟨[], rfl, rfl, fun e he => by simp at he⟩
    · rename_i f es
      cases f <;> simp only at h
      refine ⟨es, rfl, rfl, fun e he => ?_⟩
      obtain ⟨_, h3⟩ := h.2 e he
      cases n with
      | zero => exact (show False from h3).elim
      | succ n =>
        unfold PT at h3
        rw [h5] at h3
        rcases e with _ | ⟨q, _ | ⟨q2, r⟩⟩
        · exact (show False from h3).elim
        · cases q <;> simp only at h3
          obtain ⟨rfl, _⟩ := h3
          exact ⟨_, rfl⟩
        · cases q <;> simp only at h3
theorem pt_ke {P : Program} (h23 : P.underlying 23 = some (.slice 4)) (h4 : P.underlying 4 = some .bool) {n : Nat} {p : PV} (h : PT P n 23 [p]) : ∃ ks, KeP p ks := by
  cases n with
  | zero => exact (show False from h).elim
  | succ n =>
    unfold PT at h
    rw [h23] at h
    cases p <;> simp only at h
    · exact ⟨[], rfl, rfl, fun e he => by simp at he⟩
    · exact ⟨[], rfl, rfl, fun e he => by simp at he⟩
    · rename_i f es
      cases f <;> simp only at h
      refine ⟨es, rfl, rfl, fun e he => ?_⟩
      obtain ⟨_, h3⟩ := h.2 e he
      cases n with
      | zero => exact (show False from h3).elim
      | succ n =>
        unfold PT at h3
        rw [h4] at h3
        rcases e with _ | ⟨q, _ | ⟨q2, r⟩⟩
        · exact (show False from h3).elim
        · cases q <;> simp only at h3
          exact ⟨_, rfl⟩
        · cases q <;> simp only at h3
end Go.Proofs.Ytnglipioaippoaa.T.Disk
namespace Go.Proofs.Ytnglipioaippoaa.diskKeeps
open Go.ChangeShapes Go.WideShapes Go.ChangeAt Go.RowKit Go.Dx T.Disk
set_option linter.unusedVariables false
theorem own : ownKnob Try.prog.godebug = none := by kernel_rfl
theorem laidOut : laidOutB Try.prog = true := by kernel_rfl
def shapes : List TypeId := [22, 5, 23, 4]
theorem shapesOk : okS Try.prog shapes = true := by kernel_rfl

/-- A slice among the arguments, told as a plain value. -/
theorem open_sl {H : Type} {enc : TypeId × Value → H} {w : World} {t : TypeId} {v : Value} (hv : v.cells = #[v]) {d : DataW H} {p : List MemPlace} (ht : t ∈ shapes) (h : DataW.Trod enc Try.prog w 0 (fun _ => true) true t v d p) :
    ∃ (n : Nat) (q : PV), PT Try.prog n t [q] ∧ PRel (fun b => w.heap[b]?) q v := by
  obtain ⟨n, h⟩ := h
  obtain ⟨ps, h1, h2, h3⟩ := open_pv shapesOk n t _ _ ht h
  rw [hv] at h1 h3
  rcases ps with _ | ⟨q, _ | ⟨q2, r⟩⟩
  · simp at h1
  · exact ⟨n, q, h2, h3 0 q v rfl rfl⟩
  · simp at h1

theorem walk {w : World} {a b ke : PV} {ea eb ks : List (List PV)} {va vb vk : Value} {at' to part : Int} (ha : ByP a ea) (hb : ByP b eb) (hk : KeP ke ks) (ra : PRel (fun b => w.heap[b]?) a va) (rb : PRel (fun b => w.heap[b]?) b vb) (rk : PRel (fun b => w.heap[b]?) ke vk) :
    Calls Try.prog 3 #[va, vb, .int .i64 at', .int .i64 to, vk, .int .i64 part] w fun e w' => e = .returned (.bool true) ∧ Below w.heap.size w w' := by
  obtain ⟨σ', h⟩ := T.Disk.law (at' := at') (to := to) (part := part) ha hb hk (fun x => x = (⟨fun _ => 0, fun _ => .nilp⟩ : Nm))
  have hv : VRels (kn0 w) [up a, up b, .int .i64 at', .int .i64 to, up ke, .int .i64 part] (#[va, vb, .int .i64 at', .int .i64 to, vk, .int .i64 part]).toList := ⟨rfl, fun j x u hx hu => by
    rcases j with _ | _ | _ | _ | _ | _ | j
    · simp at hx hu; subst hx; subst hu; exact VRel.of_up ra
    · simp at hx hu; subst hx; subst hu; exact VRel.of_up rb
    · simp at hx hu; subst hx; subst hu; exact .int _ _
    · simp at hx hu; subst hx; subst hu; exact .int _ _
    · simp at hx hu; subst hx; subst hu; exact VRel.of_up rk
    · simp at hx hu; subst hx; subst hu; exact .int _ _
    · simp at hx⟩
  refine Calls.mono (h.2 (kn0 w) w #[va, vb, .int .i64 at', .int .i64 to, vk, .int .i64 part] (rel0 w _) hv) fun e w' he => ?_
  obtain ⟨k', u, rfl, hu, hst⟩ := he
  cases hu
  exact ⟨rfl, hst.below⟩

set_option maxRecDepth 100000 in
theorem lifted (os : Os) (started : os.Started) (H : Type) (enc : TypeId × Value → H) :
    ReturnsInHanded {} Try.checked os 3 .any (Rows.diskKeepsSpec.pre6 enc Try.prog Try.f3 Rows.diskKeepsRow.domain false) (Rows.diskKeepsSpec.post enc Try.prog Try.f3 false true false false) := by
  refine returnsInHanded_of_change (C := Try.checked) own started (by kernel_rfl) Try.func3
    (ChangeSpec.witness6 (enc := enc) (C := Try.checked) false ⟨#[], #[.slice none 0 0, .slice none 0 0, .int .i64 0, .int .i64 0, .slice none 0 0, .int .i64 0], []⟩ 8 (by kernel_rfl) (by kernel_rfl) (by kernel_rfl) (by kernel_rfl)) ?_
  intro W base args ds gs before hval0 hW hcnd _
  have hval : ∀ (j : Nat) t v, Try.f3.params[j]? = some t → args[j]? = some v → Value.okWide Try.prog W .any base t v := hval0
  have hW' := hW
  obtain ⟨p, q, hA0, hV, rfl, hfz, hnd⟩ := hW
  have hA : DataW.TrodAll enc Try.prog W 0 (fun _ => true) true Try.f3.params.toList args.toList ds p := hA0
  rw [Try.params3] at hA hval
  obtain ⟨v0, vs0, d0, ds0, p0, q0, hargs, rfl, rfl, h0, r0⟩ := trodAll_cons hA
  obtain ⟨v1, vs1, d1, ds1, p1, q1, rfl, rfl, rfl, h1, r1⟩ := trodAll_cons r0
  obtain ⟨v2, vs2, d2, ds2, p2, q2, rfl, rfl, rfl, h2, r2⟩ := trodAll_cons r1
  obtain ⟨v3, vs3, d3, ds3, p3, q3, rfl, rfl, rfl, h3, r3⟩ := trodAll_cons r2
  obtain ⟨v4, vs4, d4, ds4, p4, q4, rfl, rfl, rfl, h4, r4⟩ := trodAll_cons r3
  obtain ⟨v5, vs5, d5, ds5, p5, q5, rfl, rfl, rfl, h5, r5⟩ := trodAll_cons r4
  obtain ⟨rfl, rfl, rfl⟩ := trodAll_nil r5
  obtain rfl : args = #[v0, v1, v2, v3, v4, v5] := by cases args; simp_all
  obtain ⟨rfl, rfl⟩ := trodVars_none hV
  obtain ⟨a0, l0, c0, rfl⟩ := okWide_slice Try.underlying22 (hval 0 22 v0 rfl rfl)
  obtain ⟨a1, l1, c1, rfl⟩ := okWide_slice Try.underlying22 (hval 1 22 v1 rfl rfl)
  obtain ⟨i2, rfl, rfl, rfl, w2⟩ := open_int Try.underlying3 (hval 2 3 v2 rfl rfl) h2
  obtain ⟨i3, rfl, rfl, rfl, w3⟩ := open_int Try.underlying3 (hval 3 3 v3 rfl rfl) h3
  obtain ⟨a4, l4, c4, rfl⟩ := okWide_slice Try.underlying23 (hval 4 23 v4 rfl rfl)
  obtain ⟨i5, rfl, rfl, rfl, w5⟩ := open_int Try.underlying3 (hval 5 3 v5 rfl rfl) h5
  clear hA0 hval0
  have lt0 : ∀ x ∈ p0, x.block < W.heap.size := fun x hx => hW'.lt x (by simp [hx])
  have lt1 : ∀ x ∈ p1, x.block < W.heap.size := fun x hx => hW'.lt x (by simp [hx])
  have lt4 : ∀ x ∈ p4, x.block < W.heap.size := fun x hx => hW'.lt x (by simp [hx])
  obtain ⟨n0, q0, t0, k0⟩ := open_sl rfl (by simp [shapes]) h0
  obtain ⟨n1, q1, t1, k1⟩ := open_sl rfl (by simp [shapes]) h1
  obtain ⟨n4, q4, t4, k4⟩ := open_sl rfl (by simp [shapes]) h4
  obtain ⟨e0, b0⟩ := pt_by Try.underlying22 Try.underlying5 t0
  obtain ⟨e1, b1⟩ := pt_by Try.underlying22 Try.underlying5 t1
  obtain ⟨e4, b4⟩ := pt_ke Try.underlying23 Try.underlying4 t4
  simp only [List.append_nil, List.nil_append] at hW'
  refine (walk b0 b1 b4 k0 k1 k4).mono fun e W' ⟨he, bel⟩ => ?_
  subst he
  have s0 := Below.trod laidOut (by kernel_rfl) (of_decide_eq_true (by kernel_rfl)) h0 bel lt0
  have s1 := Below.trod laidOut (by kernel_rfl) (of_decide_eq_true (by kernel_rfl)) h1 bel lt1
  have s4 := Below.trod laidOut (by kernel_rfl) (of_decide_eq_true (by kernel_rfl)) h4 bel lt4
  exact ⟨_, rfl, _, _, _, [], _, [], hW', trodAll_mk1 (shut_bool Try.underlying4 _), (trodAll_cons_mk s0 (trodAll_cons_mk s1 (trodAll_cons_mk (shut_int Try.underlying3 w2) (trodAll_cons_mk (shut_int Try.underlying3 w3) (trodAll_cons_mk s4 (trodAll_cons_mk (shut_int Try.underlying3 w5) trodAll_mk0)))))), rfl, bel.frame _, fun h => by cases h⟩


theorem over : Rows.diskKeepsRow.holds Try.pinned (OpenSpec.ofChange Rows.diskKeepsSpec) :=
  OpenClaim.holds_of_wide 3 Try.f3 rfl rfl rfl rfl rfl rfl rfl ⟨rfl, rfl, rfl, rfl, rfl⟩ rfl rfl rfl rfl rfl (by kernel_rfl) Try.func3 (by kernel_rfl)
    (of_decide_eq_true (by kernel_rfl)) (by unfold Func.isWrapper; first | (rw [if_pos (by decide +kernel)]; kernel_rfl) | (rw [if_neg (by decide +kernel)]; exact ⟨rfl, rfl⟩))
    (fun os started H enc _ => lifted os started H enc)

/-- THE STATEMENT -/
theorem proved : Rows.DiskKeepsSaid :=
  over
#print axioms proved
end Go.Proofs.Ytnglipioaippoaa.diskKeeps
