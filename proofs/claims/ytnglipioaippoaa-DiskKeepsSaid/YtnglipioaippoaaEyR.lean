/- A piece of a function's text, run with told values, where some calls are known. -/
import Derived.Test.YtnglipioaippoaaEyQ
namespace Go.Dx
section
variable {P : Program} {fns : FuncId → Option FnI}
noncomputable def runI (P : Program) (fns : FuncId → Option FnI) (i : FnI) (known : List (FuncId × List AV × AV)) (live : List Nat) (c : Code) (ρ : Env) (σ : Heap) : Option (AX × Env × Heap) :=
  (codeA P i.heapy (callW P fns (ovrL known) 3) (drawA P (modesOf fns) i.heapy (callW P fns (ovrL known) 3) i.fn.ntmps) i.fn.ntmps i.rounds i.keep c ⟨σ, ρ⟩).map (fun r => (r.1, prune live r.2.ρ, r.2.σ))
theorem goes_run (ht : Tab P fns) (hmix : P.follows .mixedOrders = true) {v : Nm} {known : List (FuncId × List AV × AV)} (hk : ∀ x ∈ known, ∀ σ, CallOK (fun x => x = v) P x.1 x.2.1 σ (x.2.2, σ)) {i : FnI} {live : List Nat}
    {c : Code} {E ρT ρ1 E' : Env} {M σT σ1 M' : Heap} {x : AX} (run : runI P fns i known live c ρT σT = some (x, ρ1, σ1))
    (lE : ET (Up v) E ρT) (lM : All2 (BT (Up v)) M σT) (oE : ET (Down v) ρ1 E') (oM : All2 (BD (Down v)) σ1 M') : Goes P i.fn.ntmps c E M x E' M' := by
  have hc := callW_ok ht hmix (V := fun x => x = v) (fun f args σ r h => (ovrL_ok hk f args σ r h).1) (fun f args σ r _ h => (ovrL_ok hk f args σ r h).2) 3
  exact goes_told (fun f args σ r h => (hc f args σ r h).1) (draw_ok hmix (fun f args σ r h => (hc f args σ r h).1) fun f args σ r hm h => (hc f args σ r h).2 hm) run lE lM oE oM
theorem All2.map {α β γ : Type} {R : β → γ → Prop} {f : α → β} {l : List α} {m : List γ} (h : All2 (fun a c => R (f a) c) l m) : All2 R (l.map f) m := by
  induction h with
  | nil => exact .nil
  | cons h _ ih => exact .cons h ih
theorem All2.mapR {α β γ : Type} {R : γ → β → Prop} {f : α → β} {l : List γ} {m : List α} (h : All2 (fun c a => R c (f a)) l m) : All2 R l (m.map f) := by
  induction h with
  | nil => exact .nil
  | cons h _ ih => exact .cons h ih
theorem loVs_ups (n : Nat) : ∀ l : List PV, loVs n (l.map up) = true
  | [] => rfl
  | p :: r => by
    simp only [List.map_cons, loVs, Bool.and_eq_true]
    exact ⟨by cases p <;> rfl, loVs_ups n r⟩
/-- Numbers, plain values, in a row. -/
def nm (l : List Int) (ps : List PV) : Nm := ⟨fun j => l[j]?.getD 0, fun j => ps[j]?.getD .nilp⟩
end
end Go.Dx
