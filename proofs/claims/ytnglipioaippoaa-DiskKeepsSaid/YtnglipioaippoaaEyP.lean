/- Calls, reckoned, where calls at any depth are known. -/
import Derived.Test.YtnglipioaippoaaEyO
namespace Go.Dx
variable {V : Nm → Prop}
section
variable {P : Program} {fns : FuncId → Option FnI}

noncomputable def bodyW (P : Program) (fns : FuncId → Option FnI) (call : CallF) (i : FnI) (c : Code) (args : List AV) (σ : Heap) : Option (AV × Heap) :=
  if decide (args.length ≤ i.fn.ntmps) && (shapeD c).isNone then
    endA P i (codeA P i.heapy call (drawA P (modesOf fns) i.heapy call i.fn.ntmps) i.fn.ntmps i.rounds i.keep c ⟨σ, initE 0 args⟩)
  else none
noncomputable def runW (P : Program) (fns : FuncId → Option FnI) (call : CallF) (args : List AV) (σ : Heap) : Option FnI → Option (AV × Heap)
  | none => none
  | some i => match i.fn.body with
    | none => if Nat.beq i.mode 7 then (extA args).map (·, σ) else none
    | some c => modeA (bodyW P fns call i c) i.mode args σ
noncomputable def stepC (P : Program) (fns : FuncId → Option FnI) (call : CallF) (f : FuncId) (args : List AV) (σ : Heap) : Option (AV × Heap) → Option (AV × Heap)
  | some r => some r
  | none => runW P fns call args σ (fns f)
noncomputable def callW (P : Program) (fns : FuncId → Option FnI) (ovr : CallF) (m : Nat) : CallF :=
  Nat.rec (motive := fun _ => CallF) (fun _ _ _ => none) (fun _ ih f args σ => stepC P fns ih f args σ (ovr f args σ)) m

theorem runW_ok (ht : Tab P fns) (hmix : P.follows .mixedOrders = true) {call : CallF} (hc : ∀ f args σ r, call f args σ = some r → CallOK V P f args σ r) (hs : ∀ f args σ r, modesOf fns f ≠ 0 → call f args σ = some r → r.2 = σ)
    {f : FuncId} {args : List AV} {σ : Heap} {r : AV × Heap} (h : runW P fns call args σ (fns f) = some r) : CallOK V P f args σ r ∧ (modesOf fns f ≠ 0 → r.2 = σ) := by
  cases hi : fns f with
  | none => rw [hi] at h; cases h
  | some i =>
    rw [hi] at h
    simp only [runW] at h
    obtain ⟨⟨hf, hname⟩, hx⟩ := ht f i hi
    split at h
    · split at h
      · rename_i hm
        rcases hx with hx | ⟨x1, x2, x3⟩
        · rw [hx] at hm; cases hm
        · obtain ⟨v, hv, rfl⟩ := Option.map_eq_some_iff.1 h
          exact ⟨.inr ⟨rfl, fun k w us hu => ext_ok hf hname x1 x2 x3 hv hu⟩, fun _ => rfl⟩
      · cases h
    · rename_i c hb
      refine ⟨.inl ⟨⟨i.fn, hf, hname, by rw [hb]; rfl⟩, fun k w us hR hv => ?_⟩, fun hm => ?_⟩
      · refine bare_ok (C := fun us w R => Calls P f us w R) (fun us w R R' hC hR => Calls.mono hC hR) (fun args σ r hr k w us hR hv => ?_) h hR hv
        unfold bodyW at hr
        split at hr
        · rename_i hn'
          simp only [Bool.and_eq_true, decide_eq_true_eq] at hn'
          exact calls_of_wp hf hb (plain_ok (draw := drawA P (modesOf fns)) hc (fun heapy n => draw_ok hmix hc hs) hn'.1 hr hR hv)
        · cases hr
      · have hm' : i.mode ≠ 0 := by unfold modesOf at hm; rw [hi] at hm; exact hm
        exact modeA_same hm' h
theorem callW_ok (ht : Tab P fns) (hmix : P.follows .mixedOrders = true) {ovr : CallF} (ho : ∀ f args σ r, ovr f args σ = some r → CallOK V P f args σ r) (hos : ∀ f args σ r, modesOf fns f ≠ 0 → ovr f args σ = some r → r.2 = σ) :
    ∀ (m : Nat) (f : FuncId) (args : List AV) (σ : Heap) (r : AV × Heap), callW P fns ovr m f args σ = some r → CallOK V P f args σ r ∧ (modesOf fns f ≠ 0 → r.2 = σ)
  | 0, f, args, σ, r, h => by cases h
  | m + 1, f, args, σ, r, h => by
    have ih := callW_ok ht hmix ho hos m
    have h' : stepC P fns (callW P fns ovr m) f args σ (ovr f args σ) = some r := h
    cases hv : ovr f args σ with
    | some r' =>
      rw [hv] at h'
      injection h' with h'; subst h'
      exact ⟨ho f args σ r' hv, fun hm => hos f args σ r' hm hv⟩
    | none =>
      rw [hv] at h'
      exact runW_ok ht hmix (fun f args σ r h => (ih f args σ r h).1) (fun f args σ r hm h => (ih f args σ r h).2 hm) h'
/-- One function's text, run, where calls at any depth are known. -/
theorem bodyW_ok (ht : Tab P fns) (hmix : P.follows .mixedOrders = true) {ovr : CallF} (ho : ∀ f args σ r, ovr f args σ = some r → CallOK V P f args σ r) (hos : ∀ f args σ r, modesOf fns f ≠ 0 → ovr f args σ = some r → r.2 = σ)
    {m : Nat} {f : FuncId} {i : FnI} {c : Code} (hi : fns f = some i) (hb : i.fn.body = some c) {args : List AV} {σ : Heap} {r : AV × Heap} (h : bodyW P fns (callW P fns ovr m) i c args σ = some r) : CallIn V P f args σ r := by
  obtain ⟨⟨hf, hname⟩, _⟩ := ht f i hi
  have ih := callW_ok ht hmix ho hos m
  refine ⟨⟨i.fn, hf, hname, by rw [hb]; rfl⟩, fun k w us hR hv => ?_⟩
  unfold bodyW at h
  split at h
  · rename_i hn'
    simp only [Bool.and_eq_true, decide_eq_true_eq] at hn'
    exact calls_of_wp hf hb (plain_ok (draw := drawA P (modesOf fns)) (fun f args σ r h => (ih f args σ r h).1) (fun heapy n => draw_ok hmix (fun f args σ r h => (ih f args σ r h).1) (fun f args σ r hm h => (ih f args σ r h).2 hm)) hn'.1 h hR hv)
  · cases h
end
end Go.Dx
