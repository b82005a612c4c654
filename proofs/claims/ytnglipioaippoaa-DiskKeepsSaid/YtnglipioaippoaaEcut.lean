/- Code, cut at a place. -/
import Derived.Test.YtnglipioaippoaaEyJ
import Derived.RowKit3
import Derived.Below
namespace Go.Dx
variable {V : Nm → Prop}
open Go.RowKit
noncomputable def flat : Code → List Code
  | .seq x y => flat x ++ flat y
  | c => [c]
section
variable (P : Program) (heapy : Bool) (call : CallF) (draw : DrawF) (n fuel : Nat) (keep : List Nat)
noncomputable def runs : List Code → St → Option (AX × St)
  | [], s => some (.nrm, s)
  | c :: r, s => match codeA P heapy call draw n fuel keep c s with
    | some (.nrm, s') => runs r s'
    | x => x
theorem runs_append : ∀ (l m : List Code) (s : St), runs P heapy call draw n fuel keep (l ++ m) s = match runs P heapy call draw n fuel keep l s with
    | some (.nrm, s') => runs P heapy call draw n fuel keep m s'
    | x => x
  | [], m, s => rfl
  | c :: r, m, s => by
    simp only [List.cons_append, runs]
    split
    · rename_i s' hs
      exact runs_append r m s'
    · rename_i hne
      split
      · rename_i s' hs; exact absurd hs (hne s')
      · rfl
theorem codeA_flat : ∀ (c : Code) (s : St), codeA P heapy call draw n fuel keep c s = runs P heapy call draw n fuel keep (flat c) s := by
  have one : ∀ (c : Code) (s : St), flat c = [c] → codeA P heapy call draw n fuel keep c s = runs P heapy call draw n fuel keep (flat c) s := by
    intro c s hc
    rw [hc]
    simp only [runs]
    split
    · rename_i h; exact h
    · rfl
  intro c
  induction c with
  | seq x y ihx ihy =>
    intro s
    simp only [codeA_seq, flat]
    rw [runs_append, ← ihx]
    cases h : codeA P heapy call draw n fuel keep x s with
    | none => rfl
    | some r =>
      obtain ⟨e, s'⟩ := r
      cases e with
      | nrm => exact ihy s'
      | _ => rfl
  | _ => intro s; exact one _ s rfl
variable {P heapy call draw n fuel keep}
theorem cut (k : Nat) {c : Code} {s s1 : St} {r : Option (AX × St)} (h1 : runs P heapy call draw n fuel keep ((flat c).take k) s = some (.nrm, s1)) (h2 : runs P heapy call draw n fuel keep ((flat c).drop k) s1 = r) : codeA P heapy call draw n fuel keep c s = r := by
  rw [codeA_flat, ← List.take_append_drop k (flat c), runs_append, h1]
  exact h2
end

/-- A function of the table, run: what its code comes to. -/
theorem reck_run {P : Program} {fns : FuncId → Option FnI} {m : Nat} {f : FuncId} {args : List AV} {σ : Heap} {i : FnI} {c : Code} (hf : fns f = some i) (hc : i.fn.body = some c) (hs : shapeD c = none) (hm : i.mode = 0) (hl : decide (args.length ≤ i.fn.ntmps) = true) {x : Option (AX × St)}
    (h : codeA P i.heapy (reck P fns m) (drawA P (modesOf fns) i.heapy (reck P fns m) i.fn.ntmps) i.fn.ntmps i.rounds i.keep c ⟨σ, initE 0 args⟩ = x) : reck P fns (m + 1) f args σ = endA P i x := by
  have hl' : args.length ≤ i.fn.ntmps := of_decide_eq_true hl
  unfold reck callA
  simp only [hf, hc, hm, modeA, if_pos hl', runA, hs]
  rw [← h]
  rfl

/-- A function without arguments that runs on a memory of its own: the same wherever it is called. -/
theorem pure_at {P : Program} {fns : FuncId → Option FnI} {m : Nat} {f : FuncId} {i : FnI} {c : Code} (hf : fns f = some i) (hc : i.fn.body = some c) (hm : i.mode = 2) {v : AV} (h : (reck P fns (m + 1) f [] []).map (·.1) = some v) (σ : Heap) : reck P fns (m + 1) f [] σ = some (v, σ) := by
  obtain ⟨⟨v', s⟩, h1, h2⟩ := Option.map_eq_some_iff.1 h
  simp only at h2; subst h2
  unfold reck callA at h1 ⊢
  simp only [hf, hc, hm, modeA, mapO] at h1 ⊢
  split at h1
  · rename_i r s' hr
    split at h1
    · rename_i hsc
      injection h1 with h1; injection h1 with h1 h2
      subst h1
      rw [if_pos hsc]
    · cases h1
  · cases h1
/-- A call that is known, ahead of what is reckoned. -/
noncomputable def overC (f0 : FuncId) (v : AV) (call : CallF) : CallF := fun f args σ => match Nat.beq f f0, args with
  | true, [] => some (v, σ)
  | _, _ => call f args σ
theorem overC_eq {f0 : FuncId} {v : AV} {call : CallF} (h : ∀ σ, call f0 [] σ = some (v, σ)) : call = overC f0 v call := by
  funext f args σ
  unfold overC
  cases hb : Nat.beq f f0 with
  | false => rfl
  | true =>
    have : f = f0 := Nat.eq_of_beq_eq_true hb
    subst this
    cases args with
    | nil => exact h σ
    | cons _ _ => rfl
/-- The same, where calls are known. -/
theorem pure_by {P : Program} {fns : FuncId → Option FnI} {m : Nat} {f : FuncId} {i : FnI} {c : Code} (hf : fns f = some i) (hc : i.fn.body = some c) (hm : i.mode = 2) {call : CallF} (h0 : reck P fns m = call) {v : AV} (hv : scalA v = true)
    (h : (runA P call (onlyD fns call) (drawA P (modesOf fns)) i c [] []).map (·.1) = some v) (σ : Heap) : reck P fns (m + 1) f [] σ = some (v, σ) := by
  subst h0
  obtain ⟨⟨v', s⟩, h1, h2⟩ := Option.map_eq_some_iff.1 h
  simp only at h2; subst h2
  unfold reck at h1 ⊢
  unfold callA
  simp only [hf, hc, hm, modeA, mapO, List.length_nil, Nat.zero_le, if_true, h1, hv]
/-- A function of a text that runs on a memory of its own: the same wherever it is called. -/
theorem text_at {P : Program} {fns : FuncId → Option FnI} {m : Nat} {f : FuncId} {i : FnI} {c : Code} (hf : fns f = some i) (hc : i.fn.body = some c) (hm : i.mode = 1) {s : ByteArray} {v : AV} (h : (reck P fns (m + 1) f [.str s] []).map (·.1) = some v) (σ : Heap) : reck P fns (m + 1) f [.str s] σ = some (v, σ) := by
  obtain ⟨⟨v', s'⟩, h1, h2⟩ := Option.map_eq_some_iff.1 h
  simp only at h2; subst h2
  unfold reck callA at h1 ⊢
  simp only [hf, hc, hm, modeA] at h1 ⊢
  split at h1
  · rename_i hall
    rw [if_pos hall]
    split at h1
    · rename_i r σ' hr
      obtain ⟨x, hx, he⟩ := Option.map_eq_some_iff.1 h1
      injection he with he1 he2
      subst he1
      rw [hx]; rfl
    · cases h1
  · cases h1
def lookS (s : ByteArray) : List (ByteArray × AV) → Option AV
  | [] => none
  | (t, v) :: r => cond (eqB s.data.toList t.data.toList) (some v) (lookS s r)
/-- Calls with texts that are known, ahead of what is reckoned. -/
noncomputable def overS (f0 : FuncId) (l : List (ByteArray × AV)) (call : CallF) : CallF := fun f args σ => match Nat.beq f f0, args with
  | true, [.str s] => match lookS s l with
    | some v => some (v, σ)
    | none => call f args σ
  | _, _ => call f args σ
theorem lookS_some {s : ByteArray} {v : AV} : ∀ {l : List (ByteArray × AV)}, lookS s l = some v → (s, v) ∈ l
  | [], h => by cases h
  | (t, u) :: r, h => by
    simp only [lookS] at h
    cases hb : eqB s.data.toList t.data.toList with
    | false => rw [hb] at h; exact List.mem_cons_of_mem _ (lookS_some h)
    | true =>
      rw [hb] at h
      injection h with h; subst h
      rw [eqB_eq] at hb
      have : s.data.toList = t.data.toList := by simpa using hb
      rw [str_eq this]
      exact List.mem_cons_self
theorem overS_eq {f0 : FuncId} {l : List (ByteArray × AV)} {call : CallF} (h : ∀ s v, (s, v) ∈ l → ∀ σ, call f0 [.str s] σ = some (v, σ)) : call = overS f0 l call := by
  funext f args σ
  unfold overS
  cases hb : Nat.beq f f0 with
  | false => rfl
  | true =>
    have : f = f0 := Nat.eq_of_beq_eq_true hb
    subst this
    rcases args with _ | ⟨x, _ | ⟨y, r⟩⟩
    · rfl
    · cases x with
      | str s =>
        simp only
        split
        · rename_i v hv; exact h s v (lookS_some hv) σ
        · rfl
      | _ => rfl
    · cases x <;> rfl
/-- A function of the table, run, where calls are known. -/
theorem reck_by {P : Program} {fns : FuncId → Option FnI} {m : Nat} {f : FuncId} {args : List AV} {σ : Heap} {i : FnI} {c : Code} (hf : fns f = some i) (hc : i.fn.body = some c) (hs : shapeD c = none) (hm : i.mode = 0) (hl : decide (args.length ≤ i.fn.ntmps) = true) {call : CallF} (h0 : reck P fns m = call) {v : AV}
    (h : (endA P i (codeA P i.heapy call (drawA P (modesOf fns) i.heapy call i.fn.ntmps) i.fn.ntmps i.rounds i.keep c ⟨σ, initE 0 args⟩)).map (·.1) = some v) : ∃ σ', reck P fns (m + 1) f args σ = some (v, σ') := by
  rw [reck_run hf hc hs hm hl rfl, h0]
  obtain ⟨⟨v', s⟩, h1, h2⟩ := Option.map_eq_some_iff.1 h
  simp only at h2; subst h2
  exact ⟨s, h1⟩
/-- A function of the table, run, where a call is known. -/
theorem reck_over {P : Program} {fns : FuncId → Option FnI} {m : Nat} {f : FuncId} {args : List AV} {σ : Heap} {i : FnI} {c : Code} (hf : fns f = some i) (hc : i.fn.body = some c) (hs : shapeD c = none) (hm : i.mode = 0) (hl : decide (args.length ≤ i.fn.ntmps) = true) {f0 : FuncId} {v0 : AV} (h0 : ∀ σ, reck P fns m f0 [] σ = some (v0, σ)) {v : AV}
    (h : (endA P i (codeA P i.heapy (overC f0 v0 (reck P fns m)) (drawA P (modesOf fns) i.heapy (overC f0 v0 (reck P fns m)) i.fn.ntmps) i.fn.ntmps i.rounds i.keep c ⟨σ, initE 0 args⟩)).map (·.1) = some v) : ∃ σ', reck P fns (m + 1) f args σ = some (v, σ') := by
  rw [reck_run hf hc hs hm hl rfl, overC_eq h0]
  obtain ⟨⟨v', s⟩, h1, h2⟩ := Option.map_eq_some_iff.1 h
  simp only at h2; subst h2
  exact ⟨s, h1⟩

/-- With nothing of its own at the start, a step has only laid new blocks. -/
theorem Step.below {k k' : Kn V} {w w' : World} {σ' : Heap} (h : Step k [] w k' σ' w') : Below w.heap.size w w' := by
  refine ⟨h.fr.os, h.fr.tape, h.fr.output, h.fr.size, fun i hi => h.fr.block i hi ?_⟩
  rintro ⟨id, ep, l, _, _, ⟨_, _, _, _, _, h⟩ | ⟨_, h⟩⟩ <;> simp at h

/-- All that is there, known; nothing of one's own. -/
noncomputable def kn0 (w : World) (v : Nm := ⟨fun _ => 0, fun _ => .nilp⟩) : Kn (fun x => x = v) := ⟨fun b => w.heap[b]?, fun _ _ => none, v, rfl⟩
theorem rel0 (w : World) (v : Nm) : Rel (kn0 w v) [] w :=
  ⟨fun id ty sz es live next h => by simp at h, fun id id' ep ep' l l' h => by simp [kn0] at h, fun b o h => h, fun id ep l h => by simp [kn0] at h, fun id ty sz es live next h => by simp at h, fun id es h => by simp at h⟩

/-- From the reckoning to the walk that a row's proof asks for. -/
theorem walk_of {P : Program} {fns : FuncId → Option FnI} (ht : Tab P fns) (hmix : P.follows .mixedOrders = true) {m f : Nat} {fn : Func} (hfn : P.funcs[f]? = some fn) (hbody : fn.body.isSome = true) (hname : (fn.name == "runtime.NumGoroutine") = false) {args : List AV} {σ' : Heap} (h : reck P fns m f args [] = some (.bool true, σ')) {w : World} {v : Nm} {us : Array Value} (hv : VRels (kn0 w v) args us.toList) :
    Calls P f us w fun e w' => e = .returned (.bool true) ∧ Below w.heap.size w w' := by
  rcases reck_ok ht hmix m f args [] _ h with hin | hex
  case inr =>
    -- a function with a text does not answer at once
    obtain ⟨u, h1, _⟩ := hex.2 (kn0 w v) w us hv
    have hbn : fn.body.isNone = false := by cases hb : fn.body <;> simp_all
    simp only [callFunc, Sem.run_bind, Result.andThen_ok, run_program, hfn, hname, hbn, if_false, Bool.false_eq_true, Sem.run_pure] at h1
    cases h1
  refine Calls.mono (hin.2 _ w us (rel0 w v) hv) fun e w' he => ?_
  obtain ⟨k', u, rfl, hu, hst⟩ := he
  cases hu
  exact ⟨rfl, hst.below⟩
end Go.Dx
