/- Regions whose order is that of the text, and what is made of them: code. -/
import Derived.Test.YtnglipioaippoaaEyC
import Derived.Scope
namespace Go.Dx
variable {V : Nm → Prop}

structure St where
  σ : Heap
  ρ : Env

noncomputable def putE (ρ : Env) (dst : Option Tmp) (v : AV) : Env :=
  match dst with
  | some d => (d, v) :: ρ
  | none => ρ
noncomputable def okD (dst : Option Tmp) (n : Nat) : Bool :=
  match dst with
  | some d => decide (d < n)
  | none => true

noncomputable def wantedA (ops : Array Oper) (ρ : Env) (o : Oper) : Option Bool :=
  match o.guard with
  | none => some true
  | some (j, want) => match ops[j]? with
    | some oj => match oj.dst with
      | some d => match ρ.get d with
        | some (.bool b) => some (b == want)
        | some .und => some false
        | _ => none
      | none => none
    | none => none

noncomputable def okF (dst : Option Tmp) (n : Nat) : Bool :=
  match dst with
  | some d => Nat.ble (d + 1) n
  | none => true
theorem okF_eq (dst : Option Tmp) (n : Nat) : okF dst n = okD dst n := by
  cases dst with
  | none => rfl
  | some d =>
    show Nat.ble (d + 1) n = decide (d < n)
    cases h : Nat.ble (d + 1) n with
    | true => simp [Nat.lt_of_succ_le (Nat.le_of_ble_eq_true h)]
    | false =>
      have : ¬ d < n := fun hl => by rw [Nat.ble_eq_true_of_le hl] at h; cases h
      simp [this]
noncomputable def putS (dst : Option Tmp) (next : St → Option St) (ρ : Env) : Option (AV × Heap) → Option St
  | some (v, σ') => forceV v fun v => next ⟨σ', putE ρ dst v⟩
  | none => none
noncomputable def stepW (P : Program) (heapy : Bool) (call : CallF) (o : Oper) (next : St → Option St) (s : St) : Option Bool → Option St
  | some true => putS o.dst next s.ρ (opF o.op P heapy call s.ρ s.σ)
  | some false => next ⟨s.σ, putE s.ρ o.dst .und⟩
  | none => none
noncomputable def stepA (P : Program) (heapy : Bool) (call : CallF) (n : Nat) (all : Array Oper) (o : Oper) (next : St → Option St) (s : St) : Option St :=
  cond (okF o.dst n) (stepW P heapy call o next s (wantedA all s.ρ o)) none
noncomputable def opsA (P : Program) (heapy : Bool) (call : CallF) (n : Nat) (all : Array Oper) (l : List Oper) : St → Option St :=
  List.rec (motive := fun _ => St → Option St) some (fun o _ ih => stepA P heapy call n all o ih) l
theorem opsA_nil (P : Program) (heapy : Bool) (call : CallF) (n : Nat) (all : Array Oper) (s : St) : opsA P heapy call n all [] s = some s := rfl
theorem opsA_cons (P : Program) (heapy : Bool) (call : CallF) (n : Nat) (all : Array Oper) (o : Oper) (r : List Oper) (s : St) : opsA P heapy call n all (o :: r) s = if okD o.dst n then
      match wantedA all s.ρ o with
      | some true => match opA P heapy call s.ρ s.σ o.op with
        | some (v, σ') => opsA P heapy call n all r ⟨σ', putE s.ρ o.dst v⟩
        | none => none
      | some false => opsA P heapy call n all r ⟨s.σ, putE s.ρ o.dst .und⟩
      | none => none
    else none := by
  show stepA P heapy call n all o (opsA P heapy call n all r) s = _
  unfold stepA
  rw [okF_eq]
  cases okD o.dst n with
  | false => rfl
  | true =>
    simp only [cond_true, if_true]
    cases wantedA all s.ρ o with
    | none => rfl
    | some b =>
      cases b with
      | false => rfl
      | true =>
        simp only [stepW, opF_eq]
        cases opA P heapy call s.ρ s.σ o.op with
        | none => rfl
        | some r => exact forceV_eq r.1 fun v => opsA P heapy call n all _ ⟨r.2, putE s.ρ o.dst v⟩

noncomputable def prune (keep : List Nat) (ρ : Env) : Env := keep.filterMap fun t => match ρ.get t with
  | some v => some (t, v)
  | none => none

inductive AX where
  | nrm
  | ext (id : Nat)
  | ret
  deriving DecidableEq
noncomputable def AX.exit : AX → Exit
  | .nrm => .normal
  | .ext id => .exit id
  | .ret => .ret

section
variable {P : Program} {k : Kn V} {w : World} {n : Nat} {D : List Deferred} {a : Act}

theorem EnvR.put {ρ : Env} (h : EnvR k n D ρ a) {dst : Option Tmp} (hd : okD dst n = true) {v : AV} {u : Value} (hv : VRel k v u) : EnvR k n D (putE ρ dst v) (a.put dst u) := by
  cases dst with
  | none => exact h
  | some d =>
    have hd' : d < n := by simpa [okD] using hd
    refine ⟨by simp [Act.put, h.size], fun t x hx => ?_, h.defers⟩
    simp only [putE, Env.get_nil, Env.get_cons] at hx
    split at hx
    · rename_i hdt
      have : d = t := by simpa using hdt
      subst this
      injection hx with hx; subst hx
      exact ⟨u, by simp [Act.put, h.size, hd'], hv⟩
    · rename_i hdt
      have : d ≠ t := by simpa using hdt
      obtain ⟨y, hy, hr⟩ := h.get t x hx
      exact ⟨y, by simp [Act.put, Array.getElem?_setIfInBounds_ne this, hy], hr⟩
theorem prune_get {keep : List Nat} {ρ : Env} {t : Nat} {v : AV} (h : (prune keep ρ).get t = some v) : ρ.get t = some v := by
  unfold prune at h
  induction keep with
  | nil => simp [Env.get_nil, Env.get_cons] at h
  | cons x r ih =>
    simp only [List.filterMap_cons] at h
    cases hx : ρ.get x with
    | none => rw [hx] at h; exact ih h
    | some y =>
      rw [hx] at h
      simp only [Env.get_nil, Env.get_cons] at h
      split at h
      · rename_i he
        have : x = t := by simpa using he
        subst this
        rw [hx]; exact h
      · exact ih h
theorem EnvR.prune {ρ : Env} (h : EnvR k n D ρ a) (keep : List Nat) : EnvR k n D (Dx.prune keep ρ) a := ⟨h.size, fun t v hv => h.get t v (prune_get hv), h.defers⟩

theorem wanted_ok {ρ : Env} (h : EnvR k n D ρ a) {ops : Array Oper} {o : Oper} {b : Bool} (hw : wantedA ops ρ o = some b) : Region.wanted o (yielded ops a.tmps) = b := by
  unfold wantedA at hw
  unfold Region.wanted
  split at hw
  · rename_i hg; injection hw with hw; rw [hg]; exact hw
  · rename_i j want hg
    rw [hg]
    split at hw
    · rename_i oj hj
      split at hw
      · rename_i d hd
        split at hw
        · rename_i b' hb
          injection hw with hw; subst hw
          obtain ⟨u, hu, hr⟩ := h.get d _ hb
          cases hr
          simp only [yielded, hj, hd, Option.bind_some, hu]
          rfl
        · rename_i hb
          injection hw with hw; subst hw
          obtain ⟨u, hu, hr⟩ := h.get d _ hb
          cases hr
          simp only [yielded, hj, hd, Option.bind_some, hu]
          rfl
        · cases hw
      · cases hw
    · cases hw

theorem ops_ok {heapy : Bool} {call : CallF} (hc : ∀ f args σ r, call f args σ = some r → CallOK V P f args σ r) {all : Array Oper} : ∀ {l : List Oper} {s s' : St} {k : Kn V} {w : World} {a : Act}, opsA P heapy call n all l s = some s' →
    Rel k s.σ w → EnvR k n D s.ρ a → ∀ {Q : Exit → Act → World → Prop}, (∀ k' a' w', Step k s.σ w k' s'.σ w' → EnvR k' n D s'.ρ a' → Q .normal a' w') → wpList P all Q l a w
  | [], s, s', k, w, a, h, hR, hE, Q, hQ => by
    simp only [opsA_nil, opsA_cons] at h
    injection h with h; subst h
    exact hQ k a w (Step.refl hR) hE
  | o :: r, s, s', k, w, a, h, hR, hE, Q, hQ => by
    simp only [opsA_nil, opsA_cons] at h
    split at h
    · rename_i hd
      split at h
      · rename_i hw
        split at h
        · rename_i v σ' hop
          unfold wpList
          rw [if_pos (wanted_ok hE hw)]
          refine .inl (op_ok hc hR hE hop fun k' u w' hv hst => ?_)
          exact ops_ok hc h hst.rel ((hE.mono hst.le).put hd hv) fun k2 a2 w2 h2 he2 => hQ k2 a2 w2 (hst.trans h2) he2
        · cases h
      · rename_i hw
        unfold wpList
        rw [if_neg (by rw [wanted_ok hE hw]; simp)]
        exact ops_ok hc h hR (hE.put hd .und) hQ
      · cases h
    · cases h

/-! ### Loops, round by round -/
noncomputable def LoopFrom (P : Program) (c : Code) (Q : Exit → Act → World → Prop) (a : Act) (w : World) : Prop :=
  ∀ (b : Go.Frame) (k : List Item) (cs : List Go.Frame), ∃ e a' w', Q e a' w' ∧ Arrives P (lone (b.at a (.code c :: .inLoop c :: k)) cs w) b k cs e a' w'
theorem loop_round {c : Code} {Q : Exit → Act → World → Prop} (h : c.wp P (Exit.then (LoopFrom P c Q) Q) a w) : LoopFrom P c Q a w := by
  intro b k cs
  obtain ⟨e, a1, w1, hq, harr⟩ := h b (.inLoop c :: k) cs
  cases e with
  | normal =>
    obtain ⟨e2, a2, w2, hq2, harr2⟩ := hq b k cs
    exact ⟨e2, a2, w2, hq2, .of_steps (Steps.trans harr (.one step_inLoop)) harr2⟩
  | exit id => exact ⟨_, a1, w1, hq, .pass (x := .inLoop c) rfl (fun _ _ => .inl (by simp)) harr⟩
  | goto l => exact ⟨_, a1, w1, hq, .pass (x := .inLoop c) rfl (fun _ _ => .inl (by simp)) harr⟩
  | ret => exact ⟨_, a1, w1, hq, .pass (x := .inLoop c) rfl (fun _ _ => .inl (by simp)) harr⟩
  | panic ch => exact ⟨_, a1, w1, hq, .pass (x := .inLoop c) rfl (fun _ _ => .inl (by simp)) harr⟩
  | outgrown => exact ⟨_, a1, w1, hq, .pass (x := .inLoop c) rfl (fun _ _ => .inl (by simp)) harr⟩
theorem wp_of_from {c : Code} {Q : Exit → Act → World → Prop} (h : LoopFrom P c Q a w) : (Code.loop c).wp P Q a w := by
  intro b k cs
  obtain ⟨e, a', w', hq, harr⟩ := h b k cs
  exact ⟨e, a', w', hq, .of_steps (.one step_loop) harr⟩
end

/-! ### Code -/
noncomputable def lStep (next : St → Option (AX × St)) : Option (AX × St) → Option (AX × St)
  | some (.nrm, s') => next s'
  | r => r
noncomputable def loopA (body : St → Option (AX × St)) (m : Nat) : St → Option (AX × St) :=
  Nat.rec (motive := fun _ => St → Option (AX × St)) (fun _ => none) (fun _ ih s => lStep ih (body s)) m
theorem loopA_zero (body : St → Option (AX × St)) (s : St) : loopA body 0 s = none := rfl
theorem loopA_succ (body : St → Option (AX × St)) (m : Nat) (s : St) : loopA body (m + 1) s = match body s with
    | some (.nrm, s') => loopA body m s'
    | r => r := by
  show lStep (loopA body m) (body s) = _
  rcases body s with _ | ⟨x, s'⟩
  · rfl
  · cases x <;> rfl

/-- How a region that draws its order is reckoned: handed in. -/
abbrev DrawF := Array Oper → St → Option St

noncomputable def cSkip : St → Option (AX × St) := fun s => some (.nrm, s)
noncomputable def cOut : Option St → Option (AX × St)
  | some s => some (.nrm, s)
  | none => none
noncomputable def cRegion (P : Program) (heapy : Bool) (call : CallF) (draw : DrawF) (n : Nat) (keep : List Nat) (ops : Array Oper) (d : Bool) : St → Option (AX × St) :=
  match d with
  | true => fun s => cOut (draw ops ⟨s.σ, prune keep s.ρ⟩)
  | false => fun s => cOut (opsA P heapy call n ops ops.toList s)
noncomputable def cSeq (f g : St → Option (AX × St)) : St → Option (AX × St) := fun s => lStep g (f s)
noncomputable def cPick (f g : St → Option (AX × St)) (s : St) : Option AV → Option (AX × St)
  | some (.bool true) => f s
  | some (.bool false) => g s
  | _ => none
noncomputable def cCond (c : Operand) (f g : St → Option (AX × St)) : St → Option (AX × St) := fun s => cPick f g s (evA s.ρ c)
noncomputable def cEnd (id : Nat) : Option (AX × St) → Option (AX × St)
  | some (.ext i, s') => cond (Nat.beq i id) (some (.nrm, s')) (some (.ext i, s'))
  | r => r
noncomputable def cBlock (id : Nat) (f : St → Option (AX × St)) : St → Option (AX × St) := fun s => cEnd id (f s)
noncomputable def cLoop (fuel : Nat) (keep : List Nat) (f : St → Option (AX × St)) : St → Option (AX × St) := loopA (fun s => f ⟨s.σ, prune keep s.ρ⟩) fuel
noncomputable def cExit (id : Nat) : St → Option (AX × St) := fun s => some (.ext id, s)
noncomputable def cRet : St → Option (AX × St) := fun s => some (.ret, s)
noncomputable def cNone : St → Option (AX × St) := fun _ => none
noncomputable def codeA (P : Program) (heapy : Bool) (call : CallF) (draw : DrawF) (n fuel : Nat) (keep : List Nat) (c : Code) : St → Option (AX × St) :=
  Code.rec (motive := fun _ => St → Option (AX × St)) cSkip (fun _ ops d => cRegion P heapy call draw n keep ops d) (fun _ _ f g => cSeq f g) (fun c _ _ f g => cCond c f g) (fun id _ f => cBlock id f) (fun _ f => cLoop fuel keep f)
    (fun _ _ _ _ _ _ => cNone) (fun id => cExit id) (fun _ f => f) (fun _ => cSkip) (fun _ => cNone) cRet (fun _ => cNone) c
section
variable (P : Program) (heapy : Bool) (call : CallF) (draw : DrawF) (n fuel : Nat) (keep : List Nat) (s : St)
theorem codeA_skip : codeA P heapy call draw n fuel keep .skip s = some (.nrm, s) := rfl
theorem codeA_region (id : Nat) (ops : Array Oper) (d : Bool) : codeA P heapy call draw n fuel keep (.region id ops d) s = match (if d then draw ops ⟨s.σ, prune keep s.ρ⟩ else opsA P heapy call n ops ops.toList s) with
    | some s' => some (.nrm, s')
    | none => none := by
  show cRegion P heapy call draw n keep ops d s = _
  cases d with
  | false => simp only [cRegion, Bool.false_eq_true, if_false]; cases opsA P heapy call n ops ops.toList s <;> rfl
  | true => simp only [cRegion, if_true]; cases draw ops ⟨s.σ, prune keep s.ρ⟩ <;> rfl
theorem codeA_seq (x y : Code) : codeA P heapy call draw n fuel keep (.seq x y) s = match codeA P heapy call draw n fuel keep x s with
    | some (.nrm, s') => codeA P heapy call draw n fuel keep y s'
    | r => r := by
  show lStep (codeA P heapy call draw n fuel keep y) (codeA P heapy call draw n fuel keep x s) = _
  rcases codeA P heapy call draw n fuel keep x s with _ | ⟨e, s'⟩
  · rfl
  · cases e <;> rfl
theorem codeA_cond (c : Operand) (x y : Code) : codeA P heapy call draw n fuel keep (.cond c x y) s = match evA s.ρ c with
    | some (.bool true) => codeA P heapy call draw n fuel keep x s
    | some (.bool false) => codeA P heapy call draw n fuel keep y s
    | _ => none := by
  show cPick (codeA P heapy call draw n fuel keep x) (codeA P heapy call draw n fuel keep y) s (evA s.ρ c) = _
  rcases evA s.ρ c with _ | v
  · rfl
  · cases v <;> first | rfl | (rename_i b; cases b <;> rfl)
theorem codeA_block (id : Nat) (x : Code) : codeA P heapy call draw n fuel keep (.block id x) s = match codeA P heapy call draw n fuel keep x s with
    | some (.ext i, s') => if i == id then some (.nrm, s') else some (.ext i, s')
    | r => r := by
  show cEnd id (codeA P heapy call draw n fuel keep x s) = _
  rcases codeA P heapy call draw n fuel keep x s with _ | ⟨e, s'⟩
  · rfl
  · cases e with
    | ext i =>
      show cond (Nat.beq i id) _ _ = _
      cases h : Nat.beq i id with
      | true => simp [Nat.eq_of_beq_eq_true h]
      | false =>
        have : ¬ i = id := fun he => by rw [he, Nat.beq_refl] at h; cases h
        simp [this]
    | _ => rfl
theorem codeA_loop (x : Code) : codeA P heapy call draw n fuel keep (.loop x) s = loopA (fun s => codeA P heapy call draw n fuel keep x ⟨s.σ, prune keep s.ρ⟩) fuel s := rfl
theorem codeA_exit (id : Nat) : codeA P heapy call draw n fuel keep (.exit id) s = some (.ext id, s) := rfl
theorem codeA_ret : codeA P heapy call draw n fuel keep .ret s = some (.ret, s) := rfl
theorem codeA_label (l : Nat) : codeA P heapy call draw n fuel keep (.label l) s = some (.nrm, s) := rfl
theorem codeA_scope (x : Code) : codeA P heapy call draw n fuel keep (.scope x) s = codeA P heapy call draw n fuel keep x s := rfl
end

noncomputable def DrawOK (V : Nm → Prop) (P : Program) (draw : DrawF) (n : Nat) : Prop := ∀ ops s s' id (k : Kn V) w D a, draw ops s = some s' → Rel k s.σ w → EnvR k n D s.ρ a →
  ∀ Q : Exit → Act → World → Prop, (∀ k' a' w', Step k s.σ w k' s'.σ w' → EnvR k' n D s'.ρ a' → Q .normal a' w') → (Code.region id ops true).wp P Q a w

theorem loop_ok {P : Program} {n : Nat} {D : List Deferred} {c : Code} {body : St → Option (AX × St)}
    (hb : ∀ {s s' : St} {x : AX} {k : Kn V} {w : World} {a : Act}, body s = some (x, s') → Rel k s.σ w → EnvR k n D s.ρ a → ∀ {Q : Exit → Act → World → Prop}, (∀ k' a' w', Step k s.σ w k' s'.σ w' → EnvR k' n D s'.ρ a' → Q x.exit a' w') → c.wp P Q a w) :
    ∀ (m : Nat) {s s' : St} {x : AX} {k : Kn V} {w : World} {a : Act}, loopA body m s = some (x, s') → Rel k s.σ w → EnvR k n D s.ρ a → ∀ {Q : Exit → Act → World → Prop}, (∀ k' a' w', Step k s.σ w k' s'.σ w' → EnvR k' n D s'.ρ a' → Q x.exit a' w') → LoopFrom P c Q a w
  | 0, s, s', x, k, w, a, h, _, _, Q, _ => by rw [loopA_zero] at h; cases h
  | m + 1, s, s', x, k, w, a, h, hR, hE, Q, hQ => by
    rw [loopA_succ] at h
    cases hbs : body s with
    | none => rw [hbs] at h; cases h
    | some r =>
      obtain ⟨y, s1⟩ := r
      rw [hbs] at h
      cases y with
      | nrm =>
        exact loop_round (hb hbs hR hE fun k1 a1 w1 h1 he1 => loop_ok hb m h h1.rel he1 fun k2 a2 w2 h2 he2 => hQ k2 a2 w2 (h1.trans h2) he2)
      | ext i =>
        injection h with h; injection h with h1 h2; subst h1; subst h2
        exact loop_round (hb hbs hR hE fun k1 a1 w1 h1 he1 => hQ k1 a1 w1 h1 he1)
      | ret =>
        injection h with h; injection h with h1 h2; subst h1; subst h2
        exact loop_round (hb hbs hR hE fun k1 a1 w1 h1 he1 => hQ k1 a1 w1 h1 he1)

theorem code_ok {P : Program} {n : Nat} {D : List Deferred} {heapy : Bool} {call : CallF} {draw : DrawF} {fuel : Nat} {keep : List Nat} (hc : ∀ f args σ r, call f args σ = some r → CallOK V P f args σ r) (hd : DrawOK V P draw n) :
    ∀ {c : Code} {s s' : St} {x : AX} {k : Kn V} {w : World} {a : Act}, codeA P heapy call draw n fuel keep c s = some (x, s') → Rel k s.σ w → EnvR k n D s.ρ a →
    ∀ {Q : Exit → Act → World → Prop}, (∀ k' a' w', Step k s.σ w k' s'.σ w' → EnvR k' n D s'.ρ a' → Q x.exit a' w') → c.wp P Q a w := by
  intro c
  induction c with
  | skip =>
    intro s s' x k w a h hR hE Q hQ
    simp only [codeA_skip, codeA_region, codeA_seq, codeA_cond, codeA_block, codeA_loop, codeA_exit, codeA_ret, codeA_label, codeA_scope] at h; injection h with h; injection h with h1 h2; subst h1; subst h2
    exact wp_skip (hQ k a w (Step.refl hR) hE)
  | region id ops d =>
    intro s s' x k w a h hR hE Q hQ
    simp only [codeA_skip, codeA_region, codeA_seq, codeA_cond, codeA_block, codeA_loop, codeA_exit, codeA_ret, codeA_label, codeA_scope] at h
    cases d with
    | false =>
      simp only [Bool.false_eq_true, if_false] at h
      split at h
      · rename_i s1 hs1
        injection h with h; injection h with h1 h2; subst h1; subst h2
        exact wp_region_list (ops_ok hc hs1 hR hE fun k1 a1 w1 h1 he1 => hQ k1 a1 w1 h1 he1)
      · cases h
    | true =>
      simp only [if_true] at h
      split at h
      · rename_i s1 hs1
        injection h with h; injection h with h1 h2; subst h1; subst h2
        exact hd ops ⟨s.σ, prune keep s.ρ⟩ s1 id k w D a hs1 hR (hE.prune keep) Q fun k1 a1 w1 h1 he1 => hQ k1 a1 w1 h1 he1
      · cases h
  | seq x y ihx ihy =>
    intro s s' e k w a h hR hE Q hQ
    simp only [codeA_skip, codeA_region, codeA_seq, codeA_cond, codeA_block, codeA_loop, codeA_exit, codeA_ret, codeA_label, codeA_scope] at h
    split at h
    · rename_i s1 hs1
      exact wp_seq (ihx hs1 hR hE fun k1 a1 w1 h1 he1 => ihy h h1.rel he1 fun k2 a2 w2 h2 he2 => hQ k2 a2 w2 (h1.trans h2) he2)
    · rename_i hne
      cases e with
      | nrm => exact absurd h (hne s')
      | ext i => exact wp_seq (ihx h hR hE fun k1 a1 w1 h1 he1 => hQ k1 a1 w1 h1 he1)
      | ret => exact wp_seq (ihx h hR hE fun k1 a1 w1 h1 he1 => hQ k1 a1 w1 h1 he1)
  | cond c x y ihx ihy =>
    intro s s' e k w a h hR hE Q hQ
    simp only [codeA_skip, codeA_region, codeA_seq, codeA_cond, codeA_block, codeA_loop, codeA_exit, codeA_ret, codeA_label, codeA_scope] at h
    split at h
    · rename_i hb
      have hr := ev_rel hE hb
      generalize hu : a.eval c = u at hr
      cases hr
      exact wp_cond_true hu (ihx h hR hE hQ)
    · rename_i hb
      have hr := ev_rel hE hb
      generalize hu : a.eval c = u at hr
      cases hr
      exact wp_cond_false hu (ihy h hR hE hQ)
    · cases h
  | block id x ih =>
    intro s s' e k w a h hR hE Q hQ
    simp only [codeA_skip, codeA_region, codeA_seq, codeA_cond, codeA_block, codeA_loop, codeA_exit, codeA_ret, codeA_label, codeA_scope] at h
    split at h
    · rename_i i s1 hs1
      split at h
      · rename_i hi
        have : i = id := by simpa using hi
        subst this
        injection h with h; injection h with h1 h2; subst h1; subst h2
        exact wp_block (ih hs1 hR hE fun k1 a1 w1 h1 he1 => by
          show Exit.inBlock i Q (.exit i) a1 w1
          simp only [Exit.inBlock, if_true]
          exact hQ k1 a1 w1 h1 he1)
      · rename_i hi
        have hne : ¬ i = id := by simpa using hi
        injection h with h; injection h with h1 h2; subst h1; subst h2
        exact wp_block (ih hs1 hR hE fun k1 a1 w1 h1 he1 => by
          show Exit.inBlock id Q (.exit i) a1 w1
          simp only [Exit.inBlock, if_neg hne]
          exact hQ k1 a1 w1 h1 he1)
    · rename_i hne
      cases e with
      | nrm => exact wp_block (ih h hR hE fun k1 a1 w1 h1 he1 => hQ k1 a1 w1 h1 he1)
      | ext i => exact absurd h (hne i s')
      | ret => exact wp_block (ih h hR hE fun k1 a1 w1 h1 he1 => hQ k1 a1 w1 h1 he1)
  | loop x ih =>
    intro s s' e k w a h hR hE Q hQ
    simp only [codeA_skip, codeA_region, codeA_seq, codeA_cond, codeA_block, codeA_loop, codeA_exit, codeA_ret, codeA_label, codeA_scope] at h
    exact wp_of_from (loop_ok (body := fun s => codeA P heapy call draw n fuel keep x ⟨s.σ, prune keep s.ρ⟩) (@fun s0 _ _ _ _ _ hbs hR hE _ hQ => ih (s := ⟨s0.σ, prune keep s0.ρ⟩) hbs hR (hE.prune keep) hQ) fuel h hR hE hQ)
  | exit id =>
    intro s s' x k w a h hR hE Q hQ
    simp only [codeA_skip, codeA_region, codeA_seq, codeA_cond, codeA_block, codeA_loop, codeA_exit, codeA_ret, codeA_label, codeA_scope] at h; injection h with h; injection h with h1 h2; subst h1; subst h2
    exact wp_exit (hQ k a w (Step.refl hR) hE)
  | ret =>
    intro s s' x k w a h hR hE Q hQ
    simp only [codeA_skip, codeA_region, codeA_seq, codeA_cond, codeA_block, codeA_loop, codeA_exit, codeA_ret, codeA_label, codeA_scope] at h; injection h with h; injection h with h1 h2; subst h1; subst h2
    exact wp_ret (hQ k a w (Step.refl hR) hE)
  | label l =>
    intro s s' x k w a h hR hE Q hQ
    simp only [codeA_skip, codeA_region, codeA_seq, codeA_cond, codeA_block, codeA_loop, codeA_exit, codeA_ret, codeA_label, codeA_scope] at h; injection h with h; injection h with h1 h2; subst h1; subst h2
    exact wp_label (hQ k a w (Step.refl hR) hE)
  | scope x ih =>
    intro s s' e k w a h hR hE Q hQ
    simp only [codeA_skip, codeA_region, codeA_seq, codeA_cond, codeA_block, codeA_loop, codeA_exit, codeA_ret, codeA_label, codeA_scope] at h
    exact wp_scope_straight (ih h hR hE fun k1 a1 w1 h1 he1 => by cases e <;> exact hQ k1 a1 w1 h1 he1)
  | _ => intro s s' x k w a h; exact absurd h (by intro h; cases h)
end Go.Dx
