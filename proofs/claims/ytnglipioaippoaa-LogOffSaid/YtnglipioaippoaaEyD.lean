/- Regions whose order is that of the text, and what is made of them: code. -/
import Derived.Test.YtnglipioaippoaaEyC
namespace Go.Dx

structure St where
  σ : Heap
  ρ : Env

def putE (ρ : Env) (dst : Option Tmp) (v : AV) : Env :=
  match dst with
  | some d => (d, v) :: ρ
  | none => ρ
def okD (dst : Option Tmp) (n : Nat) : Bool :=
  match dst with
  | some d => decide (d < n)
  | none => true

def wantedA (ops : Array Oper) (ρ : Env) (o : Oper) : Option Bool :=
  match o.guard with
  | none => some true
  | some (j, want) => match ops[j]? with
    | some oj => match oj.dst with
      | some d => match ρ.get d with
        | some (.bool b) => some (b == want)
        | some .und => some false
        | _ => none
      | none => none
    | none => none

def opsA (P : Program) (heapy : Bool) (call : CallF) (n : Nat) (all : Array Oper) : List Oper → St → Option St
  | [], s => some s
  | o :: r, s => if okD o.dst n then
      match wantedA all s.ρ o with
      | some true => match opA P heapy call s.ρ s.σ o.op with
        | some (v, σ') => opsA P heapy call n all r ⟨σ', putE s.ρ o.dst v⟩
        | none => none
      | some false => opsA P heapy call n all r ⟨s.σ, putE s.ρ o.dst .und⟩
      | none => none
    else none

def prune (keep : List Nat) (ρ : Env) : Env := keep.filterMap fun t => match ρ.get t with
  | some v => some (t, v)
  | none => none

inductive AX where
  | nrm
  | ext (id : Nat)
  | ret
  deriving DecidableEq
def AX.exit : AX → Exit
  | .nrm => .normal
  | .ext id => .exit id
  | .ret => .ret

section
variable {P : Program} {k : Kn} {w : World} {n : Nat} {D : List Deferred} {a : Act}

theorem EnvR.put {ρ : Env} (h : EnvR k n D ρ a) {dst : Option Tmp} (hd : okD dst n = true) {v : AV} {u : Value} (hv : VRel k v u) : EnvR k n D (putE ρ dst v) (a.put dst u) := by
  cases dst with
  | none => exact h
  | some d =>
    have hd' : d < n := by simpa [okD] using hd
    refine ⟨by simp [Act.put, h.size], fun t x hx => ?_, h.defers⟩
    simp only [putE, Env.get] at hx
    split at hx
    · rename_i hdt
      have : d = t := by simpa using hdt
      subst this
      injection hx with hx; subst hx
      exact ⟨u, by simp [Act.put, h.size, hd'], hv⟩
    · rename_i hdt
      have : d ≠ t := by simpa using hdt
      obtain ⟨y, hy, hr⟩ := h.get t x hx
      exact ⟨y, by simp [Act.put, Array.getElem?_setIfInBounds_ne this, hy], hr⟩
theorem prune_get {keep : List Nat} {ρ : Env} {t : Nat} {v : AV} (h : (prune keep ρ).get t = some v) : ρ.get t = some v := by
  unfold prune at h
  induction keep with
  | nil => simp [Env.get] at h
  | cons x r ih =>
    simp only [List.filterMap_cons] at h
    cases hx : ρ.get x with
    | none => rw [hx] at h; exact ih h
    | some y =>
      rw [hx] at h
      simp only [Env.get] at h
      split at h
      · rename_i he
        have : x = t := by simpa using he
        subst this
        rw [hx]; exact h
      · exact ih h
theorem EnvR.prune {ρ : Env} (h : EnvR k n D ρ a) (keep : List Nat) : EnvR k n D (Dx.prune keep ρ) a := ⟨h.size, fun t v hv => h.get t v (prune_get hv), h.defers⟩

theorem wanted_ok {ρ : Env} (h : EnvR k n D ρ a) {ops : Array Oper} {o : Oper} {b : Bool} (hw : wantedA ops ρ o = some b) : Region.wanted o (yielded ops a.tmps) = b := by
  unfold wantedA at hw
  unfold Region.wanted
  split at hw
  · rename_i hg; injection hw with hw; rw [hg]; exact hw
  · rename_i j want hg
    rw [hg]
    split at hw
    · rename_i oj hj
      split at hw
      · rename_i d hd
        split at hw
        · rename_i b' hb
          injection hw with hw; subst hw
          obtain ⟨u, hu, hr⟩ := h.get d _ hb
          cases hr
          simp only [yielded, hj, hd, Option.bind_some, hu]
          rfl
        · rename_i hb
          injection hw with hw; subst hw
          obtain ⟨u, hu, hr⟩ := h.get d _ hb
          cases hr
          simp only [yielded, hj, hd, Option.bind_some, hu]
          rfl
        · cases hw
      · cases hw
    · cases hw

theorem ops_ok {heapy : Bool} {call : CallF} (hc : ∀ f args σ r, call f args σ = some r → CallOK P f args σ r) {all : Array Oper} : ∀ {l : List Oper} {s s' : St} {k : Kn} {w : World} {a : Act}, opsA P heapy call n all l s = some s' →
    Rel k s.σ w → EnvR k n D s.ρ a → ∀ {Q : Exit → Act → World → Prop}, (∀ k' a' w', Step k s.σ w k' s'.σ w' → EnvR k' n D s'.ρ a' → Q .normal a' w') → wpList P all Q l a w
  | [], s, s', k, w, a, h, hR, hE, Q, hQ => by
    simp only [opsA] at h
    injection h with h; subst h
    exact hQ k a w (Step.refl hR) hE
  | o :: r, s, s', k, w, a, h, hR, hE, Q, hQ => by
    simp only [opsA] at h
    split at h
    · rename_i hd
      split at h
      · rename_i hw
        split at h
        · rename_i v σ' hop
          unfold wpList
          rw [if_pos (wanted_ok hE hw)]
          refine .inl (op_ok hc hR hE hop fun k' u w' hv hst => ?_)
          exact ops_ok hc h hst.rel ((hE.mono hst.le).put hd hv) fun k2 a2 w2 h2 he2 => hQ k2 a2 w2 (hst.trans h2) he2
        · cases h
      · rename_i hw
        unfold wpList
        rw [if_neg (by rw [wanted_ok hE hw]; simp)]
        exact ops_ok hc h hR (hE.put hd .und) hQ
      · cases h
    · cases h

/-! ### Loops, round by round -/
def LoopFrom (P : Program) (c : Code) (Q : Exit → Act → World → Prop) (a : Act) (w : World) : Prop :=
  ∀ (b : Go.Frame) (k : List Item) (cs : List Go.Frame), ∃ e a' w', Q e a' w' ∧ Arrives P (lone (b.at a (.code c :: .inLoop c :: k)) cs w) b k cs e a' w'
theorem loop_round {c : Code} {Q : Exit → Act → World → Prop} (h : c.wp P (Exit.then (LoopFrom P c Q) Q) a w) : LoopFrom P c Q a w := by
  intro b k cs
  obtain ⟨e, a1, w1, hq, harr⟩ := h b (.inLoop c :: k) cs
  cases e with
  | normal =>
    obtain ⟨e2, a2, w2, hq2, harr2⟩ := hq b k cs
    exact ⟨e2, a2, w2, hq2, .of_steps (Steps.trans harr (.one step_inLoop)) harr2⟩
  | exit id => exact ⟨_, a1, w1, hq, .pass (x := .inLoop c) rfl (fun _ _ => .inl (by simp)) harr⟩
  | goto l => exact ⟨_, a1, w1, hq, .pass (x := .inLoop c) rfl (fun _ _ => .inl (by simp)) harr⟩
  | ret => exact ⟨_, a1, w1, hq, .pass (x := .inLoop c) rfl (fun _ _ => .inl (by simp)) harr⟩
  | panic ch => exact ⟨_, a1, w1, hq, .pass (x := .inLoop c) rfl (fun _ _ => .inl (by simp)) harr⟩
  | outgrown => exact ⟨_, a1, w1, hq, .pass (x := .inLoop c) rfl (fun _ _ => .inl (by simp)) harr⟩
theorem wp_of_from {c : Code} {Q : Exit → Act → World → Prop} (h : LoopFrom P c Q a w) : (Code.loop c).wp P Q a w := by
  intro b k cs
  obtain ⟨e, a', w', hq, harr⟩ := h b k cs
  exact ⟨e, a', w', hq, .of_steps (.one step_loop) harr⟩
end

/-! ### Code -/
def loopA (body : St → Option (AX × St)) : Nat → St → Option (AX × St)
  | 0, _ => none
  | m + 1, s => match body s with
    | some (.nrm, s') => loopA body m s'
    | r => r

/-- How a region that draws its order is reckoned: handed in. -/
abbrev DrawF := Array Oper → St → Option St

def codeA (P : Program) (heapy : Bool) (call : CallF) (draw : DrawF) (n fuel : Nat) (keep : List Nat) : Code → St → Option (AX × St)
  | .skip, s => some (.nrm, s)
  | .region _ ops d, s =>
    match (if d then draw ops s else opsA P heapy call n ops ops.toList s) with
    | some s' => some (.nrm, ⟨s'.σ, prune keep s'.ρ⟩)
    | none => none
  | .seq x y, s => match codeA P heapy call draw n fuel keep x s with
    | some (.nrm, s') => codeA P heapy call draw n fuel keep y s'
    | r => r
  | .cond c x y, s => match evA s.ρ c with
    | some (.bool true) => codeA P heapy call draw n fuel keep x s
    | some (.bool false) => codeA P heapy call draw n fuel keep y s
    | _ => none
  | .block id x, s => match codeA P heapy call draw n fuel keep x s with
    | some (.ext i, s') => if i == id then some (.nrm, s') else some (.ext i, s')
    | r => r
  | .loop x, s => loopA (codeA P heapy call draw n fuel keep x) fuel s
  | .exit id, s => some (.ext id, s)
  | .ret, s => some (.ret, s)
  | _, _ => none

def DrawOK (P : Program) (draw : DrawF) (n : Nat) : Prop := ∀ ops s s' id k w D a, draw ops s = some s' → Rel k s.σ w → EnvR k n D s.ρ a →
  ∀ Q : Exit → Act → World → Prop, (∀ k' a' w', Step k s.σ w k' s'.σ w' → EnvR k' n D s'.ρ a' → Q .normal a' w') → (Code.region id ops true).wp P Q a w

theorem loop_ok {P : Program} {n : Nat} {D : List Deferred} {c : Code} {body : St → Option (AX × St)}
    (hb : ∀ {s s' : St} {x : AX} {k : Kn} {w : World} {a : Act}, body s = some (x, s') → Rel k s.σ w → EnvR k n D s.ρ a → ∀ {Q : Exit → Act → World → Prop}, (∀ k' a' w', Step k s.σ w k' s'.σ w' → EnvR k' n D s'.ρ a' → Q x.exit a' w') → c.wp P Q a w) :
    ∀ (m : Nat) {s s' : St} {x : AX} {k : Kn} {w : World} {a : Act}, loopA body m s = some (x, s') → Rel k s.σ w → EnvR k n D s.ρ a → ∀ {Q : Exit → Act → World → Prop}, (∀ k' a' w', Step k s.σ w k' s'.σ w' → EnvR k' n D s'.ρ a' → Q x.exit a' w') → LoopFrom P c Q a w
  | 0, s, s', x, k, w, a, h, _, _, Q, _ => by simp [loopA] at h
  | m + 1, s, s', x, k, w, a, h, hR, hE, Q, hQ => by
    simp only [loopA] at h
    cases hbs : body s with
    | none => rw [hbs] at h; cases h
    | some r =>
      obtain ⟨y, s1⟩ := r
      rw [hbs] at h
      cases y with
      | nrm =>
        exact loop_round (hb hbs hR hE fun k1 a1 w1 h1 he1 => loop_ok hb m h h1.rel he1 fun k2 a2 w2 h2 he2 => hQ k2 a2 w2 (h1.trans h2) he2)
      | ext i =>
        injection h with h; injection h with h1 h2; subst h1; subst h2
        exact loop_round (hb hbs hR hE fun k1 a1 w1 h1 he1 => hQ k1 a1 w1 h1 he1)
      | ret =>
        injection h with h; injection h with h1 h2; subst h1; subst h2
        exact loop_round (hb hbs hR hE fun k1 a1 w1 h1 he1 => hQ k1 a1 w1 h1 he1)

theorem code_ok {P : Program} {n : Nat} {D : List Deferred} {heapy : Bool} {call : CallF} {draw : DrawF} {fuel : Nat} {keep : List Nat} (hc : ∀ f args σ r, call f args σ = some r → CallOK P f args σ r) (hd : DrawOK P draw n) :
    ∀ {c : Code} {s s' : St} {x : AX} {k : Kn} {w : World} {a : Act}, codeA P heapy call draw n fuel keep c s = some (x, s') → Rel k s.σ w → EnvR k n D s.ρ a →
    ∀ {Q : Exit → Act → World → Prop}, (∀ k' a' w', Step k s.σ w k' s'.σ w' → EnvR k' n D s'.ρ a' → Q x.exit a' w') → c.wp P Q a w := by
  intro c
  induction c with
  | skip =>
    intro s s' x k w a h hR hE Q hQ
    simp only [codeA] at h; injection h with h; injection h with h1 h2; subst h1; subst h2
    exact wp_skip (hQ k a w (Step.refl hR) hE)
  | region id ops d =>
    intro s s' x k w a h hR hE Q hQ
    simp only [codeA] at h
    cases d with
    | false =>
      simp only [Bool.false_eq_true, if_false] at h
      split at h
      · rename_i s1 hs1
        injection h with h; injection h with h1 h2; subst h1; subst h2
        exact wp_region_list (ops_ok hc hs1 hR hE fun k1 a1 w1 h1 he1 => hQ k1 a1 w1 h1 (he1.prune keep))
      · cases h
    | true =>
      simp only [if_true] at h
      split at h
      · rename_i s1 hs1
        injection h with h; injection h with h1 h2; subst h1; subst h2
        exact hd ops s s1 id k w D a hs1 hR hE Q fun k1 a1 w1 h1 he1 => hQ k1 a1 w1 h1 (he1.prune keep)
      · cases h
  | seq x y ihx ihy =>
    intro s s' e k w a h hR hE Q hQ
    simp only [codeA] at h
    split at h
    · rename_i s1 hs1
      exact wp_seq (ihx hs1 hR hE fun k1 a1 w1 h1 he1 => ihy h h1.rel he1 fun k2 a2 w2 h2 he2 => hQ k2 a2 w2 (h1.trans h2) he2)
    · rename_i hne
      cases e with
      | nrm => exact absurd h (hne s')
      | ext i => exact wp_seq (ihx h hR hE fun k1 a1 w1 h1 he1 => hQ k1 a1 w1 h1 he1)
      | ret => exact wp_seq (ihx h hR hE fun k1 a1 w1 h1 he1 => hQ k1 a1 w1 h1 he1)
  | cond c x y ihx ihy =>
    intro s s' e k w a h hR hE Q hQ
    simp only [codeA] at h
    split at h
    · rename_i hb
      have hr := ev_rel hE hb
      generalize hu : a.eval c = u at hr
      cases hr
      exact wp_cond_true hu (ihx h hR hE hQ)
    · rename_i hb
      have hr := ev_rel hE hb
      generalize hu : a.eval c = u at hr
      cases hr
      exact wp_cond_false hu (ihy h hR hE hQ)
    · cases h
  | block id x ih =>
    intro s s' e k w a h hR hE Q hQ
    simp only [codeA] at h
    split at h
    · rename_i i s1 hs1
      split at h
      · rename_i hi
        have : i = id := by simpa using hi
        subst this
        injection h with h; injection h with h1 h2; subst h1; subst h2
        exact wp_block (ih hs1 hR hE fun k1 a1 w1 h1 he1 => by
          show Exit.inBlock i Q (.exit i) a1 w1
          simp only [Exit.inBlock, if_true]
          exact hQ k1 a1 w1 h1 he1)
      · rename_i hi
        have hne : ¬ i = id := by simpa using hi
        injection h with h; injection h with h1 h2; subst h1; subst h2
        exact wp_block (ih hs1 hR hE fun k1 a1 w1 h1 he1 => by
          show Exit.inBlock id Q (.exit i) a1 w1
          simp only [Exit.inBlock, if_neg hne]
          exact hQ k1 a1 w1 h1 he1)
    · rename_i hne
      cases e with
      | nrm => exact wp_block (ih h hR hE fun k1 a1 w1 h1 he1 => hQ k1 a1 w1 h1 he1)
      | ext i => exact absurd h (hne i s')
      | ret => exact wp_block (ih h hR hE fun k1 a1 w1 h1 he1 => hQ k1 a1 w1 h1 he1)
  | loop x ih =>
    intro s s' e k w a h hR hE Q hQ
    simp only [codeA] at h
    exact wp_of_from (loop_ok (@fun _ _ _ _ _ _ hbs hR hE _ hQ => ih hbs hR hE hQ) fuel h hR hE hQ)
  | exit id =>
    intro s s' x k w a h hR hE Q hQ
    simp only [codeA] at h; injection h with h; injection h with h1 h2; subst h1; subst h2
    exact wp_exit (hQ k a w (Step.refl hR) hE)
  | ret =>
    intro s s' x k w a h hR hE Q hQ
    simp only [codeA] at h; injection h with h; injection h with h1 h2; subst h1; subst h2
    exact wp_ret (hQ k a w (Step.refl hR) hE)
  | _ => intro s s' x k w a h; simp [codeA] at h
end Go.Dx
