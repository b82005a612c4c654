/- An operation, reckoned; that the machine's own comes to the same. -/
import Derived.Test.YtnglipioaippoaaEyL
namespace Go.Dx
variable {V : Nm → Prop}

abbrev Env := List (Nat × AV)
noncomputable def Env.get (ρ : Env) (t : Nat) : Option AV := List.rec none (fun p _ ih => cond (Nat.beq p.1 t) (some p.2) ih) ρ
theorem Env.get_nil (t : Nat) : Env.get [] t = none := rfl
theorem Env.get_cons (u : Nat) (v : AV) (r : Env) (t : Nat) : Env.get ((u, v) :: r) t = if u == t then some v else Env.get r t := by
  show cond (Nat.beq u t) (some v) (Env.get r t) = _
  cases h : Nat.beq u t with
  | true => rw [Nat.eq_of_beq_eq_true h]; simp
  | false =>
    have : ¬ u = t := fun he => by rw [he, Nat.beq_refl] at h; cases h
    simp [this]

noncomputable def evA (ρ : Env) : Operand → Option AV
  | .tmp t => ρ.get t
  | .const v => ofVal v
  | .func f => some (.fn f [] [])
  | .global _ => none
noncomputable def evs (ρ : Env) : List Operand → Option (List AV)
  | [] => some []
  | x :: r => match evA ρ x, evs ρ r with
    | some v, some vs => some (v :: vs)
    | _, _ => none
noncomputable def evo (ρ : Env) : Option Operand → Option (Option AV)
  | none => some none
  | some x => match evA ρ x with
    | some v => some (some v)
    | none => none
noncomputable def evps (ρ : Env) : List (Nat × Operand) → Option (List (Nat × AV))
  | [] => some []
  | (i, x) :: r => match evA ρ x, evps ρ r with
    | some v, some vs => some ((i, v) :: vs)
    | _, _ => none

/-- What stands in the frame. -/
structure EnvR (k : Kn V) (n : Nat) (D : List Deferred) (ρ : Env) (a : Act) : Prop where
  size : a.tmps.size = n
  get : ∀ t v, ρ.get t = some v → ∃ u, a.tmps[t]? = some u ∧ VRel k v u
  defers : a.defers = D

section
variable {P : Program} {k : Kn V} {σ : Heap} {w : World} {n : Nat} {D : List Deferred} {ρ : Env} {a : Act}

theorem EnvR.mono {k' : Kn V} (h : EnvR k n D ρ a) (hk : k.Le k') : EnvR k' n D ρ a := ⟨h.size, fun t v hv => let ⟨u, hu, hr⟩ := h.get t v hv; ⟨u, hu, hr.mono hk⟩, h.defers⟩
theorem ev_rel (h : EnvR k n D ρ a) {x : Operand} {v : AV} (hv : evA ρ x = some v) : VRel k v (a.eval x) := by
  cases x with
  | tmp t =>
    obtain ⟨u, hu, hr⟩ := h.get t v hv
    show VRel k v (a.tmps.getD t undef)
    have : a.tmps.getD t undef = u := by
      simp only [Array.getD_eq_getD_getElem?, hu, Option.getD_some]
    rw [this]; exact hr
  | const c => exact ofVal_rel hv
  | func f => simp only [evA] at hv; injection hv with hv; subst hv; exact .fn f [] [] #[] #[] rfl (fun j v u h => by simp at h) rfl (fun j v u h => by simp at h)
  | global g => cases hv
theorem evs_rel (h : EnvR k n D ρ a) {xs : List Operand} {vs : List AV} (hv : evs ρ xs = some vs) : VRels k vs (xs.map a.eval) := by
  induction xs generalizing vs with
  | nil => simp only [evs] at hv; injection hv with hv; subst hv; exact ⟨rfl, fun j v u hv => by simp at hv⟩
  | cons x r ih =>
    simp only [evs] at hv
    split at hv
    · rename_i v vs' h1 h2
      injection hv with hv; subst hv
      have := ih h2
      refine ⟨by simp [this.1], fun j v' u' hv hu => ?_⟩
      cases j with
      | zero => simp at hv hu; subst hv; subst hu; exact ev_rel h h1
      | succ j => simp at hv hu; exact this.2 j v' u' hv (by simpa using hu)
    · cases hv
theorem evo_rel (h : EnvR k n D ρ a) {x : Option Operand} {v : Option AV} (hv : evo ρ x = some v) : VRelO k v (x.map a.eval) := by
  unfold evo at hv
  split at hv
  · injection hv with hv; subst hv; exact ⟨fun v hv => (by cases hv), fun _ => rfl⟩
  · split at hv
    · rename_i v' h1
      injection hv with hv; subst hv
      exact ⟨fun v hv => by injection hv with hv; subst hv; exact ⟨_, rfl, ev_rel h h1⟩, fun h => by cases h⟩
    · cases hv
theorem evps_rel (h : EnvR k n D ρ a) {xs : List (Nat × Operand)} {vs : List (Nat × AV)} (hv : evps ρ xs = some vs) : Parts k vs (xs.map fun p => (p.1, a.eval p.2)) := by
  induction xs generalizing vs with
  | nil => simp only [evps] at hv; injection hv with hv; subst hv; exact ⟨rfl, fun j i v i' u hv => by simp at hv⟩
  | cons x r ih =>
    obtain ⟨i, x⟩ := x
    simp only [evps] at hv
    split at hv
    · rename_i v vs' h1 h2
      injection hv with hv; subst hv
      have := ih h2
      refine ⟨by simp [this.len], fun j i v i' u hv hu => ?_⟩
      cases j with
      | zero => simp at hv hu; obtain ⟨rfl, rfl⟩ := hv; obtain ⟨rfl, rfl⟩ := hu; exact ⟨rfl, ev_rel h h1⟩
      | succ j => exact this.rel j i v i' u (by simpa using hv) (by simpa using hu)
    · cases hv

noncomputable def nilCheckA (P : Program) : AV → Option AV
  | .ptr id ep idx sub => some (.ptr id ep idx sub)
  | .rptr cs => some (.rptr cs)
  | .fn f fs cs => some (.fn f fs cs)
  | .ifc t v => some (.ifc t v)
  | .mfn name (.ifc t v) => match methA P t name with
    | some _ => some (.mfn name (.ifc t v))
    | none => none
  | _ => none

abbrev CallF := FuncId → List AV → Heap → Option (AV × Heap)

noncomputable def builtinA (P : Program) (σ : Heap) (b : Builtin) (ts : List TypeId) (vs : List AV) : Option (AV × Heap) :=
  match b, ts, vs with
  | .len, [t], [x] => (lenA P t x).map (·, σ)
  | .append, [st, xt], [s, x] => match x with
    | .int _ n => appendN P σ st xt s n
    | _ => appendA P σ st xt s x
  | .cap, [t], [x] => (capA P t x).map (·, σ)
  | .copy, [dt, _], [d, s] => copyA P σ dt d s
  | .clear, [t], [d] => (clearA P σ t d).map (.und, ·)
  | .min, _, [x, y] => (mmA true x y).map (·, σ)
  | .max, _, [x, y] => (mmA false x y).map (·, σ)
  | _, _, _ => none

/-- What an operation comes to: the value that is put down, and the memory. -/
noncomputable def opA (P : Program) (heapy : Bool) (call : CallF) (ρ : Env) (σ : Heap) (op : Op) : Option (AV × Heap) :=
  match op with
  | .move x => (evA ρ x).map (·, σ)
  | .assign x => (evA ρ x).map (·, σ)
  | .pick c a b => match evA ρ c with
    | some (.bool true) => (evA ρ a).map (·, σ)
    | some (.bool false) => (evA ρ b).map (·, σ)
    | _ => none
  | .alloc t => (allocM P σ.length t).map (putM σ)
  | .box t x => (evA ρ x).bind fun v => (boxM σ.length t v).map (putM σ)
  | .build t ps => (evps ρ ps.toList).bind fun vs => (buildA P t vs).map (·, σ)
  | .buildSlice t len ps => (evps ρ ps.toList).bind fun vs => (buildSliceM P heapy σ.length t len vs).map (putM σ)
  | .load t x => (evA ρ x).bind fun v => (loadA P σ t v).map (·, σ)
  | .store t x y => match evA ρ x, evA ρ y with
    | some v, some u => (storeA P σ t v u).map (.und, ·)
    | _, _ => none
  | .nilCheck x => (evA ρ x).bind fun v => (nilCheckA P v).map (·, σ)
  | .binOp op t x y _ => match evA ρ x, evA ρ y with
    | some v, some u => (binC P op t y v u).map (·, σ)
    | _, _ => none
  | .unOp op _ x => (evA ρ x).bind fun v => (unA op v).map (·, σ)
  | .makeFunc (.func f) first cap => match evs ρ first.toList, evs ρ cap.toList with
    | some fs, some cs => some (.fn f fs cs, σ)
    | _, _ => none
  | .makeFunc (.method name) first cap => match evs ρ first.toList, cap.toList with
    | some [v], [] => some (.mfn name v, σ)
    | _, _ => none
  | .makeInterface t x => (evA ρ x).bind fun v => (ifaceA P t v).map (·, σ)
  | .convert s d x => (evA ρ x).bind fun v => (convA P σ s d v).map (·, σ)
  | .lookup t x i ok => match evA ρ x, evA ρ i with
    | some v, some u => (lookupA P σ t v u ok).map (·, σ)
    | _, _ => none
  | .mapUpdate t m i x => match evA ρ m, evA ρ i, evA ρ x with
    | some v, some u, some y => (mapUpdateA P σ t v u y).map (.und, ·)
    | _, _, _ => none
  | .insert t m i x => match evA ρ m, evA ρ i, evA ρ x with
    | some v, some u, some y => (mapUpdateA P σ t v u y).map (.und, ·)
    | _, _, _ => none
  | .makeMap t r => (evo ρ r).bind fun v => (makeMapM P σ.length t v).map (putM σ)
  | .makeSlice t l c => match evA ρ l, evA ρ c with
    | some v, some u => (makeSliceM P σ.length t v u).map (putM σ)
    | _, _ => none
  | .slice t x lo hi mx => match evA ρ x, evo ρ lo, evo ρ hi, evo ρ mx with
    | some v, some l, some h, some m => (sliceA P σ t v l h m).map (·, σ)
    | _, _, _, _ => none
  | .fieldAddr s x f => (evA ρ x).bind fun v => (fieldAddrA P s v f).map (·, σ)
  | .field t x f => (evA ρ x).bind fun v => (fieldA P t v f).map (·, σ)
  | .indexAddr t x i => match evA ρ x, evA ρ i with
    | some v, some u => (indexAddrA P σ t v u).map (·, σ)
    | _, _ => none
  | .index t x i => match evA ρ x, evA ρ i with
    | some v, some u => (indexA P t v u).map (·, σ)
    | _, _ => none
  | .extract x i => (evA ρ x).bind fun v => (extractA v i).map (·, σ)
  | .call c => match evs ρ c.args.toList with
    | some vs => match c.callee with
      | .builtin b => builtinA P σ b c.argTypes.toList vs
      | .value f => match evA ρ f with
        | some (.fn g fs cs) => call g (fs ++ vs ++ cs) σ
        | _ => none
      | .invoke recv name => match evA ρ recv with
        | some (.ifc t v) => match methA P t name with
          | some g => call g (v :: vs) σ
          | none => none
        | _ => none
    | none => none
  | _ => none

/-! The same, laid out so that the kernel has little to put in. -/
abbrev OpT := Program → Bool → CallF → Env → Heap → Option (AV × Heap)
noncomputable def oMove (x : Operand) : OpT := fun _ _ _ ρ σ => (evA ρ x).map (·, σ)
noncomputable def oPick (c a b : Operand) : OpT := fun _ _ _ ρ σ => match evA ρ c with
    | some (.bool true) => (evA ρ a).map (·, σ)
    | some (.bool false) => (evA ρ b).map (·, σ)
    | _ => none
noncomputable def oAlloc (t : TypeId) : OpT := fun P _ _ _ σ => (allocM P σ.length t).map (putM σ)
noncomputable def oBox (t : TypeId) (x : Operand) : OpT := fun _ _ _ ρ σ => (evA ρ x).bind fun v => (boxM σ.length t v).map (putM σ)
noncomputable def oBuild (t : TypeId) (ps : Array (Nat × Operand)) : OpT := fun P _ _ ρ σ => (evps ρ ps.toList).bind fun vs => (buildA P t vs).map (·, σ)
noncomputable def oBuildS (t : TypeId) (len : Nat) (ps : Array (Nat × Operand)) : OpT := fun P heapy _ ρ σ => (evps ρ ps.toList).bind fun vs => (buildSliceM P heapy σ.length t len vs).map (putM σ)
noncomputable def oLoad (t : TypeId) (x : Operand) : OpT := fun P _ _ ρ σ => (evA ρ x).bind fun v => (loadA P σ t v).map (·, σ)
noncomputable def oStore (t : TypeId) (x y : Operand) : OpT := fun P _ _ ρ σ => match evA ρ x, evA ρ y with
    | some v, some u => (storeA P σ t v u).map (.und, ·)
    | _, _ => none
noncomputable def oNil (x : Operand) : OpT := fun P _ _ ρ σ => (evA ρ x).bind fun v => (nilCheckA P v).map (·, σ)
noncomputable def oBin (op : BinOp) (t : TypeId) (x y : Operand) : OpT := fun P _ _ ρ σ => match evA ρ x, evA ρ y with
    | some v, some u => (binCF P op t y v u).map (·, σ)
    | _, _ => none
noncomputable def oUn (op : UnOp) (x : Operand) : OpT := fun _ _ _ ρ σ => (evA ρ x).bind fun v => (unA op v).map (·, σ)
noncomputable def oFieldAddr (s : TypeId) (x : Operand) (f : Nat) : OpT := fun P _ _ ρ σ => (evA ρ x).bind fun v => (fieldAddrA P s v f).map (·, σ)
noncomputable def oField (t : TypeId) (x : Operand) (f : Nat) : OpT := fun P _ _ ρ σ => (evA ρ x).bind fun v => (fieldA P t v f).map (·, σ)
noncomputable def oIndexAddr (t : TypeId) (x i : Operand) : OpT := fun P _ _ ρ σ => match evA ρ x, evA ρ i with
    | some v, some u => (indexAddrA P σ t v u).map (·, σ)
    | _, _ => none
noncomputable def oIndex (t : TypeId) (x i : Operand) : OpT := fun P _ _ ρ σ => match evA ρ x, evA ρ i with
    | some v, some u => (indexA P t v u).map (·, σ)
    | _, _ => none
noncomputable def oExtract (x : Operand) (i : Nat) : OpT := fun _ _ _ ρ σ => (evA ρ x).bind fun v => (extractA v i).map (·, σ)
noncomputable def oSlice (t : TypeId) (x : Operand) (lo hi mx : Option Operand) : OpT := fun P _ _ ρ σ => match evA ρ x, evo ρ lo, evo ρ hi, evo ρ mx with
    | some v, some l, some h, some m => (sliceA P σ t v l h m).map (·, σ)
    | _, _, _, _ => none
noncomputable def oBuiltin (b : Builtin) (ts : List TypeId) (xs : List Operand) : OpT := fun P _ _ ρ σ => match evs ρ xs with
    | some vs => builtinA P σ b ts vs
    | none => none
noncomputable def oValue (f : Operand) (xs : List Operand) : OpT := fun _ _ call ρ σ => match evs ρ xs with
    | some vs => match evA ρ f with
        | some (.fn g fs cs) => call g (fs ++ vs ++ cs) σ
        | _ => none
    | none => none
noncomputable def oInvoke (recv : Operand) (name : String) (xs : List Operand) : OpT := fun P _ call ρ σ => match evs ρ xs with
    | some vs => match evA ρ recv with
        | some (.ifc t v) => match methA P t name with
          | some g => call g (v :: vs) σ
          | none => none
        | _ => none
    | none => none
noncomputable def oCall (c : Call) : OpT := match c.callee with
  | .builtin b => oBuiltin b c.argTypes.toList c.args.toList
  | .value f => oValue f c.args.toList
  | .invoke recv name => oInvoke recv name c.args.toList
noncomputable def oOther (op : Op) : OpT := fun P heapy call ρ σ => opA P heapy call ρ σ op
noncomputable def opF (op : Op) : OpT := match op with
  | .move x => oMove x
  | .assign x => oMove x
  | .pick c a b => oPick c a b
  | .alloc t => oAlloc t
  | .box t x => oBox t x
  | .build t ps => oBuild t ps
  | .buildSlice t len ps => oBuildS t len ps
  | .load t x => oLoad t x
  | .store t x y => oStore t x y
  | .nilCheck x => oNil x
  | .binOp op t x y _ => oBin op t x y
  | .unOp op _ x => oUn op x
  | .slice t x lo hi mx => oSlice t x lo hi mx
  | .fieldAddr s x f => oFieldAddr s x f
  | .field t x f => oField t x f
  | .indexAddr t x i => oIndexAddr t x i
  | .index t x i => oIndex t x i
  | .extract x i => oExtract x i
  | .call c => oCall c
  | op => oOther op
theorem opF_eq (P : Program) (heapy : Bool) (call : CallF) (ρ : Env) (σ : Heap) (op : Op) : opF op P heapy call ρ σ = opA P heapy call ρ σ op := by
  cases op <;> first
    | rfl
    | (simp only [opF, oBin, opA, binCF_eq]; done)
    | (simp only [opF, oBin, opA, binCF_eq]; rfl)
    | (rename_i c
       obtain ⟨callee, args, argTypes⟩ := c
       simp only [opF, oCall, opA]
       cases callee <;> simp only [oBuiltin, oValue, oInvoke] <;> rfl)

/-- A function of the program that is called comes to this. -/
noncomputable def CallIn (V : Nm → Prop) (P : Program) (f : FuncId) (args : List AV) (σ : Heap) (r : AV × Heap) : Prop :=
  (∃ fn, P.funcs[f]? = some fn ∧ (fn.name == "runtime.NumGoroutine") = false ∧ fn.body.isSome = true) ∧
  ∀ (k : Kn V) w us, Rel k σ w → VRels k args us.toList → Calls P f us w fun e w' => ∃ k' u, e = .returned u ∧ VRel k' r.1 u ∧ Step k σ w k' r.2 w'
/-- A function without a text of its own answers at once. -/
noncomputable def CallEx (V : Nm → Prop) (P : Program) (f : FuncId) (args : List AV) (σ : Heap) (r : AV × Heap) : Prop :=
  r.2 = σ ∧ ∀ (k : Kn V) w us, VRels k args us.toList → ∃ u, (callFunc f us).run P w = .ok (.value u) w ∧ VRel k r.1 u
noncomputable def CallOK (V : Nm → Prop) (P : Program) (f : FuncId) (args : List AV) (σ : Heap) (r : AV × Heap) : Prop := CallIn V P f args σ r ∨ CallEx V P f args σ r

theorem builtin_ok (hR : Rel k σ w) {b : Builtin} {ts : Array TypeId} {ty : TypeId} {cs : Array Bool} {vs : List AV} {us : Array Value} (hv : VRels k vs us.toList) {r : AV × Heap} (h : builtinA P σ b ts.toList vs = some r) :
    ∃ k' u w', (builtin b ts ty cs us).run P w = .ok (.value u) w' ∧ VRel k' r.1 u ∧ Step k σ w k' r.2 w' := by
  have one : ∀ {x : AV}, vs = [x] → ∃ u, us = #[u] ∧ VRel k x u := by
    rintro x rfl
    have hl := hv.1
    rcases hu : us.toList with _ | ⟨u, _ | ⟨u2, r⟩⟩
    · rw [hu] at hl; simp at hl
    · refine ⟨u, by apply Array.ext'; simpa using hu, hv.2 0 x u rfl (by rw [hu]; rfl)⟩
    · rw [hu] at hl; simp at hl
  have two : ∀ {x y : AV}, vs = [x, y] → ∃ u v, us = #[u, v] ∧ VRel k x u ∧ VRel k y v := by
    rintro x y rfl
    have hl := hv.1
    rcases hu : us.toList with _ | ⟨u, _ | ⟨u2, _ | ⟨u3, r⟩⟩⟩
    · rw [hu] at hl; simp at hl
    · rw [hu] at hl; simp at hl
    · refine ⟨u, u2, by apply Array.ext'; simpa using hu, hv.2 0 x u rfl (by rw [hu]; rfl), hv.2 1 y u2 rfl (by rw [hu]; rfl)⟩
    · rw [hu] at hl; simp at hl
  have lift : ∀ {s : Sem Value} {r : AV × Heap}, Ok P k σ w s r → ∃ k' u w', (do pure (.value (← s)) : Sem Next).run P w = .ok (.value u) w' ∧ VRel k' r.1 u ∧ Step k σ w k' r.2 w' := by
    rintro s r ⟨k', u, w', h1, h2, h3⟩
    exact ⟨k', u, w', by simp [h1], h2, h3⟩
  unfold builtinA at h
  split at h
  · rename_i t x hts
    obtain ⟨u, rfl, hx⟩ := one rfl
    have : ts = #[t] := by apply Array.ext'; simpa using hts
    subst this
    obtain ⟨y, hy, rfl⟩ := Option.map_eq_some_iff.1 h
    exact lift (len_ok hR hx hy)
  · rename_i st xt s x hts
    obtain ⟨u, v, rfl, hx, hy⟩ := two rfl
    have : ts = #[st, xt] := by apply Array.ext'; simpa using hts
    subst this
    split at h
    · cases hy; exact lift (appendN_ok hR hx h)
    · exact lift (append_ok hR hx hy h)
  · rename_i t x hts
    obtain ⟨u, rfl, hx⟩ := one rfl
    have : ts = #[t] := by apply Array.ext'; simpa using hts
    subst this
    obtain ⟨y, hy, rfl⟩ := Option.map_eq_some_iff.1 h
    exact lift (cap_ok hR hx hy)
  · rename_i dt x2 d s hts
    obtain ⟨u, v, rfl, hx, hy⟩ := two rfl
    have : ts = #[dt, x2] := by apply Array.ext'; simpa using hts
    subst this
    exact lift (copy_ok hR hx hy h)
  · rename_i t d hts
    obtain ⟨u, rfl, hx⟩ := one rfl
    have : ts = #[t] := by apply Array.ext'; simpa using hts
    subst this
    obtain ⟨σ', hy, rfl⟩ := Option.map_eq_some_iff.1 h
    obtain ⟨w', h1, h2⟩ := clear_ok (P := P) (ty := ty) hR hx hy
    exact ⟨k, _, w', by simp [builtin, h1], .und, h2⟩
  · obtain ⟨u, v, rfl, hx, hy⟩ := two rfl
    obtain ⟨y, hy', rfl⟩ := Option.map_eq_some_iff.1 h
    exact lift (min_ok hR hx hy hy')
  · obtain ⟨u, v, rfl, hx, hy⟩ := two rfl
    obtain ⟨y, hy', rfl⟩ := Option.map_eq_some_iff.1 h
    exact lift (max_ok hR hx hy hy')
  · cases h

theorem rest_args (x : Value) (arr : Array Value) : (#[x] ++ arr).extract 1 (#[x] ++ arr).size = arr := by
  apply Array.ext'
  simp
theorem first_arg (x : Value) (arr : Array Value) : (#[x] ++ arr)[0]? = some x := by
  rw [Array.getElem?_append]; simp

theorem op_ok {heapy : Bool} {call : CallF} (hc : ∀ f args σ r, call f args σ = some r → CallOK V P f args σ r) (hR : Rel k σ w) (hE : EnvR k n D ρ a) {o : Oper} {v : AV} {σ' : Heap} (h : opA P heapy call ρ σ o.op = some (v, σ'))
    {next : Act → World → Prop} {Q : Exit → Act → World → Prop} (hK : ∀ k' u w', VRel k' v u → Step k σ w k' σ' w' → next (a.put o.dst u) w') : o.wp P a w next Q := by
  -- an operation that yields a value
  have val : ∀ {s : Sem Value}, execOp a.eval o = (do pure (.value (← s))) → Ok P k σ w s (v, σ') → o.wp P a w next Q := by
    rintro s hs ⟨k', u, w', h1, h2, h3⟩
    unfold Oper.wp
    rw [hs]
    simp only [Sem.run_bind, h1, Result.andThen_ok, Sem.run_pure, Oper.upon_value]
    exact hK k' u w' h2 h3
  have pur : ∀ {u : Value}, execOp a.eval o = pure (.value u) → VRel k v u → σ' = σ → o.wp P a w next Q := by
    rintro u hs hv rfl
    unfold Oper.wp
    rw [hs]
    simp only [Sem.run_pure, Oper.upon_value]
    exact hK k u w hv (Step.refl hR)
  obtain ⟨dst, op, type, pos, after, guard⟩ := o
  simp only at h
  unfold opA at h
  split at h
  · obtain ⟨x, hx, he⟩ := Option.map_eq_some_iff.1 h
    injection he with h1 h2; subst h1; subst h2
    exact pur rfl (ev_rel hE hx) rfl
  · obtain ⟨x, hx, he⟩ := Option.map_eq_some_iff.1 h
    injection he with h1 h2; subst h1; subst h2
    exact pur rfl (ev_rel hE hx) rfl
  · rename_i c x y
    split at h
    · rename_i hc
      obtain ⟨z, hz, he⟩ := Option.map_eq_some_iff.1 h
      injection he with h1 h2; subst h1; subst h2
      have hb := ev_rel hE hc
      refine val (s := pure (a.eval x)) ?_ (Ok.same hR rfl (ev_rel hE hz))
      generalize hu : a.eval c = u at hb
      cases hb
      simp [execOp, hu, asBool]
    · rename_i hc
      obtain ⟨z, hz, he⟩ := Option.map_eq_some_iff.1 h
      injection he with h1 h2; subst h1; subst h2
      have hb := ev_rel hE hc
      refine val (s := pure (a.eval y)) ?_ (Ok.same hR rfl (ev_rel hE hz))
      generalize hu : a.eval c = u at hb
      cases hb
      simp [execOp, hu, asBool]
    · cases h
  · obtain ⟨m, hm, he⟩ := Option.map_eq_some_iff.1 h
    exact val rfl (he ▸ (alloc_ok hm).ok hR)
  · obtain ⟨x, hx, he⟩ := Option.bind_eq_some_iff.1 h
    obtain ⟨m, hm, he⟩ := Option.map_eq_some_iff.1 he
    exact val rfl (he ▸ (box_ok (ev_rel hE hx) hm).ok hR)
  · obtain ⟨x, hx, he⟩ := Option.bind_eq_some_iff.1 h
    obtain ⟨y, hy, he⟩ := Option.map_eq_some_iff.1 he
    injection he with h1 h2; subst h1; subst h2
    exact val rfl (build_ok hR (by simpa using evps_rel hE hx) hy)
  · obtain ⟨x, hx, he⟩ := Option.bind_eq_some_iff.1 h
    obtain ⟨m, hm, he⟩ := Option.map_eq_some_iff.1 he
    exact val rfl (he ▸ (buildSlice_ok hR (by simpa using evps_rel hE hx) hm).ok hR)
  · obtain ⟨x, hx, he⟩ := Option.bind_eq_some_iff.1 h
    obtain ⟨y, hy, he⟩ := Option.map_eq_some_iff.1 he
    injection he with h1 h2; subst h1; subst h2
    exact val rfl (load_ok hR (ev_rel hE hx) hy)
  · split at h
    · rename_i x y _ _ hx hy
      obtain ⟨y', hy', he⟩ := Option.map_eq_some_iff.1 h
      injection he with h1 h2; subst h1; subst h2
      obtain ⟨w', hrun, hst⟩ := store_ok (P := P) hR (ev_rel hE hx) (ev_rel hE hy) hy'
      unfold Oper.wp
      simp only [execOp, Sem.run_bind, hrun, Result.andThen_ok, Sem.run_pure, Oper.upon_skip]
      exact hK k undef w' .und hst
    · cases h
  · rename_i x
    obtain ⟨y, hy, he⟩ := Option.bind_eq_some_iff.1 h
    obtain ⟨z, hz, he⟩ := Option.map_eq_some_iff.1 he
    injection he with h1 h2; subst h1; subst h2
    have hr := ev_rel hE hy
    have key : (execOp a.eval { dst := dst, op := Op.nilCheck x, type := type, pos := pos, after := after, guard := guard }).run P w = .ok (.value (a.eval x)) w ∧ VRel k z (a.eval x) := by
      generalize hu : a.eval x = u at hr
      unfold nilCheckA at hz
      split at hz
      · injection hz with hz; subst hz; cases hr; exact ⟨by simp [execOp, hu], .ptr _ _ _ _ _ ‹_› ‹_›⟩
      · injection hz with hz; subst hz; refine ⟨?_, hr⟩; cases hr; simp [execOp, hu]
      · injection hz with hz; subst hz; refine ⟨?_, hr⟩; cases hr; simp [execOp, hu]
      · injection hz with hz; subst hz; refine ⟨?_, hr⟩; cases hr; simp [execOp, hu]
      · split at hz
        · rename_i g hg
          injection hz with hz; subst hz
          refine ⟨?_, hr⟩
          cases hr with
          | mfn _ _ u' h' =>
          cases h' with
          | ifc _ _ u'' h'' =>
          have hn := fun w => (method_ok hg (P.types.size + Made.depth - 1) u'' w).2
          have hd : P.types.size + Made.depth - 1 + 1 = P.types.size + Made.depth := by unfold Made.depth; omega
          rw [hd] at hn
          simp [execOp, hu, hn]
        · cases hz
      · cases hz
    unfold Oper.wp
    rw [key.1]
    simp only [Oper.upon_value]
    exact hK k _ w key.2 (Step.refl hR)
  · split at h
    · rename_i x y _ _ hx hy
      obtain ⟨y', hy', he⟩ := Option.map_eq_some_iff.1 h
      injection he with h1 h2; subst h1; subst h2
      exact val rfl (binC_ok hR (ev_rel hE hx) (ev_rel hE hy) hy')
    · cases h
  · obtain ⟨x, hx, he⟩ := Option.bind_eq_some_iff.1 h
    obtain ⟨y, hy, he⟩ := Option.map_eq_some_iff.1 he
    injection he with h1 h2; subst h1; subst h2
    exact val rfl (un_ok hR (ev_rel hE hx) hy)
  · split at h
    · rename_i f first cap _ _ fs cs hf hc'
      injection h with h; injection h with h1 h2; subst h1; subst h2
      have r1 := evs_rel hE hf
      have r2 := evs_rel hE hc'
      refine val (s := Instr.makeFunc (.func f) (first.map a.eval) (cap.map a.eval)) rfl (Ok.same hR rfl (.fn f fs cs _ _ ?_ ?_ ?_ ?_))
      · simpa using r1.1
      · intro j v u hv hu; exact r1.2 j v u hv (by simpa using hu)
      · simpa using r2.1
      · intro j v u hv hu; exact r2.2 j v u hv (by simpa using hu)
    · cases h
  · split at h
    · rename_i name first cap _ _ v hf hc'
      injection h with h; injection h with h1 h2; subst h1; subst h2
      have r1 := evs_rel hE hf
      have hcap : cap = #[] := Array.toList_eq_nil_iff.1 hc'
      subst hcap
      refine val (s := Instr.makeFunc (.method name) (first.map a.eval) (#[].map a.eval)) rfl ?_
      have hl := r1.1
      rcases hfs : first with ⟨l⟩
      subst hfs
      rcases l with _ | ⟨y, _ | ⟨y2, l⟩⟩
      · simp at hl
      · have := r1.2 0 v (a.eval y) rfl (by simp)
        exact Ok.same hR (v := .func (.method name) #[a.eval y] #[]) (by simp [Instr.makeFunc]) (.mfn name v _ this)
      · simp at hl
    · cases h
  · obtain ⟨x, hx, he⟩ := Option.bind_eq_some_iff.1 h
    obtain ⟨y, hy, he⟩ := Option.map_eq_some_iff.1 he
    injection he with h1 h2; subst h1; subst h2
    exact val rfl (iface_ok hR (ev_rel hE hx) hy)
  · obtain ⟨x, hx, he⟩ := Option.bind_eq_some_iff.1 h
    obtain ⟨y, hy, he⟩ := Option.map_eq_some_iff.1 he
    injection he with h1 h2; subst h1; subst h2
    exact val rfl (conv_ok hR (ev_rel hE hx) hy)
  · split at h
    · rename_i x y _ _ hx hy
      obtain ⟨y', hy', he⟩ := Option.map_eq_some_iff.1 h
      injection he with h1 h2; subst h1; subst h2
      exact val rfl (lookup_ok hR (ev_rel hE hx) (ev_rel hE hy) hy')
    · cases h
  · split at h
    · rename_i h1 h2 h3
      obtain ⟨y', hy', he⟩ := Option.map_eq_some_iff.1 h
      injection he with g1 g2; subst g1; subst g2
      obtain ⟨w', hrun, hst⟩ := mapUpdate_ok (P := P) hR (ev_rel hE h1) (ev_rel hE h2) (ev_rel hE h3) hy'
      unfold Oper.wp
      simp only [execOp, Sem.run_bind, hrun, Result.andThen_ok, Sem.run_pure, Oper.upon_skip]
      exact hK k undef w' .und hst
    · cases h
  · split at h
    · rename_i h1 h2 h3
      obtain ⟨y', hy', he⟩ := Option.map_eq_some_iff.1 h
      injection he with g1 g2; subst g1; subst g2
      obtain ⟨w', hrun, hst⟩ := mapUpdate_ok (P := P) hR (ev_rel hE h1) (ev_rel hE h2) (ev_rel hE h3) hy'
      unfold Oper.wp
      simp only [execOp, Sem.run_bind, hrun, Result.andThen_ok, Sem.run_pure, Oper.upon_skip]
      exact hK k undef w' .und hst
    · cases h
  · obtain ⟨x, hx, he⟩ := Option.bind_eq_some_iff.1 h
    obtain ⟨m, hm, he⟩ := Option.map_eq_some_iff.1 he
    exact val rfl (he ▸ (makeMap_ok (evo_rel hE hx).1 (evo_rel hE hx).2 hm).ok hR)
  · split at h
    · rename_i x y _ _ hx hy
      obtain ⟨m, hm, he⟩ := Option.map_eq_some_iff.1 h
      exact val rfl (he ▸ (makeSlice_ok hR (ev_rel hE hx) (ev_rel hE hy) hm).ok hR)
    · cases h
  · split at h
    · rename_i hx hl hh hm
      obtain ⟨y', hy', he⟩ := Option.map_eq_some_iff.1 h
      injection he with h1 h2; subst h1; subst h2
      exact val rfl (slice_ok hR (ev_rel hE hx) (evo_rel hE hl) (evo_rel hE hh) (evo_rel hE hm) hy')
    · cases h
  · obtain ⟨x, hx, he⟩ := Option.bind_eq_some_iff.1 h
    obtain ⟨y, hy, he⟩ := Option.map_eq_some_iff.1 he
    injection he with h1 h2; subst h1; subst h2
    exact val rfl (fieldAddr_ok hR (ev_rel hE hx) hy)
  · obtain ⟨x, hx, he⟩ := Option.bind_eq_some_iff.1 h
    obtain ⟨y, hy, he⟩ := Option.map_eq_some_iff.1 he
    injection he with h1 h2; subst h1; subst h2
    exact val rfl (field_ok hR (ev_rel hE hx) hy)
  · split at h
    · rename_i x y _ _ hx hy
      obtain ⟨y', hy', he⟩ := Option.map_eq_some_iff.1 h
      injection he with h1 h2; subst h1; subst h2
      exact val rfl (indexAddr_ok hR (ev_rel hE hx) (ev_rel hE hy) hy')
    · cases h
  · split at h
    · rename_i x y _ _ hx hy
      obtain ⟨y', hy', he⟩ := Option.map_eq_some_iff.1 h
      injection he with h1 h2; subst h1; subst h2
      exact val rfl (index_ok hR (ev_rel hE hx) (ev_rel hE hy) hy')
    · cases h
  · obtain ⟨x, hx, he⟩ := Option.bind_eq_some_iff.1 h
    obtain ⟨y, hy, he⟩ := Option.map_eq_some_iff.1 he
    injection he with h1 h2; subst h1; subst h2
    exact val rfl (extract_ok hR (ev_rel hE hx) hy)
  · rename_i c
    split at h
    · rename_i vs hvs
      have hr := evs_rel hE hvs
      split at h
      · rename_i b hb
        have key : ∀ cs : Array Bool, Oper.upon P { dst := dst, op := Op.call c, type := type, pos := pos, after := after, guard := guard } a next Q ((builtin b c.argTypes type cs (c.args.map a.eval)).run P w) := fun cs => by
          obtain ⟨k', u, w', h1, h2, h3⟩ := builtin_ok (P := P) (ty := type) (cs := cs) (us := c.args.map a.eval) hR (by simpa using hr) h
          rw [h1]
          exact hK k' u w' h2 h3
        unfold Oper.wp
        simp only [execOp, resolve, hb, Sem.run_bind, Sem.run_pure, Result.andThen_ok, invoke]
        exact key _
      · rename_i f hf
        split at h
        · rename_i g fs cs hg
          have hfr := ev_rel hE hg
          have hcc := hc _ _ _ _ h
          generalize hu : a.eval f = uf at hfr
          cases hfr with
          | fn _ _ _ us1 us2 l1 r1 l2 r2 =>
          have hargs : VRels k (fs ++ vs ++ cs) (us1 ++ (c.args.map a.eval) ++ us2).toList := by
            simp only [Array.toList_append]
            exact (VRels.append (VRels.append ⟨by simpa using l1, fun j v u hv hu => r1 j v u hv (by simpa using hu)⟩ (by simpa using hr)) ⟨by simpa using l2, fun j v u hv hu => r2 j v u hv (by simpa using hu)⟩)
          unfold Oper.wp
          simp only [execOp, resolve, hf, hu, Deferred.ofValue, Sem.run_bind, Sem.run_pure, Result.andThen_ok, invoke]
          rcases hcc with ⟨⟨fn, hfn, hname, hbody⟩, hcall⟩ | ⟨hs, hcall⟩
          · have hbn : fn.body.isNone = false := by cases hb : fn.body <;> simp_all
            simp only [callFunc, Sem.run_bind, Result.andThen_ok, run_program, hfn, hname, hbn, if_false, Bool.false_eq_true, Sem.run_pure, Oper.upon_enter]
            refine Calls.mono (hcall k w _ hR hargs) fun e w' he => ?_
            obtain ⟨k', u, rfl, h2, h3⟩ := he
            exact hK k' u w' h2 h3
          · obtain ⟨u, h1, h2⟩ := hcall k w _ hargs
            rw [h1]
            simp only at hs
            subst hs
            exact hK k u w h2 (Step.refl hR)
        · cases h
      · rename_i recv name hb
        split at h
        · rename_i t v hg
          split at h
          · rename_i g hmeth
            have hfr := ev_rel hE hg
            have hcc := hc _ _ _ _ h
            generalize hu : a.eval recv = uf at hfr
            cases hfr with
            | ifc _ _ u' h' =>
            have hargs : VRels k (v :: vs) (#[u'] ++ c.args.map a.eval).toList := by
              simp only [Array.toList_append]
              have h1 : VRels k [v] [u'] := ⟨rfl, fun j x y hx hy => by
                rcases j with _ | j
                · simp at hx hy; subst hx; subst hy; exact h'
                · simp at hx⟩
              exact VRels.append h1 (by simpa using hr)
            have hme := (method_ok hmeth (P.types.size + Made.depth - 1) u' w).1
            have hd : P.types.size + Made.depth - 1 + 1 = P.types.size + Made.depth := by unfold Made.depth; omega
            rw [hd] at hme
            have hex := rest_args (.iface t u') (c.args.map a.eval)
            have h0 := first_arg (.iface t u') (c.args.map a.eval)
            unfold Oper.wp
            simp only [execOp, resolve, hb, hu, Sem.run_bind, Sem.run_pure, Result.andThen_ok, invoke]
            rw [h0]
            simp only [callMethod, hex, Sem.run_bind, run_program, Result.andThen_ok, hme]
            rcases hcc with ⟨⟨fn, hfn, hname, hbody⟩, hcall⟩ | ⟨hs, hcall⟩
            · have hbn : fn.body.isNone = false := by cases hb : fn.body <;> simp_all
              simp only [callFunc, Sem.run_bind, Result.andThen_ok, run_program, hfn, hname, hbn, if_false, Bool.false_eq_true, Sem.run_pure, Oper.upon_enter]
              refine Calls.mono (hcall k w _ hR hargs) fun e w' he => ?_
              obtain ⟨k', u, rfl, h2, h3⟩ := he
              exact hK k' u w' h2 h3
            · obtain ⟨u, h1, h2⟩ := hcall k w _ hargs
              rw [h1]
              simp only at hs
              subst hs
              exact hK k u w h2 (Step.refl hR)
          · cases h
        · cases h
    · cases h
  · cases h
end
end Go.Dx
