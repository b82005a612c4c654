/- Calls, reckoned to a depth; that the machine's calls come to the same. -/
import Derived.Test.YtnglipioaippoaaEyD
import Derived.Defers
import Derived.Laws.Externs
namespace Go.Dx
variable {V : Nm → Prop}

noncomputable def mapO {α β : Type} (f : α → Option β) : List α → Option (List β)
  | [] => some []
  | x :: r => match f x, mapO f r with
    | some a, some b => some (a :: b)
    | _, _ => none
theorem mapO_get {α β : Type} {f : α → Option β} {xs : List α} {ys : List β} (h : mapO f xs = some ys) : ys.length = xs.length ∧ ∀ (j : Nat) (y : β), ys[j]? = some y → ∃ x, xs[j]? = some x ∧ f x = some y := by
  induction xs generalizing ys with
  | nil => simp only [mapO] at h; injection h with h; subst h; exact ⟨rfl, fun j p hp => by simp at hp⟩
  | cons v r ih =>
    simp only [mapO] at h
    split at h
    · rename_i a b ha hb
      injection h with h; subst h
      obtain ⟨h1, h2⟩ := ih hb
      refine ⟨by simp [h1], fun j p hp => ?_⟩
      cases j with
      | zero => simp at hp; subst hp; exact ⟨v, rfl, ha⟩
      | succ j => simp at hp; obtain ⟨v', hv', hd⟩ := h2 j p hp; exact ⟨v', by simpa using hv', hd⟩
    · cases h
theorem mapO_get' {α β : Type} {f : α → Option β} {xs : List α} {ys : List β} (h : mapO f xs = some ys) : ∀ (j : Nat) (x : α), xs[j]? = some x → ∃ y, ys[j]? = some y ∧ f x = some y := by
  intro j x hx
  obtain ⟨h1, h2⟩ := mapO_get h
  have hj : j < ys.length := by rw [h1]; exact (List.getElem?_eq_some_iff.1 hx).1
  obtain ⟨x', hx', hf⟩ := h2 j _ (List.getElem?_eq_getElem hj)
  rw [hx] at hx'; injection hx' with hx'; subst hx'
  exact ⟨_, List.getElem?_eq_getElem hj, hf⟩

/-- A value's own memory is told as it stands. -/
noncomputable def snapP (σ : Heap) : Nat → AV → Option PV
  | 0, v => down v
  | m + 1, v => match v with
    | .sl id ep off len => match elemsA σ (.sl id ep off len) with
      | some es => (mapO (mapO (snapP σ m)) es).map (.ro false)
      | none => none
    | v => down v

/-- Values that need no memory of the call's own. -/
noncomputable def pure1 : AV → Bool
  | .und | .bool _ | .int _ _ | .str _ | .nilp | .rptr _ | .nils | .emp | .ro _ _ | .nilm | .nilf | .nili => true
  | .fn _ [] [] => true
  | _ => false
noncomputable def pureA : AV → Bool
  | .agg cs => cs.all pure1
  | v => pure1 v
/-- Numbers, texts. -/
noncomputable def scal1 : AV → Bool
  | .und | .bool _ | .int _ _ | .str _ => true
  | _ => false
noncomputable def scalA : AV → Bool
  | .agg cs => cs.all scal1
  | .tup cs => cs.all scal1
  | v => scal1 v

noncomputable def snap1 (σ : Heap) (m : Nat) (v : AV) : Option AV :=
  if pure1 v then some v else (snapP σ m v).map up
noncomputable def snapV (σ : Heap) (m : Nat) (v : AV) : Option AV :=
  match v with
  | .agg cs => (mapO (snap1 σ m) cs).map .agg
  | v => snap1 σ m v
noncomputable def snapR (σ : Heap) (m : Nat) (v : AV) : Option AV :=
  match v with
  | .tup vs => (mapO (snapV σ m) vs).map .tup
  | v => snapV σ m v

section
variable {P : Program} {k : Kn V} {σ : Heap} {w : World}

theorem snapP_rel {H2 : Nat → Option Obj} (hR : Rel k σ w) (hH : ∀ b o, k.H b = some o → H2 b = some o) (hμ : ∀ id ep l, k.μ id ep = some l → H2 l.cb = w.heap[l.cb]?) : ∀ (m : Nat) {v : AV} {p : PV} {u : Value}, snapP σ m v = some p → VRel k v u → PRel H2 p u := by
  have base : ∀ {v : AV} {p : PV} {u : Value}, down v = some p → VRel k v u → PRel H2 p u := fun hd hv => (down_rel hd hv).mono hH
  intro m
  induction m with
  | zero => exact fun h hv => base h hv
  | succ m ih =>
    intro v p u h hv
    simp only [snapP] at h
    split at h
    · rename_i id ep off len
      split at h
      · rename_i es hes
        obtain ⟨ps, hps, rfl⟩ := Option.map_eq_some_iff.1 h
        obtain ⟨h1, h2⟩ := mapO_get hps
        cases hv with
        | sl _ _ _ _ l a cap hm hs hl ha hn =>
        unfold elemsA at hes
        simp only at hes
        split at hes
        · rename_i ty sz es0 live next hb
          split at hes
          · rename_i x hx
            split at hes
            · rename_i hle
              injection hes with hes
              have r := hR.row _ _ _ _ _ _ hb
              obtain ⟨l', c, fz, hm', hsz, hls, _, hw, hcs, _, hext, hcell⟩ := r.loc ep x (lookE_mem hx)
              rw [hm] at hm'; injection hm' with hm'; subst hm'
              have hxl := (r.eps ep x (lookE_mem hx)).2
              have hlen : es.length = len := by rw [← hes]; simp; omega
              have hget : ∀ {i : Nat} {e : List AV}, es[i]? = some e → i < len ∧ es0[off + i]? = some e := by
                intro i e he
                have hi := (List.getElem?_eq_some_iff.1 he).1
                rw [← hes, List.getElem?_take] at he
                split at he
                · rename_i hi'; rw [List.getElem?_drop] at he; exact ⟨hi', he⟩
                · cases he
              have hcellp : ∀ (i : Nat) (e : List PV) (j : Nat) (q : PV), ps[i]? = some e → e[j]? = some q → ∃ u, c[(off + i - l.s) * sz + j]? = some u ∧ PRel H2 q u := by
                intro i e j q he hq
                obtain ⟨e', he', hd'⟩ := h2 i e he
                obtain ⟨v', hv', hdv⟩ := (mapO_get hd').2 j q hq
                obtain ⟨hi, he0⟩ := hget he'
                obtain ⟨u, hu, hr⟩ := hcell (off + i) e' j v' (by omega) (by omega) he0 hv'
                exact ⟨u, hu, ih hdv hr⟩
              have hpl : ps.length = len := by rw [h1, hlen]
              have hspot : a.spot = none := by rcases ha with ha | ha; exact ha.2; rw [ha]
              have := PRel.ro (H := H2) false ps a cap sz c ty fz (fun i j => c[(off + i - l.s) * sz + j]?.getD undef) hspot (fun hne => ?_) (by omega) (by simp) (fun i e he => ?_) (fun i e j q he hq => ?_) (fun i e j q he hq => ?_)
              · rw [hpl] at this; exact this
              · have haa : a = ⟨l.cb, (off - l.s) * l.sz, none⟩ := by
                  rcases ha with ha | ha
                  · have : ps = [] := List.eq_nil_of_length_eq_zero (by omega)
                    exact absurd this hne
                  · exact ha
                rw [haa]
                show H2 l.cb = _
                rw [hμ _ _ _ hm]; exact hw
              · obtain ⟨e', he', hd'⟩ := h2 i e he
                rw [(mapO_get hd').1]
                exact (r.len _ e' (hget he').2).1
              · obtain ⟨u, hu, _⟩ := hcellp i e j q he hq
                have haa : a = ⟨l.cb, (off - l.s) * l.sz, none⟩ := by
                  rcases ha with ha | ha
                  · have hi := (List.getElem?_eq_some_iff.1 he).1; omega
                  · exact ha
                rw [haa]
                simp only
                rw [hu, Option.getD_some, ← hu]
                congr 1
                rw [hsz, show off + i - l.s = (off - l.s) + i by omega, Nat.add_mul]
                omega
              · obtain ⟨u, hu, hr⟩ := hcellp i e j q he hq
                rw [hu]; exact hr
            · cases hes
          · cases hes
        · cases hes
      · cases h
    · exact base h hv

/-- Without memory of the call's own. -/
noncomputable def Kn.bare (k : Kn V) (H : Nat → Option Obj) : Kn V := ⟨H, fun _ _ => none, k.val, k.hv⟩
theorem pure1_rel {H2 : Nat → Option Obj} {μ : Nat → Nat → Option Loc} {val : Nm} {hvl : V val} (hH : ∀ b o, k.H b = some o → H2 b = some o) {v : AV} {u : Value} (hp : pure1 v = true) (h : VRel k v u) : VRel ⟨H2, μ, val, hvl⟩ v u := by
  cases h with
  | und => exact .und
  | bool b => exact .bool b
  | int i n => exact .int i n
  | str s => exact .str s
  | nilp => exact .nilp
  | ptr => cases hp
  | rptr cs b o c ty fz f h1 hc hv => exact .rptr cs b o c ty fz f (hH _ _ h1) hc (fun j v hj => (hv j v hj).mono hH)
  | nils => exact .nils
  | emp a => exact .emp a
  | sl => cases hp
  | ro full es u h => exact .ro full es u (h.mono hH)
  | agg => cases hp
  | tup => cases hp
  | nilm => exact .nilm
  | fn f fs cs us vs hf h1 hc h2 =>
    rcases fs with _ | ⟨x, fs⟩
    · rcases cs with _ | ⟨y, cs⟩
      · exact .fn f [] [] us vs hf (fun j v u hv => by simp at hv) hc (fun j v u hv => by simp at hv)
      · cases hp
    · cases hp
  | nilf => exact .nilf
  | nili => exact .nili
  | map => cases hp
  | ifc => cases hp
  | mfn => cases hp
  | tok => cases hp
  | osl => cases hp
  | stk => cases hp
  | lsl => cases hp
  | wptr => cases hp
  | lsq => cases hp
theorem pureA_rel {H2 : Nat → Option Obj} {μ : Nat → Nat → Option Loc} {val : Nm} {hvl : V val} (hH : ∀ b o, k.H b = some o → H2 b = some o) {v : AV} {u : Value} (hp : pureA v = true) (h : VRel k v u) : VRel ⟨H2, μ, val, hvl⟩ v u := by
  unfold pureA at hp
  split at hp
  · rename_i cs
    cases h with
    | agg _ us hl hc => exact .agg cs us hl fun j v u hv hu => pure1_rel hH (List.all_eq_true.1 hp v (List.mem_of_getElem? hv)) (hc j v u hv hu)
  · exact pure1_rel hH hp h
theorem scal1_rel {k' : Kn V} {v : AV} {u : Value} (hp : scal1 v = true) (h : VRel k v u) : VRel k' v u := by
  cases h <;> first | (cases hp; done) | constructor
theorem scalA_rel {k' : Kn V} {v : AV} {u : Value} (hp : scalA v = true) (h : VRel k v u) : VRel k' v u := by
  unfold scalA at hp
  split at hp
  · rename_i cs
    cases h with
    | agg _ us hl hc => exact .agg cs us hl fun j v u hv hu => scal1_rel (List.all_eq_true.1 hp v (List.mem_of_getElem? hv)) (hc j v u hv hu)
  · rename_i cs
    cases h with
    | tup _ us hl hc => exact .tup cs us hl fun j v u hv hu => scal1_rel (List.all_eq_true.1 hp v (List.mem_of_getElem? hv)) (hc j v u hv hu)
  · exact scal1_rel hp h

theorem snap1_rel {H2 : Nat → Option Obj} {μ : Nat → Nat → Option Loc} {val : Nm} {hvl : V val} (hR : Rel k σ w) (hH : ∀ b o, k.H b = some o → H2 b = some o) (hμ : ∀ id ep l, k.μ id ep = some l → H2 l.cb = w.heap[l.cb]?) {m : Nat} {v r : AV} {u : Value} (h : snap1 σ m v = some r) (hv : VRel k v u) : VRel ⟨H2, μ, val, hvl⟩ r u := by
  unfold snap1 at h
  split at h
  · rename_i hp; injection h with h; subst h; exact pure1_rel hH hp hv
  · obtain ⟨p, hp, rfl⟩ := Option.map_eq_some_iff.1 h
    exact VRel.of_up (k := ⟨H2, μ, val, hvl⟩) (snapP_rel hR hH hμ m hp hv)
theorem mapO_rels {k' : Kn V} {f : AV → Option AV} (hf : ∀ v r u, f v = some r → VRel k v u → VRel k' r u) {vs rs : List AV} (h : mapO f vs = some rs) {us : List Value} (hv : VRels k vs us) : VRels k' rs us := by
  obtain ⟨h1, h2⟩ := mapO_get h
  refine ⟨by rw [h1]; exact hv.1, fun j r u hr hu => ?_⟩
  obtain ⟨v, hv', hf'⟩ := h2 j r hr
  exact hf v r u hf' (hv.2 j v u hv' hu)
theorem snapV_rel {H2 : Nat → Option Obj} {μ : Nat → Nat → Option Loc} {val : Nm} {hvl : V val} (hR : Rel k σ w) (hH : ∀ b o, k.H b = some o → H2 b = some o) (hμ : ∀ id ep l, k.μ id ep = some l → H2 l.cb = w.heap[l.cb]?) {m : Nat} {v r : AV} {u : Value} (h : snapV σ m v = some r) (hv : VRel k v u) : VRel ⟨H2, μ, val, hvl⟩ r u := by
  unfold snapV at h
  split at h
  · rename_i cs
    obtain ⟨rs, hrs, rfl⟩ := Option.map_eq_some_iff.1 h
    cases hv with
    | agg _ us hl hc =>
    have := mapO_rels (k' := ⟨H2, μ, val, hvl⟩) (fun v r u hf hv => snap1_rel hR hH hμ hf hv) hrs (us := us.toList) ⟨by simpa using hl, fun j v u hv hu => hc j v u hv (by simpa using hu)⟩
    exact .agg rs us (by simpa using this.1) fun j v u hv hu => this.2 j v u hv (by simpa using hu)
  · exact snap1_rel hR hH hμ h hv
theorem snapR_rel {H2 : Nat → Option Obj} {μ : Nat → Nat → Option Loc} {val : Nm} {hvl : V val} (hR : Rel k σ w) (hH : ∀ b o, k.H b = some o → H2 b = some o) (hμ : ∀ id ep l, k.μ id ep = some l → H2 l.cb = w.heap[l.cb]?) {m : Nat} {v r : AV} {u : Value} (h : snapR σ m v = some r) (hv : VRel k v u) : VRel ⟨H2, μ, val, hvl⟩ r u := by
  unfold snapR at h
  split at h
  · rename_i cs
    obtain ⟨rs, hrs, rfl⟩ := Option.map_eq_some_iff.1 h
    cases hv with
    | tup _ us hl hc =>
    have := mapO_rels (k' := ⟨H2, μ, val, hvl⟩) (fun v r u hf hv => snapV_rel hR hH hμ hf hv) hrs (us := us.toList) ⟨by simpa using hl, fun j v u hv hu => hc j v u hv (by simpa using hu)⟩
    exact .tup rs us (by simpa using this.1) fun j v u hv hu => this.2 j v u hv (by simpa using hu)
  · exact snapV_rel hR hH hμ h hv
end

/-! ### Results, and a call -/
structure FnI where
  fn : Func
  keep : List Nat
  mode : Nat
  heapy : Bool
  rounds : Nat

noncomputable def resA (P : Program) (s : St) : List ResultVar → Option (List AV)
  | [] => some []
  | .tmp t :: r => match s.ρ.get t, resA P s r with
    | some v, some vs => some (v :: vs)
    | _, _ => none
  | .cell a t :: r => match (s.ρ.get a).bind (loadA P s.σ t), resA P s r with
    | some v, some vs => some (v :: vs)
    | _, _ => none
noncomputable def oneRes : List AV → AV
  | [v] => v
  | vs => .tup vs

noncomputable def initE : Nat → List AV → Env
  | _, [] => []
  | i, v :: r => (i, v) :: initE (i + 1) r

abbrev DrawX := Bool → CallF → Nat → DrawF

/-- The last operation of a region defers a call: what is ahead of it, and where the function stands. -/
noncomputable def splitD : List Oper → Option (List Oper × Tmp)
  | [] => none
  | o :: r => match r with
    | [] => match o.op, o.guard, o.dst with
      | .defer c, none, none => match c.callee, c.args.toList with
        | .value (.tmp t), [] => some ([], t)
        | _, _ => none
      | _, _, _ => none
    | _ :: _ => match splitD r with
      | some (l, t) => some (o :: l, t)
      | none => none
noncomputable def shapeD : Code → Option (Code × Array Oper × List Oper × Tmp × Code)
  | .seq c1 (.seq (.region _ ops false) c2) => match splitD ops.toList with
    | some (l, t) => some (c1, ops, l, t, c2)
    | none => none
  | _ => none
noncomputable def leftN : AX → Bool
  | .nrm | .ret => true
  | .ext _ => false
noncomputable def endA (P : Program) (i : FnI) : Option (AX × St) → Option (AV × Heap)
  | some (x, s) => if leftN x then (resA P s i.fn.results.toList).map fun vs => (oneRes vs, s.σ) else none
  | none => none
/-- A function with a deferred call. -/
noncomputable def runD (P : Program) (call callD : CallF) (draw : DrawX) (i : FnI) (sh : Code × Array Oper × List Oper × Tmp × Code) (args : List AV) (σ : Heap) : Option (AV × Heap) :=
  match codeA P i.heapy call (draw i.heapy call i.fn.ntmps) i.fn.ntmps i.rounds i.keep sh.1 ⟨σ, initE 0 args⟩ with
  | some (.nrm, s1) => match opsA P i.heapy call i.fn.ntmps sh.2.1 sh.2.2.1 s1 with
    | some s2 => match s2.ρ.get sh.2.2.2.1 with
      | some (.fn g fs cs) => match codeA P i.heapy call (draw i.heapy call i.fn.ntmps) i.fn.ntmps i.rounds i.keep sh.2.2.2.2 ⟨s2.σ, prune i.keep s2.ρ⟩ with
        | some (x, s3) => if leftN x then match callD g (fs ++ cs) s3.σ with
            | some (_, σ4) => (resA P ⟨σ4, s3.ρ⟩ i.fn.results.toList).map fun vs => (oneRes vs, σ4)
            | none => none
          else none
        | none => none
      | _ => none
    | none => none
  | _ => none
noncomputable def runA (P : Program) (call callD : CallF) (draw : DrawX) (i : FnI) (c : Code) (args : List AV) (σ : Heap) : Option (AV × Heap) :=
  match shapeD c with
  | some sh => runD P call callD draw i sh args σ
  | none => endA P i (codeA P i.heapy call (draw i.heapy call i.fn.ntmps) i.fn.ntmps i.rounds i.keep c ⟨σ, initE 0 args⟩)

noncomputable def snapDepth : Nat := 60

noncomputable def modeA (run : List AV → Heap → Option (AV × Heap)) (mode : Nat) (args : List AV) (σ : Heap) : Option (AV × Heap) :=
  match mode with
  | 0 => run args σ
  | 1 => if args.all pureA then
      match run args [] with
      | some (r, σ') => (snapR σ' snapDepth r).map (·, σ)
      | none => none
    else none
  | _ => match mapO (snapV σ snapDepth) args with
    | some as => match run as [] with
      | some (r, _) => if scalA r then some (r, σ) else none
      | none => none
    | none => none

/-- The first place of a byte in a text. -/
noncomputable def firstA (c : UInt8) : List UInt8 → Nat → Int
  | [], _ => -1
  | b :: r, i => if b == c then (i : Int) else firstA c r (i + 1)
/-- A function without a text of its own: the first place of a byte. -/
noncomputable def extA : List AV → Option AV
  | [.str s, .int .u8 c] => some (.int .i64 (firstA c.toNat.toUInt8 s.data.toList 0))
  | _ => none
/-- A call that is deferred: of a function that defers nothing itself. -/
noncomputable def onlyD (fns : FuncId → Option FnI) (call : CallF) : CallF := fun f args σ =>
  match fns f with
  | some i => match i.fn.body with
    | some c => if (shapeD c).isNone then call f args σ else none
    | none => none
  | none => none
noncomputable def callA (P : Program) (fns : FuncId → Option FnI) (draw : DrawX) : Nat → CallF
  | 0, _, _, _ => none
  | m + 1, f, args, σ =>
    match fns f with
    | none => none
    | some i => match i.fn.body with
      | none => if Nat.beq i.mode 7 then (extA args).map (·, σ) else none
      | some c => modeA (fun as σ => if as.length ≤ i.fn.ntmps then runA P (callA P fns draw m) (onlyD fns (callA P fns draw m)) draw i c as σ else none) i.mode args σ

/-- The table says what the program says. -/
noncomputable def Tab (P : Program) (fns : FuncId → Option FnI) : Prop := ∀ f i, fns f = some i → (P.funcs[f]? = some i.fn ∧ (i.fn.name == "runtime.NumGoroutine") = false) ∧
  (Nat.beq i.mode 7 = false ∨ (i.fn.body.isNone = true ∧ Extern.findNext i.fn = none ∧ Extern.find i.fn = some Extern.BytealgIndexByte.indexByte))

section
variable {P : Program}

theorem initE_get : ∀ {args : List AV} {i t : Nat} {v : AV}, (initE i args).get t = some v → ∃ j, t = i + j ∧ args[j]? = some v
  | [], i, t, v, h => by simp [initE, Env.get_nil, Env.get_cons] at h
  | x :: r, i, t, v, h => by
    simp only [initE, Env.get_nil, Env.get_cons] at h
    split at h
    · rename_i he
      have : i = t := by simpa using he
      injection h with h; subst h
      exact ⟨0, by omega, rfl⟩
    · obtain ⟨j, h1, h2⟩ := initE_get h
      exact ⟨j + 1, by omega, by simpa using h2⟩

theorem init_ok {k : Kn V} {args : List AV} {us : Array Value} (h : VRels k args us.toList) {n : Nat} (hn : args.length ≤ n) : EnvR k n [] (initE 0 args) { tmps := us ++ Array.replicate (n - us.size) undef, defers := [] } := by
  have hl : args.length = us.size := by simpa using h.1
  refine ⟨by simp; omega, fun t v hv => ?_, rfl⟩
  obtain ⟨j, rfl, hj⟩ := initE_get hv
  have hjl := (List.getElem?_eq_some_iff.1 hj).1
  have hu : us[j]? = some (us[j]'(by omega)) := by simp [show j < us.size by omega]
  refine ⟨_, ?_, h.2 j v _ hj (by rw [Array.getElem?_toList]; exact hu)⟩
  rw [Nat.zero_add, Array.getElem?_append_left (by omega)]
  exact hu

noncomputable def resG (a : Act) : ResultVar → Sem Value
  | .tmp t => pure (a.tmps.getD t undef)
  | .cell b t => do loadVar t (← asAddr (a.tmps.getD b undef))
theorem EnvR.withD {k : Kn V} {n : Nat} {D : List Deferred} {ρ : Env} {a : Act} (h : EnvR k n D ρ a) : EnvR k n a.defers ρ a := ⟨h.size, h.get, rfl⟩
theorem res_ok {n : Nat} {D : List Deferred} {s : St} {a : Act} {k : Kn V} {w : World} (hR : Rel k s.σ w) (hE : EnvR k n D s.ρ a) : ∀ {rs : List ResultVar} {vs : List AV}, resA P s rs = some vs →
    ∃ us, (rs.mapM (resG a)).run P w = .ok us w ∧ VRels k vs us
  | [], vs, h => by
    simp only [resA] at h; injection h with h; subst h
    exact ⟨[], by simp, ⟨rfl, fun j v u hv => by simp at hv⟩⟩
  | .tmp t :: r, vs, h => by
    simp only [resA] at h
    split at h
    · rename_i v vs' hv hvs
      injection h with h; subst h
      obtain ⟨us, h1, h2⟩ := res_ok hR hE hvs
      obtain ⟨u, hu, hr⟩ := hE.get t v hv
      have hg : a.tmps.getD t undef = u := by simp only [Array.getD_eq_getD_getElem?, hu, Option.getD_some]
      refine ⟨u :: us, by simp only [List.mapM_cons, resG, Sem.run_bind, Sem.run_pure, Result.andThen_ok, hg, h1], ⟨by simp [h2.1], fun j x y hx hy => ?_⟩⟩
      cases j with
      | zero => simp at hx hy; subst hx; subst hy; exact hr
      | succ j => simp at hx hy; exact h2.2 j x y hx hy
    · cases h
  | .cell b t :: r, vs, h => by
    simp only [resA] at h
    split at h
    · rename_i v vs' hv hvs
      injection h with h; subst h
      obtain ⟨x, hx, hl⟩ := Option.bind_eq_some_iff.1 hv
      obtain ⟨u, hu, hr⟩ := hE.get b x hx
      have hg : a.tmps.getD b undef = u := by simp only [Array.getD_eq_getD_getElem?, hu, Option.getD_some]
      obtain ⟨y, h1, h2⟩ := load_same (P := P) hR hr hl
      obtain ⟨us, h4, h5⟩ := res_ok hR hE hvs
      have hptr : ∃ ad, u = .pointer (some ad) := by
        unfold loadA at hl
        cases hc : cellsAt s.σ x with
        | none => rw [hc] at hl; simp at hl
        | some cs => obtain ⟨b', o, hb, _⟩ := cellsAt_spec hR hr hc; exact ⟨_, hb⟩
      obtain ⟨ad, rfl⟩ := hptr
      have hload : (loadVar t ad).run P w = .ok y w := by simpa [Instr.loadAt, Instr.sureAddr] using h1
      refine ⟨y :: us, by simp only [List.mapM_cons, resG, Sem.run_bind, Sem.run_pure, Result.andThen_ok, hg, asAddr, hload, h4], ⟨by simp [h5.1], fun j p q hp hq => ?_⟩⟩
      cases j with
      | zero => simp at hp hq; subst hp; subst hq; exact h2
      | succ j => simp at hp hq; exact h5.2 j p q hp hq
    · cases h

theorem results_ok {n : Nat} {D : List Deferred} {s : St} {a : Act} {fn : Func} {vs : List AV} {k : Kn V} {w : World} (hR : Rel k s.σ w) (hE : EnvR k n D s.ρ a) (h : resA P s fn.results.toList = some vs) :
    ∃ u, (results fn a.tmps).run P w = .ok u w ∧ VRel k (oneRes vs) u := by
  obtain ⟨us, h1, h2⟩ := res_ok hR hE h
  have hm : (results fn a.tmps) = (do let us ← fn.results.toList.mapM (resG a); pure (if h : us.toArray.size = 1 then us.toArray[0] else .tuple us.toArray)) := by
    unfold results
    rw [Array.mapM_eq_mapM_toList]
    simp only [map_eq_pure_bind, bind_assoc, pure_bind]
    congr 1
  refine ⟨_, by rw [hm]; simp only [Sem.run_bind, h1, Result.andThen_ok, Sem.run_pure]; rfl, ?_⟩
  rcases vs with _ | ⟨v, _ | ⟨v2, vs⟩⟩
  · have : us = [] := List.eq_nil_of_length_eq_zero h2.1.symm
    subst this
    exact .tup [] #[] rfl fun j v u hv => by simp at hv
  · have hl := h2.1
    rcases us with _ | ⟨u, _ | ⟨u2, us⟩⟩
    · simp at hl
    · exact h2.2 0 v u rfl rfl
    · simp at hl
  · have hl : us.toArray.size ≠ 1 := by have := h2.1; simp at this ⊢; omega
    rw [dif_neg hl]
    exact .tup _ _ (by simpa using h2.1) fun j x y hx hy => h2.2 j x y hx (by simpa using hy)

/-- How a call comes out. -/
noncomputable def Post (k : Kn V) (σ : Heap) (w : World) (r : AV × Heap) (e : Ending) (w' : World) : Prop := ∃ k' u, e = .returned u ∧ VRel k' r.1 u ∧ Step k σ w k' r.2 w'
/-- A function that is called when another one is left. -/
noncomputable def CallDOK (V : Nm → Prop) (P : Program) (f : FuncId) (args : List AV) (σ : Heap) (r : AV × Heap) : Prop :=
  (∃ fn, P.funcs[f]? = some fn ∧ (fn.name == "runtime.NumGoroutine") = false ∧ fn.body.isSome = true) ∧
  ∀ (k : Kn V) w us, Rel k σ w → VRels k args us.toList → ∀ u, CallsD P f us u w fun e u' w' => u' = u ∧ Post k σ w r e w'

theorem plain_ok {call : CallF} {draw : DrawX} (hc : ∀ f args σ r, call f args σ = some r → CallOK V P f args σ r) (hd : ∀ heapy n, DrawOK V P (draw heapy call n) n) {i : FnI} {c : Code}
    {args : List AV} {σ : Heap} {r : AV × Heap} (hn : args.length ≤ i.fn.ntmps) (h : endA P i (codeA P i.heapy call (draw i.heapy call i.fn.ntmps) i.fn.ntmps i.rounds i.keep c ⟨σ, initE 0 args⟩) = some r) {k : Kn V} {w : World} {us : Array Value} (hR : Rel k σ w) (hv : VRels k args us.toList) :
    c.wp P (bodyPost P i.fn (Post k σ w r)) { tmps := us ++ Array.replicate (i.fn.ntmps - us.size) undef, defers := [] } w := by
  unfold endA at h
  split at h
  · rename_i x s hs
    split at h
    · rename_i hx
      obtain ⟨vs, hvs, rfl⟩ := Option.map_eq_some_iff.1 h
      refine code_ok hc (hd _ _) hs hR (init_ok hv hn) fun k1 a1 w1 h1 he1 => ?_
      obtain ⟨u, h2, h3⟩ := results_ok (fn := i.fn) h1.rel he1 hvs
      cases x with
      | nrm => exact ⟨he1.defers, u, h2, k1, u, rfl, h3, h1⟩
      | ret => exact ⟨he1.defers, u, h2, k1, u, rfl, h3, h1⟩
      | ext id => cases hx
    · cases h
  · cases h

/-- A list of operations of which the last one defers. -/
theorem opsD_ok {heapy : Bool} {call : CallF} (hc : ∀ f args σ r, call f args σ = some r → CallOK V P f args σ r) {n : Nat} {D : List Deferred} {all : Array Oper} : ∀ {ops l : List Oper} {t : Tmp} {s s' : St} {g : FuncId} {fs cs : List AV} {k : Kn V} {w : World} {a : Act}, splitD ops = some (l, t) → opsA P heapy call n all l s = some s' → s'.ρ.get t = some (.fn g fs cs) →
    Rel k s.σ w → EnvR k n D s.ρ a → ∀ {Q : Exit → Act → World → Prop}, (∀ k' a' w' us vs, Step k s.σ w k' s'.σ w' → VRels k' fs us.toList → VRels k' cs vs.toList → EnvR k' n ({ target := .fn (.func g) vs, args := us } :: D) s'.ρ a' → Q .normal a' w') → wpList P all Q ops a w
  | [], l, t, s, s', g, fs, cs, k, w, a, h, _, _, _, _, Q, _ => by simp [splitD] at h
  | [o], l, t, s, s', g, fs, cs, k, w, a, h, hops, hg, hR, hE, Q, hQ => by
    simp only [splitD] at h
    split at h
    · rename_i c hop hgd hdst
      split at h
      · rename_i t' hcal hargs
        injection h with h; injection h with h1 h2; subst h1; subst h2
        simp only [opsA_nil, opsA_cons] at hops
        injection hops with hops; subst hops
        obtain ⟨u, hu, hr⟩ := hE.get _ _ hg
        have hev : a.eval (.tmp t') = u := by simp [Act.eval, hu]
        cases hr with
        | fn _ _ _ us vs l1 r1 l2 r2 =>
        have hca : c.args = #[] := Array.toList_eq_nil_iff.1 hargs
        unfold wpList
        have hwant : Region.wanted o (yielded all a.tmps) = true := by unfold Region.wanted; rw [hgd]
        rw [if_pos hwant]
        refine .inl ?_
        unfold Oper.wp
        simp only [execOp, hop, resolve, hcal, hev, Deferred.ofValue, hca, Sem.run_bind, Sem.run_pure, Result.andThen_ok, Oper.upon_defer, hdst]
        unfold wpList
        refine hQ k _ w us vs (Step.refl hR) ⟨by simpa using l1, fun j v u hv hu => r1 j v u hv (by simpa using hu)⟩ ⟨by simpa using l2, fun j v u hv hu => r2 j v u hv (by simpa using hu)⟩ ⟨hE.size, hE.get, ?_⟩
        simp [Act.put, hE.defers]
      · cases h
    · cases h
  | o :: o2 :: r, l, t, s, s', g, fs, cs, k, w, a, h, hops, hg, hR, hE, Q, hQ => by
    rw [splitD] at h
    split at h
    · rename_i l' t' hl'
      injection h with h; injection h with h1 h2; subst h1; subst h2
      simp only [opsA_nil, opsA_cons] at hops
      split at hops
      · rename_i hd
        split at hops
        · rename_i hw
          split at hops
          · rename_i v σ' hop
            rw [wpList, if_pos (wanted_ok hE hw)]
            refine .inl (op_ok hc hR hE hop fun k' u w' hv hst => ?_)
            exact opsD_ok hc hl' hops hg hst.rel ((hE.mono hst.le).put hd hv) fun k2 a2 w2 us vs h2 h3 h4 he2 => hQ k2 a2 w2 us vs (hst.trans h2) h3 h4 he2
          · cases hops
        · rename_i hw
          rw [wpList, if_neg (by rw [wanted_ok hE hw]; simp)]
          exact opsD_ok hc hl' hops hg hR (hE.put hd .und) hQ
        · cases hops
      · cases hops
    · cases h

theorem defer_ok {call callD : CallF} {draw : DrawX} (hc : ∀ f args σ r, call f args σ = some r → CallOK V P f args σ r) (hcD : ∀ f args σ r, callD f args σ = some r → CallDOK V P f args σ r) (hd : ∀ heapy n, DrawOK V P (draw heapy call n) n) {i : FnI} {c : Code} {sh : Code × Array Oper × List Oper × Tmp × Code} (hsh : shapeD c = some sh) {f : FuncId} (hf : P.funcs[f]? = some i.fn) (hb : i.fn.body = some c)
    {args : List AV} {σ : Heap} {r : AV × Heap} (hn : args.length ≤ i.fn.ntmps) (h : runD P call callD draw i sh args σ = some r) {k : Kn V} {w : World} {us : Array Value} (hR : Rel k σ w) (hv : VRels k args us.toList) : Calls P f us w (Post k σ w r) := by
  refine calls_of_wp_defers hf hb ?_
  unfold shapeD at hsh
  split at hsh
  · rename_i c1 id ops c2
    split at hsh
    · rename_i l t hl
      injection hsh with hsh; subst hsh
      unfold runD at h
      simp only at h
      split at h
      · rename_i s1 hs1
        split at h
        · rename_i s2 hs2
          split at h
          · rename_i g fs cs hg
            split at h
            · rename_i x s3 hs3
              split at h
              · rename_i hx
                split at h
                · rename_i v4 σ4 h4
                  obtain ⟨vs, hvs, rfl⟩ := Option.map_eq_some_iff.1 h
                  refine wp_seq (code_ok hc (hd _ _) hs1 hR (init_ok hv hn) fun k1 a1 w1 st1 he1 => wp_seq (wp_region_list (opsD_ok hc hl hs2 hg st1.rel he1 fun k2 a2 w2 ua ub st2 r1 r2 he2 => ?_)))
                  refine code_ok hc (hd _ _) hs3 st2.rel (he2.prune i.keep) fun k3 a3 w3 st3 he3 => ?_
                  have leave : Leaves P i.fn a3.tmps (Post k σ w (oneRes vs, σ4)) a3.defers .returning w3 := by
                    rw [he3.defers]
                    obtain ⟨⟨fn, hfn, hname, hbody⟩, hcall⟩ := hcD _ _ _ _ h4
                    have hbn : fn.body.isNone = false := by cases hb : fn.body <;> simp_all
                    refine leaves_cons (f := g) (args := ua ++ ub) (by simp) (by simp only [invoke, callFunc, Sem.run_bind, run_program, Result.andThen_ok, hfn, hname, hbn, if_false, Bool.false_eq_true, Sem.run_pure]) ?_
                    have hargs : VRels k3 (fs ++ cs) (ua ++ ub).toList := by
                      rw [Array.toList_append]
                      exact VRels.append (r1.mono st3.le) (r2.mono st3.le)
                    refine CallsD.mono (hcall k3 w3 _ st3.rel hargs .returning) fun e u' w4 he => ?_
                    obtain ⟨rfl, k4, u4, rfl, _, st4⟩ := he
                    obtain ⟨u, h2, h3⟩ := results_ok (fn := i.fn) (s := ⟨σ4, s3.ρ⟩) (D := a3.defers) st4.rel ((he3.mono st4.le).withD) hvs
                    exact ⟨u, h2, k4, u, rfl, h3, (st1.trans st2).trans (st3.trans st4)⟩
                  cases x with
                  | nrm => exact leave
                  | ret => exact leave
                  | ext id => cases hx
                · cases h
              · cases h
            · cases h
          · cases h
        · cases h
      · cases h
    · cases hsh
  · cases hsh

theorem run_ok {call callD : CallF} {draw : DrawX} (hc : ∀ f args σ r, call f args σ = some r → CallOK V P f args σ r) (hcD : ∀ f args σ r, callD f args σ = some r → CallDOK V P f args σ r) (hd : ∀ heapy n, DrawOK V P (draw heapy call n) n) {i : FnI} {c : Code} {f : FuncId} (hf : P.funcs[f]? = some i.fn) (hb : i.fn.body = some c)
    {args : List AV} {σ : Heap} {r : AV × Heap} (hn : args.length ≤ i.fn.ntmps) (h : runA P call callD draw i c args σ = some r) {k : Kn V} {w : World} {us : Array Value} (hR : Rel k σ w) (hv : VRels k args us.toList) : Calls P f us w (Post k σ w r) := by
  unfold runA at h
  split at h
  · rename_i sh hsh
    exact defer_ok hc hcD hd hsh hf hb hn h hR hv
  · exact calls_of_wp hf hb (plain_ok hc hd hn h hR hv)
theorem runD_ok {call callD : CallF} {draw : DrawX} (hc : ∀ f args σ r, call f args σ = some r → CallOK V P f args σ r) (hd : ∀ heapy n, DrawOK V P (draw heapy call n) n) {i : FnI} {c : Code} {f : FuncId} (hf : P.funcs[f]? = some i.fn) (hb : i.fn.body = some c) (hsh : shapeD c = none)
    {args : List AV} {σ : Heap} {r : AV × Heap} (hn : args.length ≤ i.fn.ntmps) (h : runA P call callD draw i c args σ = some r) {k : Kn V} {w : World} {us : Array Value} (hR : Rel k σ w) (hv : VRels k args us.toList) (u : FrameMode) : CallsD P f us u w fun e u' w' => u' = u ∧ Post k σ w r e w' := by
  unfold runA at h
  rw [hsh] at h
  exact callsD_of_wp hf hb (plain_ok hc hd hn h hR hv)

/-- A run without memory of the caller's own. -/
theorem bare_ok {run : List AV → Heap → Option (AV × Heap)} {C : Array Value → World → (Ending → World → Prop) → Prop} (hmono : ∀ us w R R', C us w R → (∀ e w', R e w' → R' e w') → C us w R') (hrun : ∀ args σ r, run args σ = some r → ∀ (k : Kn V) w us, Rel k σ w → VRels k args us.toList → C us w (Post k σ w r))
    {mode : Nat} {args : List AV} {σ : Heap} {r : AV × Heap} (h : modeA run mode args σ = some r) {k : Kn V} {w : World} {us : Array Value} (hR : Rel k σ w) (hv : VRels k args us.toList) : C us w (Post k σ w r) := by
  have bareR : ∀ H : Nat → Option Obj, (∀ b o, H b = some o → w.heap[b]? = some o) → Rel (k.bare H) [] w := fun H hH =>
    ⟨fun id ty sz es live next hb => (by simp at hb), fun id id' ep ep' l l' hm => (by cases hm), hH, fun id ep l hm => (by cases hm), fun id ty sz es live next hb => (by simp at hb), fun id es hb => (by simp at hb)⟩
  -- what the caller has, behind a call that turned nothing old
  have back : ∀ {H : Nat → Option Obj} {k' : Kn V} {σ' : Heap} {w' : World}, Step (k.bare H) [] w k' σ' w' → ∀ b, b < w.heap.size → w'.heap[b]? = w.heap[b]? := fun hst b hb => hst.fr.block b hb fun ⟨id, ep, l, hm, _⟩ => by cases hm
  unfold modeA at h
  split at h
  · exact hrun _ _ _ h k w us hR hv
  · split at h
    · rename_i hall
      split at h
      · rename_i r' σ' hr'
        obtain ⟨r2, hr2, rfl⟩ := Option.map_eq_some_iff.1 h
        have hv' : VRels (k.bare k.H) args us.toList := ⟨hv.1, fun j v u hj hu => pureA_rel (fun _ _ h => h) (List.all_eq_true.1 hall v (List.mem_of_getElem? hj)) (hv.2 j v u hj hu)⟩
        refine hmono _ _ _ _ (hrun _ _ _ hr' _ w us (bareR k.H hR.H) hv') fun e w' he => ?_
        obtain ⟨k', u, rfl, hru, hst⟩ := he
        have hold := back hst
        have hlt : ∀ b o, k.H b = some o → b < w.heap.size := fun b o h => (Array.getElem?_eq_some_iff.1 (hR.H b o h)).1
        let H2 : Nat → Option Obj := fun b => if b < w.heap.size then k.H b else w'.heap[b]?
        have hH2 : ∀ b o, k'.H b = some o → H2 b = some o := by
          intro b o hb
          rcases hst.fr.newH b o hb with h1 | h1 | ⟨id, ep, l, h1, _⟩
          · show (if b < w.heap.size then k.H b else w'.heap[b]?) = some o
            rw [if_pos (hlt b o h1)]; exact h1
          · show (if b < w.heap.size then k.H b else w'.heap[b]?) = some o
            rw [if_neg (by omega)]; exact hst.rel.H b o hb
          · cases h1
        have hμ2 : ∀ id ep l, k'.μ id ep = some l → H2 l.cb = w'.heap[l.cb]? := by
          intro id ep l hm
          rcases hst.fr.newμ id ep l hm with h1 | h1 | ⟨_, _, _, h1, _⟩
          · cases h1
          · show (if l.cb < w.heap.size then k.H l.cb else w'.heap[l.cb]?) = _
            rw [if_neg (by omega)]
          · cases h1
        have hle : k.Le ⟨H2, k.μ, k.val, k.hv⟩ := ⟨fun b o h => by show (if b < w.heap.size then k.H b else w'.heap[b]?) = some o; rw [if_pos (hlt b o h)]; exact h, fun _ _ _ h => h, rfl⟩
        refine ⟨⟨H2, k.μ, k.val, k.hv⟩, u, rfl, snapR_rel hst.rel hH2 hμ2 hr2 hru, hR, hle, ⟨fun id ty sz es live next hb => ?_, hR.sep, fun b o h => ?_, fun id ep l hm => ?_, hR.nodup, fun id es hb => let ⟨l, ents, ck, m1, m2, m3, m4⟩ := hR.mp id es hb; ⟨l, ents, ck, m1, (by show (if l.cb < w.heap.size then k.H l.cb else w'.heap[l.cb]?) = none; rw [if_pos (hR.lt m1)]; exact m2), (by rw [hold _ (hR.lt m1)]; exact m3), m4.mono hle⟩⟩, ⟨hst.fr.os, hst.fr.tape, hst.fr.output, hst.fr.size, fun b hb _ => hold b hb, fun b o h => ?_, fun id ep l h => .inl h, fun _ _ h => h, Nat.le_refl _, fun _ _ _ _ => rfl⟩⟩
        · have rr := hR.row id ty sz es live next hb
          refine ⟨rr.pos, rr.eps, rr.len, fun ep ext hl => ?_⟩
          obtain ⟨l, c, fz, hm, h1, h2, h3, h4, h5, h6, h7, h8⟩ := rr.loc ep ext hl
          refine ⟨l, c, fz, hm, h1, h2, ?_, by rw [hold _ (hR.lt hm)]; exact h4, h5, h6, h7, fun p e j v hp1 hp2 he hv => ?_⟩
          · show (if l.cb < w.heap.size then k.H l.cb else w'.heap[l.cb]?) = none
            rw [if_pos (hR.lt hm)]; exact h3
          · obtain ⟨u, hu, hr⟩ := h8 p e j v hp1 hp2 he hv
            exact ⟨u, hu, hr.mono hle⟩
        · have h' : (if b < w.heap.size then k.H b else w'.heap[b]?) = some o := h
          split at h'
          · rename_i hb; rw [hold b hb]; exact hR.H b o h'
          · exact h'
        · obtain ⟨h1, h2⟩ := hR.fresh id ep l hm
          exact ⟨Nat.lt_of_lt_of_le h1 hst.fr.size, h2⟩
        · have h' : (if b < w.heap.size then k.H b else w'.heap[b]?) = some o := h
          split at h'
          · exact .inl h'
          · exact .inr (.inl (by omega))
      · cases h
    · cases h
  · split at h
    · rename_i as has
      split at h
      · rename_i r' σ' hr'
        split at h
        · rename_i hsc
          injection h with h; subst h
          have hv' : VRels (k.bare fun b => w.heap[b]?) as us.toList := mapO_rels (fun v r u hf hv => snapV_rel (μ := fun _ _ => none) hR hR.H (fun _ _ _ _ => rfl) hf hv) has hv
          refine hmono _ _ _ _ (hrun _ _ _ hr' _ w us (bareR _ fun _ _ h => h) hv') fun e w' he => ?_
          obtain ⟨k', u, rfl, hru, hst⟩ := he
          have hold := back hst
          refine ⟨k, u, rfl, scalA_rel hsc hru, hR, .refl k, ⟨fun id ty sz es live next hb => ?_, hR.sep, fun b o h => ?_, fun id ep l hm => ?_, hR.nodup, fun id es hb => let ⟨l, ents, ck, m1, m2, m3, m4⟩ := hR.mp id es hb; ⟨l, ents, ck, m1, m2, (by rw [hold _ (hR.lt m1)]; exact m3), m4⟩⟩, ⟨hst.fr.os, hst.fr.tape, hst.fr.output, hst.fr.size, fun b hb _ => hold b hb, fun b o h => .inl h, fun id ep l h => .inl h, fun _ _ h => h, Nat.le_refl _, fun _ _ _ _ => rfl⟩⟩
          · have rr := hR.row id ty sz es live next hb
            refine ⟨rr.pos, rr.eps, rr.len, fun ep ext hl => ?_⟩
            obtain ⟨l, c, fz, hm, h1, h2, h3, h4, h5, h6, h7, h8⟩ := rr.loc ep ext hl
            exact ⟨l, c, fz, hm, h1, h2, h3, by rw [hold _ (hR.lt hm)]; exact h4, h5, h6, h7, h8⟩
          · have := hR.H b o h
            rw [hold b (Array.getElem?_eq_some_iff.1 this).1]; exact this
          · obtain ⟨h1, h2⟩ := hR.fresh id ep l hm
            exact ⟨Nat.lt_of_lt_of_le h1 hst.fr.size, h2⟩
        · cases h
      · cases h
    · cases h

theorem firstA_eq (s : ByteArray) (c : UInt8) : firstA c s.data.toList 0 = firstIdx s c := by
  have key : ∀ (l : List UInt8) (i : Nat), firstA c l i = match (List.range l.length).find? (fun j => l[j]! == c) with | some j => ((i + j : Nat) : Int) | none => -1 := by
    intro l
    induction l with
    | nil => intro i; rfl
    | cons b r ih =>
      intro i
      simp only [firstA, List.length_cons, List.range_succ_eq_map, List.find?_cons, List.find?_map]
      by_cases hb : b == c
      · simp [hb]
      · rw [if_neg hb, ih (i + 1)]
        simp only [List.getElem!_cons_zero, hb]
        have : ((fun j => (b :: r)[j]! == c) ∘ Nat.succ) = fun j => r[j]! == c := by funext j; simp
        rw [this]
        cases (List.range r.length).find? fun j => r[j]! == c with
        | none => rfl
        | some j => simp only [Option.map_some]; congr 1; omega
  rw [key]
  unfold firstIdx
  have hl : s.data.toList.length = s.size := by
    rw [Array.length_toList]; rfl
  rw [hl]
  have hg : ∀ j, j < s.size → s.data.toList[j]! = s[j]! := by
    intro j hj
    have h1 : j < s.data.toList.length := by rw [hl]; exact hj
    rw [getElem!_pos s.data.toList j h1, getElem!_pos s j hj]
    rfl
  have hf : (List.range s.size).find? (fun j => s.data.toList[j]! == c) = (List.range s.size).find? (fun i => s[i]! == c) := by
    have : ∀ l : List Nat, (∀ x ∈ l, x < s.size) → l.find? (fun j => s.data.toList[j]! == c) = l.find? (fun i => s[i]! == c) := by
      intro l
      induction l with
      | nil => intro _; rfl
      | cons x r ih =>
        intro hx
        rw [List.find?_cons, List.find?_cons, hg x (hx x List.mem_cons_self), ih fun y hy => hx y (List.mem_cons_of_mem _ hy)]
    exact this _ fun x hx => List.mem_range.1 hx
  rw [hf]
  cases (List.range s.size).find? fun i => s[i]! == c with
  | none => rfl
  | some j => simp
theorem ext_ok {f : FuncId} {fn : Func} (hf : P.funcs[f]? = some fn) (hname : (fn.name == "runtime.NumGoroutine") = false) (x1 : fn.body.isNone = true) (x2 : Extern.findNext fn = none) (x3 : Extern.find fn = some Extern.BytealgIndexByte.indexByte)
    {args : List AV} {v : AV} (h : extA args = some v) {k : Kn V} {w : World} {us : Array Value} (hu : VRels k args us.toList) : ∃ u, (callFunc f us).run P w = .ok (.value u) w ∧ VRel k v u := by
  unfold extA at h
  split at h
  · rename_i s c
    injection h with h; subst h
    rcases us with ⟨l⟩
    have hl := hu.1
    rcases l with _ | ⟨a, _ | ⟨b, _ | _⟩⟩ <;> simp at hl
    have ha := hu.2 0 _ a rfl rfl
    have hb := hu.2 1 _ b rfl rfl
    cases ha; cases hb
    refine ⟨.int .i64 (firstIdx s c.toNat.toUInt8), ?_, by rw [firstA_eq]; exact .int _ _⟩
    rw [run_callFunc_extern hf hname x1 x2 x3, run_indexByte_string]
    rfl
  · cases h

theorem call_ok {fns : FuncId → Option FnI} (ht : Tab P fns) {draw : DrawX} (hd : ∀ heapy m n, (∀ f args σ r, callA P fns draw m f args σ = some r → CallOK V P f args σ r) → DrawOK V P (draw heapy (callA P fns draw m) n) n) :
    ∀ (m : Nat), (∀ f args σ r, callA P fns draw m f args σ = some r → CallOK V P f args σ r) ∧ ∀ f args σ r, onlyD fns (callA P fns draw m) f args σ = some r → CallDOK V P f args σ r
  | 0 => by
    refine ⟨fun f args σ r h => by simp [callA] at h, fun f args σ r h => ?_⟩
    unfold onlyD at h
    split at h
    · split at h
      · split at h
        · simp [callA] at h
        · cases h
      · cases h
    · cases h
  | m + 1 => by
    have ih := call_ok ht hd m
    refine ⟨fun f args σ r h => ?_, fun f args σ r h => ?_⟩
    · simp only [callA] at h
      split at h
      · cases h
      · rename_i i hi
        split at h
        · split at h
          · rename_i hm
            obtain ⟨⟨hf, hname⟩, hx⟩ := ht f i hi
            rcases hx with hx | ⟨x1, x2, x3⟩
            · rw [hx] at hm; cases hm
            · obtain ⟨v, hv, rfl⟩ := Option.map_eq_some_iff.1 h
              exact .inr ⟨rfl, fun k w us hu => ext_ok hf hname x1 x2 x3 hv hu⟩
          · cases h
        · rename_i c hb
          obtain ⟨⟨hf, hname⟩, _⟩ := ht f i hi
          refine .inl ⟨⟨i.fn, hf, hname, by rw [hb]; rfl⟩, fun k w us hR hv => ?_⟩
          refine bare_ok (C := fun us w R => Calls P f us w R) (fun us w R R' hC hR => Calls.mono hC hR) (fun args σ r hr k w us hR hv => ?_) h hR hv
          split at hr
          · rename_i hn'
            exact run_ok ih.1 ih.2 (fun heapy n => hd heapy _ n ih.1) hf hb hn' hr hR hv
          · cases hr
    · unfold onlyD at h
      split at h
      · rename_i i hi
        split at h
        · rename_i c hb
          split at h
          · rename_i hsh
            have hsh : shapeD c = none := Option.isNone_iff_eq_none.1 hsh
            obtain ⟨⟨hf, hname⟩, _⟩ := ht f i hi
            refine ⟨⟨i.fn, hf, hname, by rw [hb]; rfl⟩, fun k w us hR hv u => ?_⟩
            simp only [callA, hi, hb] at h
            refine bare_ok (C := fun us w R => CallsD P f us u w fun e u' w' => u' = u ∧ R e w') (fun us w R R' hC hR => CallsD.mono hC fun e u' w' h => ⟨h.1, hR e w' h.2⟩) (fun args σ r hr k w us hR hv => ?_) h hR hv
            split at hr
            · rename_i hn'
              exact runD_ok ih.1 (fun heapy n => hd heapy _ n ih.1) hf hb hsh hn' hr hR hv u
            · cases hr
          · cases h
        · cases h
      · cases h
end
end Go.Dx
