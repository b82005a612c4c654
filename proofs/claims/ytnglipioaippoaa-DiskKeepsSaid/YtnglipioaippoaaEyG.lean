/- Regions that draw their order: reckoned once, in the order of the text; what the reckoning has seen to. -/
import Derived.Test.YtnglipioaippoaaEyF
import Derived.Orders
namespace Go.Dx
variable {V : Nm → Prop}

/-! ### What comes ahead of an operation -/
noncomputable def ancE (ms : List Nat) : List Edge → Option Nat
  | [] => some 0
  | e :: r => match ancE ms r with
    | some a => if Region.binds .any e then match ms[e.on]? with
        | some b => some (2 ^ e.on ||| b ||| a)
        | none => none
      else some a
    | none => none
noncomputable def masksA : List Oper → List Nat → Option (List Nat)
  | [], ms => some ms
  | o :: r, ms => match ancE ms o.after.toList with
    | some a => masksA r (ms ++ [a])
    | none => none

theorem ancE_spec {ms : List Nat} : ∀ {es : List Edge} {a : Nat}, ancE ms es = some a →
    (∀ e ∈ es, Region.binds .any e = true → e.on < ms.length) ∧
    ∀ j, a.testBit j = true → ∃ e ∈ es, Region.binds .any e = true ∧ (j = e.on ∨ ∃ b, ms[e.on]? = some b ∧ b.testBit j = true)
  | [], a, h => by
    simp only [ancE] at h; injection h with h; subst h
    exact ⟨fun e he => by simp at he, fun j hj => by simp at hj⟩
  | e :: r, a, h => by
    simp only [ancE] at h
    split at h
    · rename_i a' ha'
      obtain ⟨h1, h2⟩ := ancE_spec ha'
      split at h
      · rename_i hb
        split at h
        · rename_i b hbm
          injection h with h; subst h
          have hlt : e.on < ms.length := by
            rcases Nat.lt_or_ge e.on ms.length with h | h
            · exact h
            · rw [List.getElem?_eq_none h] at hbm; cases hbm
          refine ⟨fun e' he' hb' => ?_, fun j hj => ?_⟩
          · rcases List.mem_cons.1 he' with rfl | he'
            · exact hlt
            · exact h1 e' he' hb'
          · simp only [Nat.testBit_or, Bool.or_eq_true, Nat.testBit_two_pow, decide_eq_true_eq] at hj
            rcases hj with (hj | hj) | hj
            · exact ⟨e, List.mem_cons_self, hb, .inl hj.symm⟩
            · exact ⟨e, List.mem_cons_self, hb, .inr ⟨b, hbm, hj⟩⟩
            · obtain ⟨e', he', h3⟩ := h2 j hj
              exact ⟨e', List.mem_cons_of_mem _ he', h3⟩
        · cases h
      · rename_i hb
        injection h with h; subst h
        refine ⟨fun e' he' hb' => ?_, fun j hj => ?_⟩
        · rcases List.mem_cons.1 he' with rfl | he'
          · exact absurd hb' hb
          · exact h1 e' he' hb'
        · obtain ⟨e', he', h3⟩ := h2 j hj
          exact ⟨e', List.mem_cons_of_mem _ he', h3⟩
    · cases h

structure AncOK (l : List Oper) (ms : List Nat) : Prop where
  len : ms.length = l.length
  edge : ∀ (i : Nat) o e, l[i]? = some o → e ∈ o.after.toList → Region.binds .any e = true → e.on < i
  anc : ∀ (i : Nat) o a j, l[i]? = some o → ms[i]? = some a → a.testBit j = true → ∃ e ∈ o.after.toList, Region.binds .any e = true ∧ (j = e.on ∨ ∃ b, ms[e.on]? = some b ∧ b.testBit j = true)
  lt : ∀ (i : Nat) a j, ms[i]? = some a → a.testBit j = true → j < i
theorem masks_spec : ∀ {l pre : List Oper} {ms ms' : List Nat}, masksA l ms = some ms' → AncOK pre ms → AncOK (pre ++ l) ms'
  | [], pre, ms, ms', h, hA => by
    simp only [masksA] at h; injection h with h; subst h; simpa using hA
  | o :: r, pre, ms, ms', h, hA => by
    simp only [masksA] at h
    split at h
    · rename_i a ha
      obtain ⟨h1, h2⟩ := ancE_spec ha
      have := masks_spec (pre := pre ++ [o]) h ?_
      · simpa using this
      · have hl := hA.len
        have low : ∀ {i : Nat} {x : Oper}, i < pre.length → (pre ++ [o])[i]? = some x → pre[i]? = some x := fun hi hx => by rwa [List.getElem?_append_left hi] at hx
        have lowm : ∀ {i : Nat} {x : Nat}, i < pre.length → (ms ++ [a])[i]? = some x → ms[i]? = some x := fun hi hx => by rwa [List.getElem?_append_left (by omega)] at hx
        have upm : ∀ {i : Nat} {x : Nat}, ms[i]? = some x → (ms ++ [a])[i]? = some x := fun {i x} hx => by
          rw [List.getElem?_append_left]; exact hx
          rcases Nat.lt_or_ge i ms.length with h | h
          · exact h
          · rw [List.getElem?_eq_none h] at hx; cases hx
        have top : ∀ {i : Nat} {x : Oper}, ¬ i < pre.length → (pre ++ [o])[i]? = some x → i = pre.length ∧ x = o := fun {i x} hi hx => by
          rw [List.getElem?_append_right (by omega)] at hx
          rcases Nat.eq_zero_or_pos (i - pre.length) with h | h
          · rw [h] at hx; simp at hx; exact ⟨by omega, hx.symm⟩
          · rw [List.getElem?_eq_none (by simp; omega)] at hx; cases hx
        have topm : ∀ {i : Nat} {x : Nat}, ¬ i < pre.length → (ms ++ [a])[i]? = some x → i = pre.length ∧ x = a := fun {i x} hi hx => by
          rw [List.getElem?_append_right (by omega)] at hx
          rcases Nat.eq_zero_or_pos (i - ms.length) with h | h
          · rw [h] at hx; simp at hx; exact ⟨by omega, hx.symm⟩
          · rw [List.getElem?_eq_none (by simp; omega)] at hx; cases hx
        refine ⟨by simp [hl], fun i x e hx he hb => ?_, fun i x b j hx hb hj => ?_, fun i b j hb hj => ?_⟩
        · by_cases hi : i < pre.length
          · exact hA.edge i x e (low hi hx) he hb
          · obtain ⟨rfl, rfl⟩ := top hi hx
            have := h1 e he hb
            omega
        · by_cases hi : i < pre.length
          · obtain ⟨e, he, hb', h3⟩ := hA.anc i x b j (low hi hx) (lowm hi hb) hj
            refine ⟨e, he, hb', h3.imp id fun ⟨c, hc, hcj⟩ => ⟨c, upm hc, hcj⟩⟩
          · obtain ⟨rfl, rfl⟩ := top hi hx
            obtain ⟨_, rfl⟩ := topm hi hb
            obtain ⟨e, he, hb', h3⟩ := h2 j hj
            exact ⟨e, he, hb', h3.imp id fun ⟨c, hc, hcj⟩ => ⟨c, upm hc, hcj⟩⟩
        · by_cases hi : i < pre.length
          · exact hA.lt i b j (lowm hi hb) hj
          · obtain ⟨rfl, rfl⟩ := topm hi hb
            obtain ⟨e, he, hb', h3⟩ := h2 j hj
            have := h1 e he hb'
            rcases h3 with rfl | ⟨c, hc, hcj⟩
            · omega
            · have := hA.lt _ _ _ hc hcj
              omega
    · cases h

/-! ### What is drawn up -/
structure Rec where
  i : Nat
  mask : Nat
  o : Oper
  v : AV
  kind : Nat
  id : Nat
  blk : Option Blk
  ρ : Env
structure Core where
  em : Nat
  dn : Nat
  σ : Heap
structure DT where
  recs : List Rec
  mrecs : List (Nat × Nat × Blk)
  nid : Nat
  seen : Nat
  cur : Core
  old : List Core

noncomputable def fill (p : Nat → Bool) : List (Nat × Nat × Blk) → Heap → Heap
  | [], h => h
  | (j, id, b) :: r, h => if p j then (fill p r h).set id b else fill p r h
noncomputable def Core.at (c : Core) (m : List (Nat × Nat × Blk)) (p : Nat → Bool) : Heap := fill (fun j => p j && !c.dn.testBit j) m c.σ

theorem fill_skip {p : Nat → Bool} {m : List (Nat × Nat × Blk)} {h : Heap} : ∀ {mr : List (Nat × Nat × Blk)}, (∀ x ∈ mr, p x.1 = false) → fill p (mr ++ m) h = fill p m h
  | [], _ => rfl
  | (j, id, b) :: r, hp => by
    have := hp (j, id, b) List.mem_cons_self
    simp only [List.cons_append, fill]
    rw [if_neg (by simp [this]), fill_skip fun x hx => hp x (List.mem_cons_of_mem _ hx)]
theorem fill_len {p : Nat → Bool} {h : Heap} : ∀ {m : List (Nat × Nat × Blk)}, (fill p m h).length = h.length
  | [] => rfl
  | (j, id, b) :: r => by simp only [fill]; split <;> simp [fill_len]
theorem fill_no {p : Nat → Bool} {h : Heap} {id : Nat} : ∀ {m : List (Nat × Nat × Blk)}, (∀ x ∈ m, x.2.1 = id → p x.1 = false) → (fill p m h)[id]? = h[id]?
  | [], _ => rfl
  | (j, id', b) :: r, hp => by
    simp only [fill]
    have ih := fill_no (p := p) (h := h) fun x hx => hp x (List.mem_cons_of_mem _ hx)
    split
    · rename_i hj
      by_cases he : id' = id
      · have := hp _ List.mem_cons_self he
        simp only at this
        rw [hj] at this; cases this
      · rw [List.getElem?_set_ne he]; exact ih
    · exact ih
theorem fill_yes {p : Nat → Bool} {h : Heap} {j id : Nat} {b : Blk} (hp : p j = true) (hid : id < h.length) : ∀ {m : List (Nat × Nat × Blk)}, (j, id, b) ∈ m → (∀ x ∈ m, x.2.1 = id → x = (j, id, b)) → (fill p m h)[id]? = some b
  | [], hm, _ => by simp at hm
  | (j', id', b') :: r, hm, hu => by
    by_cases he : id' = id
    · have := hu _ List.mem_cons_self he
      injection this with h1 h2; injection h2 with h2 h3; subst h1; subst h2; subst h3
      simp only [fill, hp, if_true]
      rw [List.getElem?_set_self]
      rw [fill_len]; exact hid
    · have hm' : (j, id, b) ∈ r := by
        rcases List.mem_cons.1 hm with h | h
        · injection h with _ h2; injection h2 with h2 _; exact absurd h2.symm he
        · exact h
      have ih := fill_yes (b := b) hp hid hm' fun x hx => hu x (List.mem_cons_of_mem _ hx)
      simp only [fill]
      split
      · rw [List.getElem?_set_ne he]; exact ih
      · exact ih

/-! ### Environments -/
noncomputable def keysA : Env → Nat
  | [] => 0
  | (t, _) :: r => 2 ^ t ||| keysA r
noncomputable def reA (km : Nat) : Nat → List Oper → List Nat → List (Nat × Nat × Nat)
  | i, o :: r, m :: ms => match o.dst with
    | some d => if km.testBit d then (d, i, m) :: reA km (i + 1) r ms else reA km (i + 1) r ms
    | none => reA km (i + 1) r ms
  | _, _, _ => []
noncomputable def recE (recs : List Rec) (p : Nat → Bool) : Env := recs.filterMap fun r => if p r.i then r.o.dst.map (·, r.v) else none
noncomputable def envD (ρ0 : Env) (re : List (Nat × Nat × Nat)) (recs : List Rec) (mask i : Nat) : Env :=
  recE recs mask.testBit ++ ρ0.filter fun x => re.all fun y => y.1 != x.1 || y.2.1 == i || y.2.2.testBit i

theorem keys_spec : ∀ {ρ : Env} {t : Nat} {v : AV}, ρ.get t = some v → (keysA ρ).testBit t = true
  | [], t, v, h => by simp [Env.get_nil, Env.get_cons] at h
  | (u, x) :: r, t, v, h => by
    simp only [Env.get_nil, Env.get_cons] at h
    simp only [keysA, Nat.testBit_or, Nat.testBit_two_pow, Bool.or_eq_true, decide_eq_true_eq]
    split at h
    · rename_i he; exact .inl (by simpa using he)
    · exact .inr (keys_spec h)
theorem re_spec {km t : Nat} (hk : km.testBit t = true) : ∀ {l : List Oper} {ms : List Nat} {i0 j : Nat} {o : Oper} {m : Nat}, l[j]? = some o → ms[j]? = some m → o.dst = some t → (t, i0 + j, m) ∈ reA km i0 l ms
  | [], ms, i0, j, o, m, h, _, _ => by simp at h
  | o' :: r, [], i0, j, o, m, _, h, _ => by simp at h
  | o' :: r, m' :: ms, i0, 0, o, m, h1, h2, h3 => by
    simp at h1 h2; subst h1; subst h2
    simp [reA, h3, hk]
  | o' :: r, m' :: ms, i0, j + 1, o, m, h1, h2, h3 => by
    have := re_spec hk (i0 := i0 + 1) (l := r) (ms := ms) (j := j) (by simpa using h1) (by simpa using h2) h3
    rw [show i0 + 1 + j = i0 + (j + 1) by omega] at this
    simp only [reA]
    split
    · split
      · exact List.mem_cons_of_mem _ this
      · exact this
    · exact this
theorem get_append : ∀ {a b : Env} {t : Nat} {v : AV}, (a ++ b : Env).get t = some v → a.get t = some v ∨ (a.get t = none ∧ b.get t = some v)
  | [], b, t, v, h => .inr ⟨rfl, h⟩
  | (u, x) :: r, b, t, v, h => by
    simp only [List.cons_append, Env.get_nil, Env.get_cons] at h ⊢
    split
    · rename_i he; rw [if_pos he] at h; exact .inl h
    · rename_i he; rw [if_neg he] at h; exact get_append h
theorem get_mem : ∀ {a : Env} {t : Nat} {v : AV}, a.get t = some v → (t, v) ∈ a
  | [], t, v, h => by simp [Env.get_nil, Env.get_cons] at h
  | (u, x) :: r, t, v, h => by
    simp only [Env.get_nil, Env.get_cons] at h
    split at h
    · rename_i he
      have : u = t := by simpa using he
      subst this; injection h with h; subst h; exact List.mem_cons_self
    · exact List.mem_cons_of_mem _ (get_mem h)
theorem get_none : ∀ {a : Env} {t : Nat}, a.get t = none → ∀ v, (t, v) ∉ a
  | [], t, h, v, hm => by simp at hm
  | (u, x) :: r, t, h, v, hm => by
    simp only [Env.get_nil, Env.get_cons] at h
    split at h
    · cases h
    · rename_i he
      rcases List.mem_cons.1 hm with h1 | h1
      · injection h1 with h1 _; subst h1; simp at he
      · exact get_none h v h1
theorem get_filter {f : Nat → Bool} : ∀ {a : Env} {t : Nat} {v : AV}, Env.get (a.filter fun x => f x.1) t = some v → a.get t = some v ∧ f t = true
  | [], t, v, h => by simp [Env.get_nil, Env.get_cons] at h
  | (u, x) :: r, t, v, h => by
    simp only [List.filter_cons] at h
    split at h
    · rename_i hf
      simp only [Env.get_nil, Env.get_cons] at h ⊢
      split at h
      · rename_i he
        have : u = t := by simpa using he
        subst this
        rw [if_pos he]; exact ⟨h, hf⟩
      · rename_i he
        rw [if_neg he]; exact get_filter h
    · rename_i hf
      obtain ⟨h1, h2⟩ := get_filter h
      refine ⟨?_, h2⟩
      simp only [Env.get_nil, Env.get_cons]
      rw [if_neg]; exact h1
      intro he
      have : u = t := by simpa using he
      subst this; exact hf h2
theorem recE_mem {recs : List Rec} {p : Nat → Bool} {t : Nat} {v : AV} (h : (t, v) ∈ recE recs p) : ∃ q ∈ recs, p q.i = true ∧ q.o.dst = some t ∧ q.v = v := by
  obtain ⟨q, hq, h⟩ := List.mem_filterMap.1 h
  split at h
  · rename_i hp
    obtain ⟨d, hd, h⟩ := Option.map_eq_some_iff.1 h
    injection h with h1 h2; subst h1; subst h2
    exact ⟨q, hq, hp, hd, rfl⟩
  · cases h
theorem mem_recE {recs : List Rec} {p : Nat → Bool} {q : Rec} {t : Nat} (h : q ∈ recs) (hp : p q.i = true) (hd : q.o.dst = some t) : (t, q.v) ∈ recE recs p :=
  List.mem_filterMap.2 ⟨q, h, by simp [hp, hd]⟩

/-! ### Operations that do not look at memory -/
noncomputable def isN : Op → Bool
  | .move _ | .assign _ | .pick _ _ _ | .build _ _ | .nilCheck _ | .binOp _ _ _ _ _ | .unOp _ _ _ | .makeFunc _ _ _ | .fieldAddr _ _ _ | .field _ _ _ | .index _ _ _ | .extract _ _ | .makeInterface _ _ => true
  | .call c => match c.callee with
    | .builtin .len | .builtin .min | .builtin .max => true
    | _ => false
  | _ => false
theorem opA_N {P : Program} {heapy : Bool} {call : CallF} {ρ : Env} {σ τ : Heap} {op : Op} {v : AV} {σ' : Heap} (hN : isN op = true) (h : opA P heapy call ρ σ op = some (v, σ')) : ∃ τ', opA P heapy call ρ τ op = some (v, τ') := by
  have mp : ∀ {x : Option AV}, x.map (·, σ) = some (v, σ') → x.map (·, τ) = some (v, τ) := by
    intro x hx
    obtain ⟨y, h1, hy⟩ := Option.map_eq_some_iff.1 hx
    injection hy with hy _; subst hy; rw [h1]; rfl
  have bd : ∀ {x : Option AV} {f : AV → Option AV}, (x.bind fun y => (f y).map (·, σ)) = some (v, σ') → (x.bind fun y => (f y).map (·, τ)) = some (v, τ) := by
    intro x f hx
    obtain ⟨y, h1, hy⟩ := Option.bind_eq_some_iff.1 hx
    rw [h1]; exact mp hy
  unfold isN at hN
  split at hN
  · exact ⟨_, mp h⟩
  · exact ⟨_, mp h⟩
  · simp only [opA] at h ⊢
    split at h
    · exact ⟨_, mp h⟩
    · exact ⟨_, mp h⟩
    · cases h
  · simp only [opA] at h ⊢
    obtain ⟨y, h1, hy⟩ := Option.bind_eq_some_iff.1 h
    rw [h1]; exact ⟨_, mp hy⟩
  · exact ⟨_, bd h⟩
  · simp only [opA] at h ⊢
    split at h
    · exact ⟨_, mp h⟩
    · cases h
  · exact ⟨_, bd h⟩
  · rename_i fn first cap
    cases fn with
    | func f =>
      simp only [opA] at h ⊢
      split at h
      · injection h with h; injection h with h1 h2; subst h1; exact ⟨_, rfl⟩
      · cases h
    | method name =>
      simp only [opA] at h ⊢
      split at h
      · injection h with h; injection h with h1 h2; subst h1; exact ⟨_, rfl⟩
      · cases h
    | _ => simp [opA] at h
  · exact ⟨_, bd h⟩
  · exact ⟨_, bd h⟩
  · simp only [opA] at h ⊢
    split at h
    · exact ⟨_, mp h⟩
    · cases h
  · exact ⟨_, bd h⟩
  · exact ⟨_, bd h⟩
  · rename_i c
    simp only [opA] at h ⊢
    split at h
    · rename_i vs hvs
      have mm : ∀ {b : Bool} {ts : List TypeId}, builtinA P σ (if b then .min else .max) ts vs = some (v, σ') → builtinA P τ (if b then .min else .max) ts vs = some (v, τ) := by
        intro b ts h
        rcases vs with _ | ⟨x, _ | ⟨y, _ | _⟩⟩ <;> cases b <;> simp only [builtinA, if_true, Bool.false_eq_true, if_false] at h ⊢ <;> first | exact mp h | cases h
      split at hN
      · rename_i hc
        simp only [hc] at h ⊢
        generalize c.argTypes.toList = ts at h ⊢
        rcases ts with _ | ⟨t, _ | _⟩ <;> rcases vs with _ | ⟨x, _ | _⟩ <;> simp only [builtinA] at h ⊢ <;> first | exact ⟨_, mp h⟩ | cases h
      · rename_i hc
        simp only [hc] at h ⊢
        exact ⟨_, mm (b := true) h⟩
      · rename_i hc
        simp only [hc] at h ⊢
        exact ⟨_, mm (b := false) h⟩
      · cases hN
    · cases h
  · cases hN
end Go.Dx
