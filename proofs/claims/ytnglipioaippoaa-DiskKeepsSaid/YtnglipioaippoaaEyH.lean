/- Regions that draw their order: the reckoning, and what stands when it is through. -/
import Derived.Test.YtnglipioaippoaaEyG
namespace Go.Dx
variable {V : Nm → Prop}

noncomputable def sameAt (P : Program) (heapy : Bool) (call : CallF) (m : List (Nat × Nat × Blk)) (c : Core) (r : Rec) : Bool :=
  match opF r.o.op P heapy call r.ρ (c.at m r.mask.testBit) with
  | some (u, _) => eqA u r.v
  | none => false

noncomputable def freshD (seen : Nat) : Option Nat → Bool
  | some d => !seen.testBit d
  | none => true
noncomputable def seeD (seen : Nat) : Option Nat → Nat
  | some d => 2 ^ d ||| seen
  | none => seen

section
variable (P : Program) (heapy : Bool) (call : CallF) (modeOf : FuncId → Nat) (n : Nat) (all : Array Oper) (ρ0 : Env) (re : List (Nat × Nat × Nat)) (top : Nat)

noncomputable def drawOp (i mask : Nat) (o : Oper) (T : DT) : Option DT :=
  if okD o.dst n && freshD T.seen o.dst then
    match wantedA all (envD ρ0 re T.recs mask i) o with
    | some false => some { T with recs := ⟨i, mask, o, .und, 0, 0, none, envD ρ0 re T.recs mask i⟩ :: T.recs, seen := seeD T.seen o.dst }
    | some true =>
      if isM o.op then
        match decide (T.nid < top), opM P heapy (envD ρ0 re T.recs mask i) T.nid o.op with
        | true, some (v, b) => some { T with recs := ⟨i, mask, o, v, 2, T.nid, b, envD ρ0 re T.recs mask i⟩ :: T.recs, mrecs := (b.toList.map fun blk => (i, T.nid, blk)) ++ T.mrecs, nid := T.nid + 1, seen := seeD T.seen o.dst }
        | _, _ => none
      else if isE modeOf (envD ρ0 re T.recs mask i) o.op then
        if mask &&& T.cur.em == T.cur.em then
          match opF o.op P heapy call (envD ρ0 re T.recs mask i) (T.cur.at T.mrecs mask.testBit) with
          | some (v, σ') =>
            if T.recs.all fun r => r.kind != 1 || mask.testBit r.i || isN r.o.op || sameAt P heapy call T.mrecs ⟨T.cur.em ||| 2 ^ i, T.cur.dn ||| mask ||| 2 ^ i, σ'⟩ r then
              some { T with recs := ⟨i, mask, o, v, 3, 0, none, envD ρ0 re T.recs mask i⟩ :: T.recs, seen := seeD T.seen o.dst, cur := ⟨T.cur.em ||| 2 ^ i, T.cur.dn ||| mask ||| 2 ^ i, σ'⟩, old := T.cur :: T.old }
            else none
          | none => none
        else none
      else
        match opF o.op P heapy call (envD ρ0 re T.recs mask i) (T.cur.at T.mrecs mask.testBit) with
        | some (v, _) =>
          if isN o.op || T.old.all fun c => mask &&& T.cur.em != mask &&& c.em || sameAt P heapy call T.mrecs c ⟨i, mask, o, v, 1, 0, none, envD ρ0 re T.recs mask i⟩ then
            some { T with recs := ⟨i, mask, o, v, 1, 0, none, envD ρ0 re T.recs mask i⟩ :: T.recs, seen := seeD T.seen o.dst }
          else none
        | none => none
    | none => none
  else none

noncomputable def drawOps : Nat → List Oper → List Nat → DT → Option DT
  | i, o :: r, m :: ms, T => match drawOp P heapy call modeOf n all ρ0 re top i m o T with
    | some T' => drawOps (i + 1) r ms T'
    | none => none
  | _, _, _, T => some T
end

/-- What the reckoning has seen to, of the operations ahead of 'i'. -/
structure DT.Good (P : Program) (heapy : Bool) (call : CallF) (modeOf : FuncId → Nat) (n : Nat) (all : Array Oper) (ms : List Nat) (ρ0 : Env) (base top : Nat) (i : Nat) (T : DT) : Prop where
  lt : ∀ r ∈ T.recs, r.i < i
  has : ∀ j, j < i → ∃ r ∈ T.recs, r.i = j
  uniq : ∀ r ∈ T.recs, ∀ q ∈ T.recs, r.i = q.i → r = q
  op : ∀ r ∈ T.recs, all[r.i]? = some r.o ∧ ms[r.i]? = some r.mask ∧ okD r.o.dst n = true
  dst : ∀ r ∈ T.recs, ∀ q ∈ T.recs, ∀ d, r.o.dst = some d → q.o.dst = some d → r = q
  seen : ∀ r ∈ T.recs, ∀ d, r.o.dst = some d → T.seen.testBit d = true
  env : ∀ r ∈ T.recs, ∀ t v, r.ρ.get t = some v → (∃ q ∈ T.recs, r.mask.testBit q.i = true ∧ q.o.dst = some t ∧ q.v = v) ∨
    (ρ0.get t = some v ∧ ∀ (j : Nat) oj mj, all[j]? = some oj → oj.dst = some t → ms[j]? = some mj → j = r.i ∨ mj.testBit r.i = true)
  want : ∀ r ∈ T.recs, wantedA all r.ρ r.o = some (r.kind != 0)
  kind : ∀ r ∈ T.recs, r.kind = 0 ∨ r.kind = 1 ∨ r.kind = 2 ∨ r.kind = 3
  k0 : ∀ r ∈ T.recs, r.kind = 0 → r.v = .und
  k1 : ∀ r ∈ T.recs, r.kind = 1 → isM r.o.op = false ∧ isE modeOf r.ρ r.o.op = false ∧ (∃ σ τ, opA P heapy call r.ρ σ r.o.op = some (r.v, τ)) ∧ ∀ c ∈ T.cur :: T.old, (∀ e, T.cur.em.testBit e = true → r.mask.testBit e = true → c.em.testBit e = true) → c.dn.testBit r.i = false →
    ∃ τ, opA P heapy call r.ρ (c.at T.mrecs r.mask.testBit) r.o.op = some (r.v, τ)
  k2 : ∀ r ∈ T.recs, r.kind = 2 → opM P heapy r.ρ r.id r.o.op = some (r.v, r.blk) ∧ base ≤ r.id ∧ r.id < T.nid
  k3 : ∀ r ∈ T.recs, r.kind = 3 → ∃ c ∈ T.cur :: T.old, ∃ c' ∈ T.cur :: T.old, (∀ e, c.em.testBit e = true ↔ ∃ q ∈ T.recs, q.kind = 3 ∧ q.i = e ∧ q.i < r.i) ∧ (∀ e, c.em.testBit e = true → r.mask.testBit e = true) ∧
    opA P heapy call r.ρ (c.at T.mrecs r.mask.testBit) r.o.op = some (r.v, c'.σ) ∧ c'.em = c.em ||| 2 ^ r.i ∧ c'.dn = c.dn ||| r.mask ||| 2 ^ r.i
  ids : ∀ r ∈ T.recs, ∀ q ∈ T.recs, r.kind = 2 → q.kind = 2 → r.id = q.id → r = q
  m1 : ∀ x ∈ T.mrecs, ∃ r ∈ T.recs, r.kind = 2 ∧ r.i = x.1 ∧ r.id = x.2.1 ∧ r.blk = some x.2.2
  m2 : ∀ r ∈ T.recs, r.kind = 2 → ∀ b, r.blk = some b → (r.i, r.id, b) ∈ T.mrecs
  em : ∀ c ∈ T.cur :: T.old, ∀ e, c.em.testBit e = true → T.cur.em.testBit e = true
  emE : ∀ e, T.cur.em.testBit e = true ↔ ∃ q ∈ T.recs, q.kind = 3 ∧ q.i = e
  emU : ∀ c ∈ T.cur :: T.old, ∀ c' ∈ T.cur :: T.old, c.em = c'.em → c = c'
  nid : base ≤ T.nid ∧ T.nid ≤ top

section
variable {P : Program} {heapy : Bool} {call : CallF} {modeOf : FuncId → Nat} {n : Nat} {all : Array Oper} {ms : List Nat} {ρ0 : Env} {base top : Nat} {re : List (Nat × Nat × Nat)}

theorem at_skip {c : Core} {mr m : List (Nat × Nat × Blk)} {p : Nat → Bool} (h : ∀ x ∈ mr, p x.1 = false) : c.at (mr ++ m) p = c.at m p := by
  unfold Core.at
  exact fill_skip fun x hx => by simp [h x hx]
theorem sameAt_spec {m : List (Nat × Nat × Blk)} {c : Core} {r : Rec} (h : sameAt P heapy call m c r = true) : ∃ τ, opA P heapy call r.ρ (c.at m r.mask.testBit) r.o.op = some (r.v, τ) := by
  unfold sameAt at h
  rw [opF_eq] at h
  split at h
  · rename_i u τ hu
    exact ⟨τ, by rw [hu, eqA_eq h]⟩
  · cases h

/-- One more record; the memories as they were, or one more. -/
theorem DT.Good.more {T T' : DT} {i mask : Nat} {o : Oper} {r : Rec} (hA : AncOK all.toList ms) (G : T.Good P heapy call modeOf n all ms ρ0 base top i)
    (hre : ∀ t v, ρ0.get t = some v → ∀ (j : Nat) oj mj, all[j]? = some oj → oj.dst = some t → ms[j]? = some mj → (t, j, mj) ∈ re)
    (ho : all[i]? = some o) (hm : ms[i]? = some mask) (hd : okD o.dst n = true) (hf : freshD T.seen o.dst = true)
    (e1 : T'.recs = r :: T.recs) (ri : r.i = i) (rm : r.mask = mask) (ro : r.o = o) (rρ : r.ρ = envD ρ0 re T.recs mask i) (hseen : T'.seen = seeD T.seen o.dst)
    (hw : wantedA all r.ρ r.o = some (r.kind != 0)) (hkk : r.kind = 0 ∨ r.kind = 1 ∨ r.kind = 2 ∨ r.kind = 3) (h0 : r.kind = 0 → r.v = .und)
    {mr : List (Nat × Nat × Blk)} (e2 : T'.mrecs = mr ++ T.mrecs) (hmr : ∀ x ∈ mr, r.kind = 2 ∧ x = (i, T.nid, x.2.2) ∧ r.blk = some x.2.2) (hmr2 : r.kind = 2 → ∀ b, r.blk = some b → (r.i, r.id, b) ∈ mr)
    (hnid : T.nid ≤ T'.nid ∧ T'.nid ≤ top) (h2 : r.kind = 2 → opM P heapy r.ρ r.id r.o.op = some (r.v, r.blk) ∧ r.id = T.nid ∧ T.nid < T'.nid)
    (h1 : r.kind = 1 → isM r.o.op = false ∧ isE modeOf r.ρ r.o.op = false ∧ (∃ σ τ, opA P heapy call r.ρ σ r.o.op = some (r.v, τ)) ∧ ∀ c ∈ T'.cur :: T'.old, (∀ e, T'.cur.em.testBit e = true → r.mask.testBit e = true → c.em.testBit e = true) → ∃ τ, opA P heapy call r.ρ (c.at T.mrecs r.mask.testBit) r.o.op = some (r.v, τ))
    (hc : (r.kind ≠ 3 ∧ T'.cur = T.cur ∧ T'.old = T.old) ∨ (r.kind = 3 ∧ T'.old = T.cur :: T.old ∧ T'.cur.em = T.cur.em ||| 2 ^ i ∧ T'.cur.dn = T.cur.dn ||| mask ||| 2 ^ i ∧ mask &&& T.cur.em = T.cur.em ∧
      opA P heapy call r.ρ (T.cur.at T.mrecs mask.testBit) o.op = some (r.v, T'.cur.σ) ∧ ∀ q ∈ T.recs, q.kind = 1 → mask.testBit q.i = false → ∃ τ, opA P heapy call q.ρ (T'.cur.at T.mrecs q.mask.testBit) q.o.op = some (q.v, τ))) :
    T'.Good P heapy call modeOf n all ms ρ0 base top (i + 1) := by
  subst ri; subst rm; subst ro
  have mem : ∀ {q : Rec}, q ∈ T'.recs ↔ q = r ∨ q ∈ T.recs := by intro q; rw [e1]; exact List.mem_cons
  have masklt : ∀ {q : Rec} {e : Nat}, q ∈ T.recs → q.mask.testBit e = true → e < q.i := fun hq he => hA.lt _ _ _ (G.op _ hq).2.1 he
  have masklt' : ∀ {e : Nat}, r.mask.testBit e = true → e < r.i := fun he => hA.lt _ _ _ hm he
  have skip : ∀ {q : Rec} {c : Core}, q ∈ T'.recs → c.at T'.mrecs q.mask.testBit = c.at T.mrecs q.mask.testBit := by
    intro q c hq
    rw [e2]
    refine at_skip fun x hx => ?_
    have hx1 : x.1 = r.i := by rw [(hmr x hx).2.1]
    rw [hx1]
    cases hb : q.mask.testBit r.i with
    | false => rfl
    | true =>
      rcases mem.1 hq with rfl | hq
      · have := masklt' hb; omega
      · have := masklt hq hb; have := G.lt _ hq; omega
  have coresup : ∀ {c : Core}, c ∈ T.cur :: T.old → c ∈ T'.cur :: T'.old := by
    intro c h
    rcases hc with ⟨_, h1, h2⟩ | ⟨_, h1, _⟩
    · rw [h1, h2]; exact h
    · rw [h1]; exact List.mem_cons_of_mem _ h
  have emlt : ∀ {e : Nat}, T.cur.em.testBit e = true → e < r.i := by
    intro e he
    obtain ⟨q, hq, _, rfl⟩ := (G.emE e).1 he
    exact G.lt _ hq
  -- what stands in the newest memory's list of marks
  have emnew : ∀ e, T'.cur.em.testBit e = true ↔ T.cur.em.testBit e = true ∨ (r.kind = 3 ∧ e = r.i) := by
    intro e
    rcases hc with ⟨h3, h1, _⟩ | ⟨h3, _, h1, _⟩
    · rw [h1]; simp [h3]
    · rw [h1]; simp only [Nat.testBit_or, Bool.or_eq_true, Nat.testBit_two_pow, decide_eq_true_eq, h3, true_and]
      constructor <;> rintro (h | h) <;> simp [h]
  have coredown : ∀ {c : Core}, c ∈ T'.cur :: T'.old → c ∈ T.cur :: T.old ∨ (r.kind = 3 ∧ c = T'.cur) := by
    intro c h
    rcases hc with ⟨_, h1, h2⟩ | ⟨h3, h1, _⟩
    · rw [h1, h2] at h; exact .inl h
    · rw [h1] at h
      rcases List.mem_cons.1 h with h | h
      · exact .inr ⟨h3, h⟩
      · exact .inl h
  have emold : ∀ {c : Core}, c ∈ T.cur :: T.old → c.em.testBit r.i = false := by
    intro c h
    cases hb : c.em.testBit r.i with
    | false => rfl
    | true => have := emlt (G.em c h _ hb); omega
  refine ⟨fun q hq => ?_, fun j hj => ?_, fun a ha b hb hab => ?_, fun q hq => ?_, fun a ha b hb d hda hdb => ?_, fun q hq d hdd => ?_, fun q hq t v hv => ?_, fun q hq => ?_, fun q hq => ?_, fun q hq => ?_, fun q hq hk => ?_, fun q hq hk => ?_, fun q hq hk => ?_, fun a ha b hb hka hkb hab => ?_, fun x hx => ?_, fun q hq hk b hb => ?_, fun c hc e he => ?_, fun e => ?_, fun c hcm c' hcm' he => ?_, ⟨Nat.le_trans G.nid.1 hnid.1, hnid.2⟩⟩
  · rcases mem.1 hq with rfl | hq
    · omega
    · have := G.lt q hq; omega
  · by_cases hji : j = r.i
    · exact ⟨r, mem.2 (.inl rfl), hji.symm⟩
    · obtain ⟨q, hq, h⟩ := G.has j (by omega)
      exact ⟨q, mem.2 (.inr hq), h⟩
  · rcases mem.1 ha with rfl | ha <;> rcases mem.1 hb with rfl | hb
    · rfl
    · have := G.lt b hb; omega
    · have := G.lt a ha; omega
    · exact G.uniq a ha b hb hab
  · rcases mem.1 hq with rfl | hq
    · exact ⟨ho, hm, hd⟩
    · exact G.op q hq
  · have none : ∀ {q : Rec} {d : Nat}, q ∈ T.recs → q.o.dst = some d → r.o.dst = some d → False := by
      intro q d hq h1 h2
      rw [h2] at hf
      have := G.seen q hq d h1
      simp [freshD, this] at hf
    rcases mem.1 ha with rfl | ha <;> rcases mem.1 hb with rfl | hb
    · rfl
    · exact (none hb hdb hda).elim
    · exact (none ha hda hdb).elim
    · exact G.dst a ha b hb d hda hdb
  · rw [hseen]
    rcases mem.1 hq with rfl | hq
    · rw [hdd]; simp [seeD]
    · have := G.seen q hq d hdd
      cases hr : r.o.dst with
      | none => exact this
      | some d' => simp [seeD, this]
  · rcases mem.1 hq with rfl | hq
    · rw [rρ] at hv
      rcases get_append hv with h | ⟨_, h⟩
      · obtain ⟨q, hq, h1, h2, h3⟩ := recE_mem (get_mem h)
        exact .inl ⟨q, mem.2 (.inr hq), h1, h2, h3⟩
      · obtain ⟨h1, h2⟩ := get_filter (f := fun t => re.all fun y => y.1 != t || y.2.1 == q.i || y.2.2.testBit q.i) h
        refine .inr ⟨h1, fun j oj mj hj hd hmj => ?_⟩
        have := List.all_eq_true.1 h2 _ (hre t v h1 j oj mj hj hd hmj)
        simpa using this
    · rcases G.env q hq t v hv with ⟨q', h1, h2⟩ | h
      · exact .inl ⟨q', mem.2 (.inr h1), h2⟩
      · exact .inr h
  · rcases mem.1 hq with rfl | hq
    · exact hw
    · exact G.want q hq
  · rcases mem.1 hq with rfl | hq
    · exact hkk
    · exact G.kind q hq
  · rcases mem.1 hq with rfl | hq
    · exact h0
    · exact G.k0 q hq
  · rcases mem.1 hq with rfl | hq'
    · obtain ⟨a1, a2, a4, a3⟩ := h1 hk
      refine ⟨a1, a2, a4, fun c hc hadm _ => ?_⟩
      rw [skip hq]
      exact a3 c hc hadm
    · obtain ⟨a1, a2, a4, a3⟩ := G.k1 q hq' hk
      refine ⟨a1, a2, a4, fun c hc' hadm hdn => ?_⟩
      rw [skip hq]
      rcases coredown hc' with h | ⟨h3, rfl⟩
      · exact a3 c h (fun e he hm' => hadm e ((emnew e).2 (.inl he)) hm') hdn
      · rcases hc with ⟨h, _⟩ | ⟨_, _, _, hdn', _, _, hre'⟩
        · exact absurd h3 h
        · refine hre' q hq' hk ?_
          rw [hdn'] at hdn
          simp only [Nat.testBit_or, Bool.or_eq_false_iff] at hdn
          exact hdn.1.2
  · rcases mem.1 hq with rfl | hq
    · obtain ⟨a1, a2, a3⟩ := h2 hk
      exact ⟨a1, by rw [a2]; exact G.nid.1, by rw [a2]; exact a3⟩
    · obtain ⟨a1, a2, a3⟩ := G.k2 q hq hk
      exact ⟨a1, a2, by omega⟩
  · rcases mem.1 hq with rfl | hq'
    · rcases hc with ⟨h, _⟩ | ⟨_, hold, hem, hdn, hall, hop, _⟩
      · exact absurd hk h
      · refine ⟨T.cur, by rw [hold]; simp, T'.cur, by simp, fun e => ?_, fun e he => ?_, by rw [skip hq]; exact hop, hem, hdn⟩
        · rw [G.emE e]
          constructor
          · rintro ⟨x, hx, h1, rfl⟩
            exact ⟨x, mem.2 (.inr hx), h1, rfl, G.lt x hx⟩
          · rintro ⟨x, hx, h1, rfl, h2⟩
            rcases mem.1 hx with rfl | hx
            · omega
            · exact ⟨x, hx, h1, rfl⟩
        · rw [← hall] at he
          simp only [Nat.testBit_and, Bool.and_eq_true] at he
          exact he.1
    · obtain ⟨c, hcm, c', hcm', a1, a2, a3, a4, a5⟩ := G.k3 q hq' hk
      refine ⟨c, coresup hcm, c', coresup hcm', fun e => ?_, a2, by rw [skip hq]; exact a3, a4, a5⟩
      rw [a1 e]
      constructor
      · rintro ⟨x, hx, h1, h2, h3⟩
        exact ⟨x, mem.2 (.inr hx), h1, h2, h3⟩
      · rintro ⟨x, hx, h1, h2, h3⟩
        rcases mem.1 hx with rfl | hx
        · have := G.lt q hq'; omega
        · exact ⟨x, hx, h1, h2, h3⟩
  · rcases mem.1 ha with rfl | ha <;> rcases mem.1 hb with rfl | hb
    · rfl
    · have := (G.k2 b hb hkb).2.2; have := (h2 hka).2.1; omega
    · have := (G.k2 a ha hka).2.2; have := (h2 hkb).2.1; omega
    · exact G.ids a ha b hb hka hkb hab
  · rw [e2] at hx
    rcases List.mem_append.1 hx with hx | hx
    · obtain ⟨a1, a2, a3⟩ := hmr x hx
      refine ⟨r, mem.2 (.inl rfl), a1, by rw [a2], by rw [(h2 a1).2.1, a2], a3⟩
    · obtain ⟨q, hq, h⟩ := G.m1 x hx
      exact ⟨q, mem.2 (.inr hq), h⟩
  · rw [e2]
    rcases mem.1 hq with rfl | hq
    · exact List.mem_append_left _ (hmr2 hk b hb)
    · exact List.mem_append_right _ (G.m2 q hq hk b hb)
  · rcases coredown hc with h | ⟨_, rfl⟩
    · exact (emnew e).2 (.inl (G.em c h e he))
    · exact he
  · rw [emnew e]
    constructor
    · rintro (h | ⟨h3, rfl⟩)
      · obtain ⟨q, hq, h⟩ := (G.emE e).1 h
        exact ⟨q, mem.2 (.inr hq), h⟩
      · exact ⟨r, mem.2 (.inl rfl), h3, rfl⟩
    · rintro ⟨q, hq, g1, g2⟩
      rcases mem.1 hq with rfl | hq
      · exact .inr ⟨g1, g2.symm⟩
      · exact .inl ((G.emE e).2 ⟨q, hq, g1, g2⟩)
  · rcases coredown hcm with h | ⟨h3, rfl⟩ <;> rcases coredown hcm' with h' | ⟨h3', rfl⟩
    · exact G.emU c h c' h' he
    · have h1 := emold h
      rw [he, (emnew _).2 (.inr ⟨h3', rfl⟩)] at h1; cases h1
    · have h1 := emold h'
      rw [← he, (emnew _).2 (.inr ⟨h3, rfl⟩)] at h1; cases h1
    · rfl

theorem drawOp_good {T T' : DT} {i mask : Nat} {o : Oper} (hA : AncOK all.toList ms) (G : T.Good P heapy call modeOf n all ms ρ0 base top i)
    (hre : ∀ t v, ρ0.get t = some v → ∀ (j : Nat) oj mj, all[j]? = some oj → oj.dst = some t → ms[j]? = some mj → (t, j, mj) ∈ re)
    (ho : all[i]? = some o) (hm : ms[i]? = some mask) (h : drawOp P heapy call modeOf n all ρ0 re top i mask o T = some T') : T'.Good P heapy call modeOf n all ms ρ0 base top (i + 1) := by
  unfold drawOp at h
  simp only [opF_eq] at h
  split at h
  · rename_i hdf
    simp only [Bool.and_eq_true] at hdf
    split at h
    · rename_i hw
      injection h with h; subst h
      exact G.more hA hre ho hm hdf.1 hdf.2 rfl rfl rfl rfl rfl rfl hw (.inl rfl) (fun _ => rfl) (mr := []) rfl (fun x hx => by simp at hx) (fun h => by simp at h) ⟨Nat.le_refl _, G.nid.2⟩ (fun h => by simp at h) (fun h => by simp at h) (.inl ⟨by simp, rfl, rfl⟩)
    · rename_i hw
      split at h
      · rename_i hM
        split at h
        · rename_i v b hlt hop
          have hlt : T.nid < top := by simpa using hlt
          injection h with h; subst h
          refine G.more hA hre ho hm hdf.1 hdf.2 rfl rfl rfl rfl rfl rfl hw (.inr (.inr (.inl rfl))) (fun h => by simp at h) rfl (fun x hx => ?_) (fun _ b' hb => ?_) ⟨Nat.le_succ _, hlt⟩ (fun _ => ⟨hop, rfl, Nat.lt_succ_self _⟩) (fun h => by simp at h) (.inl ⟨by simp, rfl, rfl⟩)
          · obtain ⟨y, hy, rfl⟩ := List.mem_map.1 hx
            exact ⟨rfl, rfl, by simpa using hy⟩
          · exact List.mem_map.2 ⟨b', by simpa using hb, rfl⟩
        · cases h
      · rename_i hM
        split at h
        · rename_i hE
          split at h
          · rename_i hem
            split at h
            · rename_i v σ' hop
              split at h
              · rename_i hall
                injection h with h; subst h
                refine G.more hA hre ho hm hdf.1 hdf.2 rfl rfl rfl rfl rfl rfl hw (.inr (.inr (.inr rfl))) (fun h => by simp at h) (mr := []) rfl (fun x hx => by simp at hx) (fun h => by simp at h) ⟨Nat.le_refl _, G.nid.2⟩ (fun h => by simp at h) (fun h => by simp at h) (.inr ⟨rfl, rfl, rfl, rfl, by simpa using hem, hop, fun q hq hk hmq => ?_⟩)
                have := List.all_eq_true.1 hall q hq
                simp only [hk, hmq, bne_self_eq_false, Bool.false_or, Bool.or_eq_true] at this
                rcases this with hN | hs
                · obtain ⟨_, _, ⟨σ1, τ1, h3⟩, _⟩ := G.k1 q hq hk
                  exact opA_N hN h3
                · exact sameAt_spec hs
              · cases h
            · cases h
          · cases h
        · rename_i hE
          split at h
          · rename_i v σ' hop
            split at h
            · rename_i hall
              injection h with h; subst h
              refine G.more hA hre ho hm hdf.1 hdf.2 rfl rfl rfl rfl rfl rfl hw (.inr (.inl rfl)) (fun h => by simp at h) (mr := []) rfl (fun x hx => by simp at hx) (fun h => by simp at h) ⟨Nat.le_refl _, G.nid.2⟩ (fun h => by simp at h) (fun _ => ⟨by simpa using hM, by simpa using hE, ⟨_, _, hop⟩, fun c hc hadm => ?_⟩) (.inl ⟨by simp, rfl, rfl⟩)
              rcases Bool.or_eq_true .. |>.mp hall with hN | hall
              · exact opA_N hN hop
              · rcases List.mem_cons.1 hc with rfl | hc
                · exact ⟨_, hop⟩
                · have := List.all_eq_true.1 hall c hc
                  rcases Bool.or_eq_true .. |>.mp this with h1 | h1
                  · exfalso
                    simp only [bne_iff_ne, ne_eq] at h1
                    refine h1 (Nat.eq_of_testBit_eq fun e => ?_)
                    simp only [Nat.testBit_and]
                    cases hme : mask.testBit e with
                    | false => rfl
                    | true =>
                      simp only [Bool.true_and]
                      cases hce : T.cur.em.testBit e with
                      | true => exact (hadm e hce hme).symm
                      | false =>
                        cases hcc : c.em.testBit e with
                        | false => rfl
                        | true => have := G.em c (List.mem_cons_of_mem _ hc) e hcc; rw [hce] at this; cases this
                  · exact sameAt_spec (r := ⟨i, mask, o, v, 1, 0, none, _⟩) h1
            · cases h
          · cases h
    · cases h
  · cases h
end
end Go.Dx
