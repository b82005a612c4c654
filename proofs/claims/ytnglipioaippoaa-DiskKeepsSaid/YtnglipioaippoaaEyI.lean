/- Regions that draw their order: every order comes to what was reckoned. -/
import Derived.Test.YtnglipioaippoaaEyH
namespace Go.Dx
variable {V : Nm → Prop}

/-- What stands while some of the operations are done. -/
structure Inv (n : Nat) (D : List Deferred) (ρ0 : Env) (k0 : Kn V) (σ0 : Heap) (w0 : World) (T : DT) (S : Nat → Bool) (c : Core) (k : Kn V) (a : Act) (w : World) : Prop where
  mem : c ∈ T.cur :: T.old
  em : ∀ e, c.em.testBit e = true ↔ (S e = true ∧ ∃ q ∈ T.recs, q.kind = 3 ∧ q.i = e)
  dn : ∀ j, c.dn.testBit j = true → S j = true
  down : ∀ r ∈ T.recs, S r.i = true → ∀ j, r.mask.testBit j = true → S j = true
  st : Step k0 σ0 w0 k (c.at T.mrecs S) w
  len : T.nid ≤ c.σ.length
  hole : ∀ r ∈ T.recs, r.kind = 2 → c.dn.testBit r.i = false → c.σ[r.id]? = some .hole
  unborn : ∀ r ∈ T.recs, r.kind = 2 → S r.i = false → ∀ ep, k.μ r.id ep = none
  size : a.tmps.size = n
  defers : a.defers = D
  vals : ∀ r ∈ T.recs, S r.i = true → ∀ d, r.o.dst = some d → ∃ u, a.tmps[d]? = some u ∧ VRel k r.v u
  base : ∀ t v, ρ0.get t = some v → (∀ r ∈ T.recs, S r.i = true → r.o.dst ≠ some t) → ∃ u, a.tmps[t]? = some u ∧ VRel k v u

noncomputable def upd (S : Nat → Bool) (i : Nat) : Nat → Bool := fun j => if j = i then true else S j

theorem at_len {c : Core} {m : List (Nat × Nat × Blk)} {p : Nat → Bool} : (c.at m p).length = c.σ.length := fill_len
theorem notRow {b : Option Blk} (h : b = some .hole) : ¬ IsRow b := by
  rintro (⟨_, _, _, _, _, h2⟩ | ⟨_, h2⟩) <;> (rw [h] at h2; cases h2)

section
variable {P : Program} {heapy : Bool} {call : CallF} {modeOf : FuncId → Nat} {n : Nat} {D : List Deferred} {all : Array Oper} {ms : List Nat} {ρ0 : Env} {top : Nat} {T : DT}
  {k0 : Kn V} {σ0 : Heap} {w0 : World} {S : Nat → Bool} {c : Core} {k : Kn V} {a : Act} {w : World}

theorem at_in (G : T.Good P heapy call modeOf n all ms ρ0 σ0.length top all.size) {c : Core} (hl : T.nid ≤ c.σ.length) {p : Nat → Bool} {r : Rec} (hr : r ∈ T.recs) (hk : r.kind = 2) {b : Blk} (hb : r.blk = some b) (hp : p r.i = true) (hd : c.dn.testBit r.i = false) : (c.at T.mrecs p)[r.id]? = some b := by
  have := (G.k2 r hr hk).2.2
  refine fill_yes (j := r.i) (by simp [hp, hd]) (by omega) (G.m2 r hr hk b hb) fun x hx hid => ?_
  obtain ⟨q, hq, h1, h2, h3, h4⟩ := G.m1 x hx
  have := G.ids q hq r hr h1 hk (h3.trans hid)
  subst this
  rw [hb] at h4; injection h4 with h4
  obtain ⟨x1, x2, x3⟩ := x
  simp only at h2 h3 h4
  subst h2; subst h3; subst h4; rfl
theorem at_out {c : Core} {p : Nat → Bool} {id : Nat} (h : ∀ x ∈ T.mrecs, x.2.1 = id → p x.1 = true → c.dn.testBit x.1 = false → False) : (c.at T.mrecs p)[id]? = c.σ[id]? := by
  refine fill_no fun x hx hid => ?_
  cases hp : p x.1 with
  | false => simp
  | true =>
    cases hd : c.dn.testBit x.1 with
    | false => exact (h x hx hid hp hd).elim
    | true => simp
theorem at_cases (G : T.Good P heapy call modeOf n all ms ρ0 σ0.length top all.size) {c : Core} (hl : T.nid ≤ c.σ.length) (p : Nat → Bool) (id : Nat) :
    (∃ r ∈ T.recs, ∃ b, r.kind = 2 ∧ r.id = id ∧ r.blk = some b ∧ p r.i = true ∧ c.dn.testBit r.i = false ∧ (c.at T.mrecs p)[id]? = some b) ∨
    ((∀ r ∈ T.recs, r.kind = 2 → r.id = id → r.blk ≠ none → p r.i = true → c.dn.testBit r.i = false → False) ∧ (c.at T.mrecs p)[id]? = c.σ[id]?) := by
  by_cases hx : ∃ r ∈ T.recs, r.kind = 2 ∧ r.id = id ∧ r.blk ≠ none ∧ p r.i = true ∧ c.dn.testBit r.i = false
  · obtain ⟨r, hr, h1, rfl, h3, h4, h5⟩ := hx
    obtain ⟨b, hb⟩ := Option.ne_none_iff_exists'.1 h3
    exact .inl ⟨r, hr, b, h1, rfl, hb, h4, h5, at_in G hl hr h1 hb h4 h5⟩
  · refine .inr ⟨fun r hr h1 h2 h3 h4 h5 => hx ⟨r, hr, h1, h2, h3, h4, h5⟩, at_out fun x hm hid hp hd => ?_⟩
    obtain ⟨q, hq, h1, h2, h3, h4⟩ := G.m1 x hm
    exact hx ⟨q, hq, h1, h3.trans hid, by rw [h4]; simp, by rw [h2]; exact hp, by rw [h2]; exact hd⟩

theorem at_hole (G : T.Good P heapy call modeOf n all ms ρ0 σ0.length top all.size) {c : Core} (hh : ∀ r ∈ T.recs, r.kind = 2 → c.dn.testBit r.i = false → c.σ[r.id]? = some .hole) {p : Nat → Bool} {r : Rec} (hr : r ∈ T.recs) (hk : r.kind = 2) (hp : p r.i = false) (hd : c.dn.testBit r.i = false) : (c.at T.mrecs p)[r.id]? = some .hole := by
  rw [at_out, hh r hr hk hd]
  intro x hx hid hpx _
  obtain ⟨q, hq, h1, h2, h3, h4⟩ := G.m1 x hx
  have := G.ids q hq r hr h1 hk (h3.trans hid)
  subst this
  rw [← h2, hp] at hpx; cases hpx

theorem at_sub (G : T.Good P heapy call modeOf n all ms ρ0 σ0.length top all.size) {c : Core} (hl : T.nid ≤ c.σ.length) (hh : ∀ r ∈ T.recs, r.kind = 2 → c.dn.testBit r.i = false → c.σ[r.id]? = some .hole)
    {p q : Nat → Bool} (hpq : ∀ j, p j = true → q j = true) : Sub (c.at T.mrecs p) (c.at T.mrecs q) := by
  refine ⟨by rw [at_len, at_len], fun id b hb hrow => ?_⟩
  rcases at_cases G hl p id with ⟨r, hr, b', h1, rfl, h3, h4, h5, h6⟩ | ⟨h1, h2⟩
  · rw [h6] at hb; injection hb with hb; subst hb
    exact at_in G hl hr h1 h3 (hpq _ h4) h5
  · rcases at_cases G hl q id with ⟨r, hr, b', g1, rfl, g3, g4, g5, g6⟩ | ⟨g1, g2⟩
    · rw [h2, hh r hr g1 g5] at hb
      injection hb with hb; subst hb
      exact absurd hrow (notRow rfl)
    · rw [g2, ← h2]; exact hb

/-- What was hidden comes back. -/
theorem at_back (G : T.Good P heapy call modeOf n all ms ρ0 σ0.length top all.size) {c : Core} (hl : T.nid ≤ c.σ.length) (hh : ∀ r ∈ T.recs, r.kind = 2 → c.dn.testBit r.i = false → c.σ[r.id]? = some .hole)
    {p q : Nat → Bool} (hpq : ∀ j, p j = true → q j = true) : Back (c.at T.mrecs p) (c.at T.mrecs q) (c.at T.mrecs p) (c.at T.mrecs q) := by
  refine ⟨by rw [at_len, at_len], fun id b hb hrow => ?_⟩
  rcases at_cases G hl q id with ⟨r, hr, b', h1, rfl, h3, h4, h5, h6⟩ | ⟨h1, h2⟩
  · rw [h6] at hb; injection hb with hb; subst hb
    cases hp : p r.i with
    | true => exact .inl (at_in G hl hr h1 h3 hp h5)
    | false =>
      have := at_hole G hh (p := p) hr h1 hp h5
      refine .inr ⟨notRow this, notRow this, ?_, h6⟩
      rw [at_len]; have := (G.k2 r hr h1).2.2; omega
  · rcases at_cases G hl p id with ⟨r, hr, b', g1, rfl, g3, g4, g5, g6⟩ | ⟨g1, g2⟩
    · exact (h1 r hr g1 rfl (by rw [g3]; simp) (hpq _ g4) g5).elim
    · exact .inl (by rw [g2, ← h2]; exact hb)

theorem Inv.env (G : T.Good P heapy call modeOf n all ms ρ0 σ0.length top all.size) (I : Inv n D ρ0 k0 σ0 w0 T S c k a w) {r : Rec} (hr : r ∈ T.recs) (hS : S r.i = false) (hms : ∀ j, r.mask.testBit j = true → S j = true) : EnvR k n D r.ρ a := by
  refine ⟨I.size, fun t v hv => ?_, I.defers⟩
  rcases G.env r hr t v hv with ⟨q, hq, h1, h2, rfl⟩ | ⟨h1, h2⟩
  · exact I.vals q hq (hms _ h1) t h2
  · refine I.base t v h1 fun q hq hSq hd => ?_
    obtain ⟨g1, g2, _⟩ := G.op q hq
    rcases h2 q.i q.o q.mask g1 hd g2 with h | h
    · rw [h, hS] at hSq; cases hSq
    · rw [I.down q hq hSq _ h] at hS; cases hS

/-- One operation is done: its value is put down, the memory is told by 'c''. -/
theorem Inv.next (G : T.Good P heapy call modeOf n all ms ρ0 σ0.length top all.size) (I : Inv n D ρ0 k0 σ0 w0 T S c k a w) {r : Rec} (hr : r ∈ T.recs) (hS : S r.i = false) (hms : ∀ j, r.mask.testBit j = true → S j = true)
    {c' : Core} {k' : Kn V} {u : Value} {w' : World} (hle : k.Le k') (hv : VRel k' r.v u) (hst : Step k0 σ0 w0 k' (c'.at T.mrecs (upd S r.i)) w')
    (hmem : c' ∈ T.cur :: T.old) (hem : ∀ e, c'.em.testBit e = true ↔ (upd S r.i e = true ∧ ∃ q ∈ T.recs, q.kind = 3 ∧ q.i = e)) (hdn : ∀ j, c'.dn.testBit j = true → upd S r.i j = true) (hlen : T.nid ≤ c'.σ.length)
    (hhole : ∀ r ∈ T.recs, r.kind = 2 → c'.dn.testBit r.i = false → c'.σ[r.id]? = some .hole) (hun : ∀ q ∈ T.recs, q.kind = 2 → q ≠ r → S q.i = false → ∀ ep, k'.μ q.id ep = none) : Inv n D ρ0 k0 σ0 w0 T (upd S r.i) c' k' (a.put r.o.dst u) w' := by
  have up : ∀ {j}, S j = true → upd S r.i j = true := fun h => by unfold upd; split <;> simp [h]
  have hd := (G.op r hr).2.2
  refine ⟨hmem, hem, hdn, fun q hq hSq j hj => ?_, hst, hlen, hhole, fun q hq hk hSq => ?_, ?_, ?_, fun q hq hSq d hd' => ?_, fun t v ht hno => ?_⟩
  · by_cases he : q.i = r.i
    · have := G.uniq q hq r hr he; subst this
      exact up (hms j hj)
    · simp only [upd, if_neg he] at hSq
      exact up (I.down q hq hSq j hj)
  · have hne : q.i ≠ r.i := fun he => by simp [upd, he] at hSq
    simp only [upd, if_neg hne] at hSq
    exact hun q hq hk (fun he => hne (by rw [he])) hSq
  · cases hdst : r.o.dst with
    | none => exact I.size
    | some d => simp [Act.put, I.size]
  · cases hdst : r.o.dst with
    | none => exact I.defers
    | some d => exact I.defers
  · by_cases he : q.i = r.i
    · have := G.uniq q hq r hr he; subst this
      rw [hd'] at hd ⊢
      have hdn : d < n := by simpa [okD] using hd
      exact ⟨u, by simp [Act.put, I.size, hdn], hv⟩
    · simp only [upd, if_neg he] at hSq
      obtain ⟨x, hx, hrx⟩ := I.vals q hq hSq d hd'
      refine ⟨x, ?_, hrx.mono hle⟩
      cases hdst : r.o.dst with
      | none => exact hx
      | some d' =>
        have : d' ≠ d := fun h => he (by rw [G.dst q hq r hr d hd' (h ▸ hdst)])
        simp [Act.put, Array.getElem?_setIfInBounds_ne this, hx]
  · obtain ⟨x, hx, hrx⟩ := I.base t v ht fun q hq hSq => hno q hq (up hSq)
    refine ⟨x, ?_, hrx.mono hle⟩
    have hr' := hno r hr (by simp [upd])
    cases hdst : r.o.dst with
    | none => exact hx
    | some d' =>
      have : d' ≠ t := fun h => hr' (h ▸ hdst)
      simp [Act.put, Array.getElem?_setIfInBounds_ne this, hx]

/-- The same memory tells it, where the operation made none. -/
theorem at_upd (G : T.Good P heapy call modeOf n all ms ρ0 σ0.length top all.size) {r : Rec} (hr : r ∈ T.recs) (hk : r.kind ≠ 2 ∨ r.blk = none) : c.at T.mrecs (upd S r.i) = c.at T.mrecs S := by
  have : ∀ x ∈ T.mrecs, x.1 ≠ r.i := by
    intro x hx he
    obtain ⟨q, hq, h1, h2, _, h4⟩ := G.m1 x hx
    have := G.uniq q hq r hr (h2.trans he)
    subst this
    rcases hk with hk | hk
    · exact hk h1
    · rw [hk] at h4; cases h4
  unfold Core.at
  generalize c.σ = h
  revert this
  generalize T.mrecs = m
  intro this
  induction m with
  | nil => rfl
  | cons x rest ih =>
    obtain ⟨j, id, b⟩ := x
    have hj := this _ List.mem_cons_self
    simp only at hj
    simp only [fill, upd, if_neg hj]
    rw [← ih fun x hx => this x (List.mem_cons_of_mem _ hx)]
    rfl

theorem inv_step (G : T.Good P heapy call modeOf n all ms ρ0 σ0.length top all.size) (hc : ∀ f args σ r, call f args σ = some r → CallOK V P f args σ r) (hm : ∀ f args σ r, modeOf f ≠ 0 → call f args σ = some r → r.2 = σ)
    (I : Inv n D ρ0 k0 σ0 w0 T S c k a w) {r : Rec} (hr : r ∈ T.recs) (hS : S r.i = false) (hms : ∀ j, r.mask.testBit j = true → S j = true) {Q : Exit → Act → World → Prop} :
    wpOp P all Q r.i (fun a w => ∃ c k, Inv n D ρ0 k0 σ0 w0 T (upd S r.i) c k a w) a w := by
  have hE := I.env G hr hS hms
  have hw := wanted_ok hE (G.want r hr)
  unfold wpOp
  rw [(G.op r hr).1]
  simp only
  have up : ∀ {j}, S j = true → upd S r.i j = true := fun h => by unfold upd; split <;> simp [h]
  have hsub := at_sub G I.len I.hole hms
  have hback := at_back G I.len I.hole hms
  have hRm := I.st.rel.sub hsub
  have dnr : c.dn.testBit r.i = false := by
    cases hb : c.dn.testBit r.i with
    | false => rfl
    | true => rw [I.dn _ hb] at hS; cases hS
  have em0 : r.kind ≠ 3 → ∀ e, c.em.testBit e = true ↔ (upd S r.i e = true ∧ ∃ q ∈ T.recs, q.kind = 3 ∧ q.i = e) := by
    intro hk e
    rw [I.em e]
    constructor
    · rintro ⟨h1, h2⟩; exact ⟨up h1, h2⟩
    · rintro ⟨h1, q, hq, h2, rfl⟩
      refine ⟨?_, q, hq, h2, rfl⟩
      have : q.i ≠ r.i := fun he => hk (by rw [← G.uniq q hq r hr he]; exact h2)
      simpa [upd, this] using h1
  have unb : ∀ {k' : Kn V} {τ' : Heap} {w' : World}, Step k (c.at T.mrecs r.mask.testBit) w k' τ' w' → ∀ q ∈ T.recs, q.kind = 2 → q ≠ r → S q.i = false → ∀ ep, k'.μ q.id ep = none := by
    intro k' τ' w' hst q hq hk _ hSq ep
    have hmq : r.mask.testBit q.i = false := by
      cases hb : r.mask.testBit q.i with
      | false => rfl
      | true => rw [hms _ hb] at hSq; cases hSq
    have hdq : c.dn.testBit q.i = false := by
      cases hb : c.dn.testBit q.i with
      | false => rfl
      | true => rw [I.dn _ hb] at hSq; cases hSq
    have := (G.k2 q hq hk).2.2
    rw [hst.fr.hol q.id ep (by rw [at_len]; have := I.len; omega) (notRow (at_hole G I.hole (p := r.mask.testBit) hq hk hmq hdq))]
    exact I.unborn q hq hk hSq ep
  rcases G.kind r hr with hk | hk | hk | hk
  · rw [if_neg (by rw [hw, hk]; simp)]
    refine ⟨c, k, I.next G hr hS hms (.refl k) (by rw [G.k0 r hr hk]; exact .und) ?_ I.mem (em0 (by omega)) (fun j hj => up (I.dn j hj)) I.len I.hole fun q hq h1 _ h3 => I.unborn q hq h1 h3⟩
    rw [at_upd G hr (.inl (by omega))]; exact I.st
  · rw [if_pos (by rw [hw, hk]; rfl)]
    obtain ⟨h1, h2, _, h3⟩ := G.k1 r hr hk
    obtain ⟨τ, hop⟩ := h3 c I.mem (fun e he hme => (I.em e).2 ⟨hms e hme, (G.emE e).1 he⟩) dnr
    have hτ := opA_same hm hop h2 h1
    subst hτ
    refine .inl (op_ok hc hRm hE hop fun k' u w' hv hst => ⟨c, k', I.next G hr hS hms hst.le hv ?_ I.mem (em0 (by omega)) (fun j hj => up (I.dn j hj)) I.len I.hole (unb hst)⟩)
    rw [at_upd G hr (.inl (by omega))]
    exact I.st.hidden hsub hst hback
  · rw [if_pos (by rw [hw, hk]; rfl)]
    obtain ⟨h1, h2, h3⟩ := G.k2 r hr hk
    refine .inl (opM_ok I.st.rel hE h1 fun k' u w' hv hmade => ?_)
    cases hb : r.blk with
    | none =>
      rw [hb] at hmade
      have hst : Step k (c.at T.mrecs S) w k' (c.at T.mrecs S) w' := hmade
      refine ⟨c, k', I.next G hr hS hms hst.le hv ?_ I.mem (em0 (by omega)) (fun j hj => up (I.dn j hj)) I.len I.hole fun q hq g1 _ g3 ep => ?_⟩
      · rw [at_upd G hr (.inr hb)]; exact I.st.trans hst
      · have hdq : c.dn.testBit q.i = false := by
          cases hb : c.dn.testBit q.i with
          | false => rfl
          | true => rw [I.dn _ hb] at g3; cases g3
        have := (G.k2 q hq g1).2.2
        rw [hst.fr.hol q.id ep (by rw [at_len]; have := I.len; omega) (notRow (at_hole G I.hole hq g1 g3 hdq))]
        exact I.unborn q hq g1 g3 ep
    | some b =>
      rw [hb] at hmade
      have hf : Fits k w r.id b k' w' := hmade
      have hun := I.unborn r hr hk hS
      refine ⟨c, k', I.next G hr hS hms (hf.le hun) hv ?_ I.mem (em0 (by omega)) (fun j hj => up (I.dn j hj)) I.len I.hole fun q hq g1 g2 g3 ep => ?_⟩
      · have hpl := I.st.placed hf (at_hole G I.hole hr hk hS dnr) h2 hun
        have : (c.at T.mrecs S).set r.id b = c.at T.mrecs (upd S r.i) := by
          refine List.ext_getElem? fun id => ?_
          by_cases he : r.id = id
          · subst he
            rw [List.getElem?_set_self (by rw [at_len]; have := I.len; omega)]
            exact (at_in G I.len hr hk hb (by simp [upd]) dnr).symm
          · rw [List.getElem?_set_ne he]
            rcases at_cases G I.len S id with ⟨q, hq, b', g1, rfl, g3, g4, g5, g6⟩ | ⟨g1, g2⟩
            · rw [g6]; exact (at_in G I.len hq g1 g3 (up g4) g5).symm
            · rcases at_cases G I.len (upd S r.i) id with ⟨q, hq, b', f1, rfl, f3, f4, f5, f6⟩ | ⟨f1, f2⟩
              · have hne : q.i ≠ r.i := fun h => he (by rw [G.uniq q hq r hr h])
                exact (g1 q hq f1 rfl (by rw [f3]; simp) (by simpa [upd, hne] using f4) f5).elim
              · rw [g2, f2]
        rw [← this]; exact hpl
      · rw [hf.hol q.id ep fun h => g2 (G.ids q hq r hr g1 hk h)]
        exact I.unborn q hq g1 g3 ep
  · rw [if_pos (by rw [hw, hk]; rfl)]
    obtain ⟨c1, hc1, c', hc', a1, a2, a3, a4, a5⟩ := G.k3 r hr hk
    have hcc : c1 = c := by
      refine G.emU c1 hc1 c I.mem (Nat.eq_of_testBit_eq fun e => ?_)
      rw [Bool.eq_iff_iff, a1 e, I.em e]
      constructor
      · rintro ⟨q, hq, h1, rfl, h2⟩
        exact ⟨hms _ (a2 _ ((a1 q.i).2 ⟨q, hq, h1, rfl, h2⟩)), q, hq, h1, rfl⟩
      · rintro ⟨h0, q, hq, h1, rfl⟩
        refine ⟨q, hq, h1, rfl, ?_⟩
        rcases Nat.lt_trichotomy q.i r.i with h | h | h
        · exact h
        · rw [h, hS] at h0; cases h0
        · obtain ⟨c2, _, _, _, b1, b2, _⟩ := G.k3 q hq h1
          have := I.down q hq h0 _ (b2 r.i ((b1 r.i).2 ⟨r, hr, hk, rfl, h⟩))
          rw [hS] at this; cases this
    subst hcc
    have hdn' : ∀ j, c'.dn.testBit j = true ↔ (c1.dn.testBit j = true ∨ r.mask.testBit j = true) ∨ r.i = j := by
      intro j; rw [a5]; simp only [Nat.testBit_or, Bool.or_eq_true, Nat.testBit_two_pow, decide_eq_true_eq]
    refine .inl (op_ok hc hRm hE a3 fun k' u w' hv hst => ?_)
    have hlen' : T.nid ≤ c'.σ.length := by
      have := hst.fr.len; rw [at_len] at this; have := I.len; omega
    have gone : ∀ q ∈ T.recs, q.kind = 2 → c'.dn.testBit q.i = false → c1.dn.testBit q.i = false ∧ (c1.at T.mrecs r.mask.testBit)[q.id]? = some .hole ∧ c'.σ[q.id]? = some .hole := by
      intro q hq h1 h2
      have h3 : ¬ ((c1.dn.testBit q.i = true ∨ r.mask.testBit q.i = true) ∨ r.i = q.i) := fun h => by rw [(hdn' q.i).2 h] at h2; cases h2
      have h4 : c1.dn.testBit q.i = false := by cases hb : c1.dn.testBit q.i <;> simp_all
      have h5 : r.mask.testBit q.i = false := by cases hb : r.mask.testBit q.i <;> simp_all
      have h6 := at_hole G I.hole (p := r.mask.testBit) hq h1 h5 h4
      have h7 := (G.k2 q hq h1).2.2
      refine ⟨h4, h6, ?_⟩
      have h8 : ¬ IsRow c'.σ[q.id]? := fun h => notRow h6 (hst.fr.rows q.id (by rw [at_len]; have := I.len; omega) h)
      have h9 : q.id < c'.σ.length := by omega
      rw [List.getElem?_eq_getElem h9] at h8 ⊢
      cases hx : c'.σ[q.id] with
      | hole => rfl
      | row ty sz es live next => exact absurd (.inl ⟨ty, sz, es, live, next, by rw [hx]⟩) h8
      | mp es => exact absurd (.inr ⟨es, by rw [hx]⟩) h8
    refine ⟨c', k', I.next G hr hS hms hst.le hv ?_ hc' (fun e => ?_) (fun j hj => ?_) hlen' (fun q hq h1 h2 => (gone q hq h1 h2).2.2) (unb hst)⟩
    · refine I.st.hidden hsub hst ⟨by rw [at_len], fun id b hb hrow => ?_⟩
      rcases at_cases G hlen' (upd S r.i) id with ⟨q, hq, b', f1, rfl, f3, f4, f5, f6⟩ | ⟨f1, f2⟩
      · rw [f6] at hb; injection hb with hb; subst hb
        obtain ⟨g1, g2, g3⟩ := gone q hq f1 f5
        have hne : q.i ≠ r.i := fun h => by
          have := G.uniq q hq r hr h
          subst this; omega
        refine .inr ⟨notRow g3, notRow g2, ?_, at_in G I.len hq f1 f3 (by simpa [upd, hne] using f4) g1⟩
        rw [at_len]; have := (G.k2 q hq f1).2.2; have := I.len; omega
      · exact .inl (by rw [← f2]; exact hb)
    · rw [a4]
      simp only [Nat.testBit_or, Bool.or_eq_true, Nat.testBit_two_pow, decide_eq_true_eq]
      rw [I.em e]
      constructor
      · rintro (⟨h1, h2⟩ | rfl)
        · exact ⟨up h1, h2⟩
        · exact ⟨by simp [upd], r, hr, hk, rfl⟩
      · rintro ⟨h1, h2⟩
        by_cases he : r.i = e
        · exact .inr he
        · refine .inl ⟨?_, h2⟩
          simpa [upd, Ne.symm he] using h1
    · rcases (hdn' j).1 hj with (h | h) | rfl
      · exact up (I.dn j h)
      · exact up (hms j h)
      · simp [upd]
end
end Go.Dx
