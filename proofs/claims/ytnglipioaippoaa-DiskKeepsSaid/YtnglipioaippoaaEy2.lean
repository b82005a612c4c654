/- What an allocation and a write do to the plain memory and to the machine's. -/
import Derived.Test.YtnglipioaippoaaEy1
namespace Go.Dx
variable {V : Nm → Prop}

theorem Rel.lt {k : Kn V} {σ : Heap} {w : World} (h : Rel k σ w) {id ep : Nat} {l : Loc} (hm : k.μ id ep = some l) : l.cb < w.heap.size := (h.fresh id ep l hm).1
theorem Rel.none_of {k : Kn V} {σ : Heap} {w : World} (h : Rel k σ w) (id ep : Nat) (hid : σ.length ≤ id) : k.μ id ep = none := by
  cases hm : k.μ id ep with
  | none => rfl
  | some l => have := (h.fresh id ep l hm).2.1; omega
theorem Rel.none_ep {k : Kn V} {σ : Heap} {w : World} (h : Rel k σ w) {id ty sz : Nat} {es : List (List AV)} {live : List (Nat × Nat)} {next : Nat} (hb : σ[id]? = some (.row ty sz es live next)) (ep : Nat) (he : next ≤ ep) : k.μ id ep = none := by
  cases hm : k.μ id ep with
  | none => rfl
  | some l => have := ((h.fresh id ep l hm).2.2 _ _ _ _ _ hb).1; omega
theorem Rel.same {k : Kn V} {σ : Heap} {w : World} (h : Rel k σ w) (id ep ep' : Nat) (l l' : Loc) (h1 : k.μ id ep = some l) (h2 : k.μ id ep' = some l') (h3 : l.cb = l'.cb) : l = l' := (h.sep id id ep ep' l l' h1 h2 h3).2
theorem Rel.noH {k : Kn V} {σ : Heap} {w : World} (h : Rel k σ w) {b : Nat} (hb : w.heap.size ≤ b) : k.H b = none := by
  cases hk : k.H b with
  | none => rfl
  | some o => have := h.H _ _ hk; rw [Array.getElem?_eq_none hb] at this; cases this

theorem live_inj {live : List (Nat × Nat)} (h : (live.map (·.1)).Nodup) {ep e1 e2 : Nat} (h1 : (ep, e1) ∈ live) (h2 : (ep, e2) ∈ live) : e1 = e2 := by
  induction live with
  | nil => cases h1
  | cons x r ih =>
    simp only [List.map_cons, List.nodup_cons] at h
    rcases List.mem_cons.1 h1 with p1 | p1 <;> rcases List.mem_cons.1 h2 with p2 | p2
    · rw [← p1] at p2; injection p2 with _ p2; exact p2.symm
    · exact (h.1 (List.mem_map.2 ⟨(ep, e2), p2, by rw [← p1]⟩)).elim
    · exact (h.1 (List.mem_map.2 ⟨(ep, e1), p1, by rw [← p2]⟩)).elim
    · exact ih h.2 p1 p2

/-- A row of the call's own turns: its new elements, which epochs live; the machine's blocks that may have turned are that row's own, or new. -/
theorem Rel.upd {k k' : Kn V} {σ : Heap} {w w' : World} (hR : Rel k σ w) {id ty sz next : Nat} {es : List (List AV)} {live : List (Nat × Nat)} (hb : σ[id]? = some (.row ty sz es live next))
    {es' : List (List AV)} {live' : List (Nat × Nat)} {next' : Nat} (hn : next ≤ next') (hn1 : next' ≤ next + 1) (hH : k'.H = k.H) (hμ : ∀ i e, (i ≠ id ∨ e < next) → k'.μ i e = k.μ i e) (hval : k'.val = k.val)
    (os : w'.os = w.os) (tape : w'.tape = w.tape) (output : w'.output = w.output) (size : w.heap.size ≤ w'.heap.size)
    (blk : ∀ b, b < w.heap.size → (∀ ep ext l, (ep, ext) ∈ live → k.μ id ep = some l → l.cb ≠ b) → w'.heap[b]? = w.heap[b]?)
    (hnew : ∀ ep l, k'.μ id ep = some l → next ≤ ep → ep < next' ∧ l.cb < w'.heap.size ∧ l.sz = sz ∧ (w.heap.size ≤ l.cb ∨ ∃ ep0 ext0, (ep0, ext0) ∈ live ∧ k.μ id ep0 = some l))
    (hlive : ∀ ep ext, (ep, ext) ∈ live' → next ≤ ep ∨ ∃ ext0, (ep, ext0) ∈ live) (hnd : (live'.map (·.1)).Nodup)
    (hrow : RowOK k' w' id ty sz es' live' next') : Step k σ w k' (σ.set id (.row ty sz es' live' next')) w' := by
  have hle : k.Le k' := ⟨fun b o h => by rw [hH]; exact h, fun i e l h => by
    rw [hμ i e ?_]
    · exact h
    · by_cases hi : i = id
      · subst hi
        exact .inr ((hR.fresh i e l h).2.2 _ _ _ _ _ hb).1
      · exact .inl hi, hval⟩
  have hidlt : id < σ.length := (List.getElem?_eq_some_iff.1 hb).1
  have other : ∀ {id2 : Nat}, id2 ≠ id → ∀ ep l, k.μ id2 ep = some l → w'.heap[l.cb]? = w.heap[l.cb]? := by
    intro id2 hne ep l hm
    exact blk l.cb (hR.lt hm) fun ep0 ext0 l0 h0 hm0 hcb => hne (hR.sep id2 id ep ep0 l l0 hm hm0 hcb.symm).1
  have look : ∀ {id2 : Nat} {b2 : Blk}, (σ.set id (.row ty sz es' live' next'))[id2]? = some b2 → (id2 = id ∧ b2 = .row ty sz es' live' next') ∨ (id2 ≠ id ∧ σ[id2]? = some b2) := by
    intro id2 b2 h
    by_cases hi : id2 = id
    · subst hi
      rw [List.getElem?_set_self hidlt] at h
      injection h with h
      exact .inl ⟨rfl, h.symm⟩
    · rw [List.getElem?_set_ne (Ne.symm hi)] at h
      exact .inr ⟨hi, h⟩
  have hrowid : IsRow σ[id]? := .inl ⟨_, _, _, _, _, hb⟩
  -- an entry of what is known: as before; or new, in a new block or where another epoch of the row lies
  have key : ∀ {i e l}, k'.μ i e = some l → k.μ i e = some l ∨ (i = id ∧ next ≤ e ∧ (w.heap.size ≤ l.cb ∨ ∃ ep0 ext0, (ep0, ext0) ∈ live ∧ k.μ id ep0 = some l)) := by
    intro i e l hm
    by_cases hi : i = id
    · subst hi
      rcases Nat.lt_or_ge e next with hlt | hge
      · rw [hμ i e (.inr hlt)] at hm; exact .inl hm
      · exact .inr ⟨rfl, hge, (hnew e l hm hge).2.2.2⟩
    · rw [hμ i e (.inl hi)] at hm; exact .inl hm
  refine ⟨hR, hle, ⟨?_, ?_, ?_, ?_, ?_, ?_⟩, ⟨os, tape, output, size, ?_, ?_, ?_, ?_, ?_, ?_⟩⟩
  · intro id2 ty2 sz2 es2 live2 next2 h2
    rcases look h2 with ⟨rfl, hbb⟩ | ⟨hne, hbb⟩
    · injection hbb with q1 q2 q3 q4 q5
      subst q1; subst q2; subst q3; subst q4; subst q5
      exact hrow
    · have r := hR.row id2 ty2 sz2 es2 live2 next2 hbb
      refine ⟨r.pos, r.eps, r.len, fun ep ext hl => ?_⟩
      obtain ⟨l, c, fz, hm, h1, h2, h3, h4, h5, h6, h7, h8⟩ := r.loc ep ext hl
      refine ⟨l, c, fz, by rw [hμ id2 ep (.inl hne)]; exact hm, h1, h2, by rw [hH]; exact h3, by rw [other hne ep l hm]; exact h4, h5, h6, h7, fun p e j v hp1 hp2 he hv => ?_⟩
      obtain ⟨u, hu, hr⟩ := h8 p e j v hp1 hp2 he hv
      exact ⟨u, hu, hr.mono hle⟩
  · intro i1 i2 e1 e2 l1 l2 hm1 hm2 hcb
    rcases key hm1 with p1 | ⟨rfl, g1, p1⟩
    · rcases key hm2 with p2 | ⟨rfl, g2, p2⟩
      · exact hR.sep _ _ _ _ _ _ p1 p2 hcb
      · rcases p2 with p2 | ⟨ep0, ext0, _, p2⟩
        · have := hR.lt p1; omega
        · exact hR.sep _ _ _ _ _ _ p1 p2 hcb
    · rcases key hm2 with p2 | ⟨rfl, g2, p2⟩
      · rcases p1 with p1 | ⟨ep0, ext0, _, p1⟩
        · have := hR.lt p2; omega
        · exact hR.sep _ _ _ _ _ _ p1 p2 hcb
      · have q1 := (hnew e1 l1 hm1 g1).1
        have q2 := (hnew e2 l2 hm2 g2).1
        have : e1 = e2 := by omega
        subst this
        rw [hm1] at hm2
        injection hm2 with hm2
        exact ⟨rfl, hm2⟩
  · intro b o h
    rw [hH] at h
    have hw := hR.H b o h
    have hlt : b < w.heap.size := (Array.getElem?_eq_some_iff.1 hw).1
    rw [blk b hlt ?_]
    · exact hw
    · intro ep ext l hl hm hcb
      obtain ⟨l', c, fz, hm', _, _, hn', _⟩ := (hR.row id ty sz es live next hb).loc ep ext hl
      rw [hm] at hm'
      injection hm' with hm'
      subst hm'
      rw [hcb] at hn'
      rw [hn'] at h
      cases h
  · intro i e l hm
    by_cases hi : i = id
    · subst hi
      refine ⟨?_, by simpa using hidlt, fun ty2 sz2 es2 live2 next2 h2 => ?_⟩
      · rcases Nat.lt_or_ge e next with hlt | hge
        · rw [hμ i e (.inr hlt)] at hm
          exact Nat.lt_of_lt_of_le (hR.lt hm) size
        · exact (hnew e l hm hge).2.1
      · rw [List.getElem?_set_self hidlt] at h2
        injection h2 with h2
        injection h2 with q1 q2 q3 q4 q5
        subst q2; subst q5
        rcases Nat.lt_or_ge e next with hlt | hge
        · rw [hμ i e (.inr hlt)] at hm
          exact ⟨by omega, ((hR.fresh i e l hm).2.2 _ _ _ _ _ hb).2⟩
        · exact ⟨(hnew e l hm hge).1, (hnew e l hm hge).2.2.1⟩
    · rw [hμ i e (.inl hi)] at hm
      obtain ⟨h1, h2, h3⟩ := hR.fresh i e l hm
      exact ⟨Nat.lt_of_lt_of_le h1 size, by simpa using h2, fun ty2 sz2 es2 live2 next2 h4 => h3 ty2 sz2 es2 live2 next2 (by rw [List.getElem?_set_ne (Ne.symm hi)] at h4; exact h4)⟩
  · intro id2 ty2 sz2 es2 live2 next2 h2
    rcases look h2 with ⟨rfl, hbb⟩ | ⟨hne, hbb⟩
    · injection hbb with q1 q2 q3 q4 q5
      subst q4
      exact hnd
    · exact hR.nodup id2 ty2 sz2 es2 live2 next2 hbb
  · intro id2 es2 h2
    rcases look h2 with ⟨rfl, hbb⟩ | ⟨hne, hbb⟩
    · cases hbb
    · obtain ⟨l, ents, ck, m1, m2, m3, m4⟩ := hR.mp id2 es2 hbb
      exact ⟨l, ents, ck, by rw [hμ id2 0 (.inl hne)]; exact m1, by rw [hH]; exact m2, by rw [other hne 0 l m1]; exact m3, m4.mono hle⟩
  · intro b hb2 hn2
    exact blk b hb2 fun ep ext l _ hm hcb => hn2 ⟨id, ep, l, hm, hcb, hrowid⟩
  · intro b o h
    rw [hH] at h
    exact .inl h
  · intro i e l hm
    rcases key hm with h | ⟨_, _, h | ⟨ep0, ext0, _, h⟩⟩
    · exact .inl h
    · exact .inr (.inl h)
    · exact .inr (.inr ⟨id, ep0, l, h, rfl, hrowid⟩)
  · intro i hi hr
    by_cases h : i = id
    · subst h; exact hrowid
    · rw [List.getElem?_set_ne (Ne.symm h)] at hr; exact hr
  · simp
  · intro i e hi hr
    exact hμ i e (.inl fun h => hr (h ▸ hrowid))

/-- A new row. -/
def Kn.add (k : Kn V) (id ep : Nat) (l : Loc) : Kn V := ⟨k.H, fun i e => if i = id ∧ e = ep then some l else k.μ i e, k.val, k.hv⟩
theorem Kn.add_same (k : Kn V) (id ep : Nat) (l : Loc) : (k.add id ep l).μ id ep = some l := by simp [Kn.add]
theorem Kn.add_other (k : Kn V) {id ep i e : Nat} (l : Loc) (h : i ≠ id ∨ e ≠ ep) : (k.add id ep l).μ i e = k.μ i e := by
  simp only [Kn.add]
  rw [if_neg]
  rintro ⟨h1, h2⟩
  rcases h with h | h
  · exact h h1
  · exact h h2

/-- A new row at a place that is kept for it: what is known turns so. -/
structure Fits (k : Kn V) (w : World) (id : Nat) (b : Blk) (k' : Kn V) (w' : World) : Prop where
  go : ∀ σ : Heap, Rel k σ w → σ[id]? = some .hole → (∀ ep, k.μ id ep = none) → Rel k' (σ.set id b) w'
  le : (∀ ep, k.μ id ep = none) → k.Le k'
  os : w'.os = w.os
  tape : w'.tape = w.tape
  output : w'.output = w.output
  size : w.heap.size ≤ w'.heap.size
  block : ∀ b, b < w.heap.size → w'.heap[b]? = w.heap[b]?
  newH : ∀ b o, k'.H b = some o → k.H b = some o ∨ w.heap.size ≤ b
  newμ : ∀ i e l, k'.μ i e = some l → k.μ i e = some l ∨ w.heap.size ≤ l.cb
  hol : ∀ i e, i ≠ id → k'.μ i e = k.μ i e
  isRow : IsRow (some b)

theorem row_fits {k : Kn V} {w : World} (id : Nat) (ty sz : Nat) (es : List (List AV)) (c : Array Value) (cty : TypeId) (hp : 0 < sz) (hcty : cty = ty) (hlen : ∀ (i : Nat) (e : List AV), es[i]? = some e → e.length = sz ∧ ∀ v ∈ e, one v = true)
    (hn : es.length * sz ≤ c.size) (hc : ∀ (p : Nat) (e : List AV) (j : Nat) (v : AV), es[p]? = some e → e[j]? = some v → ∃ u, c[p * sz + j]? = some u ∧ VRel k v u) :
    Fits k w id (.row ty sz es [(0, es.length)] 1) (k.add id 0 ⟨w.heap.size, 0, sz, c.size⟩) (w.alloc (.cells c cty)) := by
  subst hcty
  have hle : (∀ ep, k.μ id ep = none) → k.Le (k.add id 0 ⟨w.heap.size, 0, sz, c.size⟩) := fun hnone => ⟨fun _ _ h => h, fun i e l h => by
    by_cases hi : i = id ∧ e = 0
    · rw [hi.1, hnone] at h; cases h
    · rw [Kn.add_other]; exact h
      by_cases h1 : i = id
      · exact .inr fun h2 => hi ⟨h1, h2⟩
      · exact .inl h1, rfl⟩
  have old : ∀ b, b < w.heap.size → (w.alloc (.cells c cty)).heap[b]? = w.heap[b]? := fun b hb => by
    show (w.heap.push _)[b]? = _
    rw [Array.getElem?_push, if_neg (by omega)]
  have key : ∀ {i e l}, (k.add id 0 ⟨w.heap.size, 0, sz, c.size⟩).μ i e = some l → k.μ i e = some l ∨ (i = id ∧ e = 0 ∧ l = ⟨w.heap.size, 0, sz, c.size⟩) := by
    intro i e l hm
    by_cases hi : i = id ∧ e = 0
    · obtain ⟨rfl, rfl⟩ := hi
      rw [Kn.add_same] at hm; injection hm with hm
      exact .inr ⟨rfl, rfl, hm.symm⟩
    · rw [Kn.add_other _ _ (by by_cases h : i = id; exact .inr fun h' => hi ⟨h, h'⟩; exact .inl h)] at hm
      exact .inl hm
  refine ⟨fun σ hR hhole hnone => ?_, hle, rfl, rfl, rfl, by simp, old, fun b o h => .inl h, fun i e l hm => ?_, fun i e hi => Kn.add_other _ _ (.inl hi), .inl ⟨_, _, _, _, _, rfl⟩⟩
  · have hle := hle hnone
    have hidlt : id < σ.length := (List.getElem?_eq_some_iff.1 hhole).1
    have look : ∀ {id2 : Nat} {b2 : Blk}, (σ.set id (Blk.row cty sz es [(0, es.length)] 1))[id2]? = some b2 → (id2 ≠ id ∧ σ[id2]? = some b2) ∨ (id2 = id ∧ b2 = .row cty sz es [(0, es.length)] 1) := by
      intro id2 b2 h
      by_cases hi : id2 = id
      · subst hi; rw [List.getElem?_set_self hidlt] at h; injection h with h; exact .inr ⟨rfl, h.symm⟩
      · rw [List.getElem?_set_ne (Ne.symm hi)] at h; exact .inl ⟨hi, h⟩
    refine ⟨?_, ?_, ?_, ?_, ?_, ?_⟩
    · intro id2 ty2 sz2 es2 live2 next2 h2
      rcases look h2 with ⟨hne, hbb⟩ | ⟨rfl, hbb⟩
      · have r := hR.row id2 ty2 sz2 es2 live2 next2 hbb
        refine ⟨r.pos, r.eps, r.len, fun ep ext hl => ?_⟩
        obtain ⟨l, c2, fz, hm, h1, h2, h3, h4, h5, h6, h7, h8⟩ := r.loc ep ext hl
        refine ⟨l, c2, fz, hle.μ _ _ _ hm, h1, h2, h3, by rw [old _ (hR.lt hm)]; exact h4, h5, h6, h7, fun p e j v hp1 hp2 he hv => ?_⟩
        obtain ⟨u, hu, hr⟩ := h8 p e j v hp1 hp2 he hv
        exact ⟨u, hu, hr.mono hle⟩
      · injection hbb with q1 q2 q3 q4 q5
        subst q1; subst q2; subst q3; subst q4; subst q5
        refine ⟨hp, fun ep ext h => ?_, hlen, fun ep ext h => ?_⟩
        · simp at h; omega
        · simp at h
          obtain ⟨rfl, rfl⟩ := h
          refine ⟨_, c, (0, 0), Kn.add_same _ _ _ _, rfl, Nat.zero_le _, hR.noH (Nat.le_refl _), Array.getElem?_push_size, rfl, .inl rfl, by simpa using hn, fun p e j v _ _ he hv => ?_⟩
          obtain ⟨u, hu, hr⟩ := hc p e j v he hv
          exact ⟨u, by simpa using hu, hr.mono hle⟩
    · intro i1 i2 e1 e2 l1 l2 hm1 hm2 hcb
      rcases key hm1 with p1 | ⟨rfl, rfl, rfl⟩
      · rcases key hm2 with p2 | ⟨rfl, rfl, rfl⟩
        · exact hR.sep _ _ _ _ _ _ p1 p2 hcb
        · have := hR.lt p1; simp at hcb; omega
      · rcases key hm2 with p2 | ⟨rfl, rfl, rfl⟩
        · have := hR.lt p2; simp at hcb; omega
        · exact ⟨rfl, rfl⟩
    · intro b o h
      have hw := hR.H b o h
      rw [old b (Array.getElem?_eq_some_iff.1 hw).1]
      exact hw
    · intro i e l hm
      rcases key hm with p | ⟨rfl, rfl, rfl⟩
      · obtain ⟨h1, h2, h3⟩ := hR.fresh i e l p
        refine ⟨by simp; omega, by simpa using h2, fun ty2 sz2 es2 live2 next2 h4 => ?_⟩
        rcases look h4 with ⟨_, h5⟩ | ⟨rfl, h5⟩
        · exact h3 _ _ _ _ _ h5
        · rw [hnone] at p; cases p
      · refine ⟨by simp, by simpa using hidlt, fun ty2 sz2 es2 live2 next2 h4 => ?_⟩
        rcases look h4 with ⟨h5, _⟩ | ⟨_, h5⟩
        · exact absurd rfl h5
        · injection h5 with q1 q2 q3 q4 q5; subst q2; subst q5; exact ⟨by omega, rfl⟩
    · intro id2 ty2 sz2 es2 live2 next2 h2
      rcases look h2 with ⟨_, hbb⟩ | ⟨rfl, hbb⟩
      · exact hR.nodup id2 ty2 sz2 es2 live2 next2 hbb
      · injection hbb with q1 q2 q3 q4 q5
        subst q4
        simp
    · intro id2 es2 h2
      rcases look h2 with ⟨_, hbb⟩ | ⟨rfl, hbb⟩
      · obtain ⟨l, ents, ck, m1, m2, m3, m4⟩ := hR.mp id2 es2 hbb
        exact ⟨l, ents, ck, hle.μ _ _ _ m1, m2, by rw [old _ (hR.lt m1)]; exact m3, m4.mono hle⟩
      · cases hbb
  · rcases key hm with p | ⟨rfl, rfl, rfl⟩
    · exact .inl p
    · exact .inr (Nat.le_refl _)

theorem Rel.hole {k : Kn V} {σ : Heap} {w : World} (hR : Rel k σ w) : Rel k (σ ++ [.hole]) w := by
  have look : ∀ {id2 : Nat} {b : Blk}, b ≠ .hole → (σ ++ [Blk.hole])[id2]? = some b → σ[id2]? = some b := by
    intro id2 b hb h
    rcases Nat.lt_or_ge id2 σ.length with h1 | h1
    · rw [List.getElem?_append_left h1] at h; exact h
    · rw [List.getElem?_append_right h1] at h
      rcases Nat.eq_zero_or_pos (id2 - σ.length) with h2 | h2
      · rw [h2] at h; simp at h; exact absurd h.symm hb
      · rw [List.getElem?_eq_none (by simp; omega)] at h; cases h
  exact ⟨fun id ty sz es live next h => hR.row id ty sz es live next (look (by simp) h), hR.sep, hR.H, fun id ep l hm => by
    obtain ⟨h1, h2, h3⟩ := hR.fresh id ep l hm
    exact ⟨h1, by simp; omega, fun ty sz es live next h => h3 ty sz es live next (look (by simp) h)⟩, fun id ty sz es live next h => hR.nodup id ty sz es live next (look (by simp) h), fun id es h => hR.mp id es (look (by simp) h)⟩

theorem Fits.push {k k' : Kn V} {σ : Heap} {w w' : World} {b : Blk} (hR : Rel k σ w) (h : Fits k w σ.length b k' w') : Step k σ w k' (σ ++ [b]) w' := by
  have hnone := fun ep => hR.none_of σ.length ep (Nat.le_refl _)
  have hg := h.go (σ ++ [.hole]) hR.hole (by simp) hnone
  have hset : (σ ++ [Blk.hole]).set σ.length b = σ ++ [b] := by
    rw [List.set_append_right _ _ (Nat.le_refl _)]; simp
  rw [hset] at hg
  exact ⟨hR, h.le hnone, hg, ⟨h.os, h.tape, h.output, h.size, fun b' hb _ => h.block b' hb, fun b' o hb => by
    rcases h.newH b' o hb with h1 | h1
    · exact .inl h1
    · exact .inr (.inl h1), fun i e l hm => by
    rcases h.newμ i e l hm with h1 | h1
    · exact .inl h1
    · exact .inr (.inl h1), fun id hi hr => by rw [List.getElem?_append_left hi] at hr; exact hr, by simp, fun i e hi _ => h.hol i e (by omega)⟩⟩

theorem Rel.push {k : Kn V} {σ : Heap} {w : World} (hR : Rel k σ w) (ty sz : Nat) (es : List (List AV)) (c : Array Value) (hp : 0 < sz) (hlen : ∀ (i : Nat) (e : List AV), es[i]? = some e → e.length = sz ∧ ∀ v ∈ e, one v = true)
    (hn : es.length * sz ≤ c.size) (hc : ∀ (p : Nat) (e : List AV) (j : Nat) (v : AV), es[p]? = some e → e[j]? = some v → ∃ u, c[p * sz + j]? = some u ∧ VRel k v u) :
    Step k σ w (k.add σ.length 0 ⟨w.heap.size, 0, sz, c.size⟩) (σ ++ [.row ty sz es [(0, es.length)] 1]) (w.alloc (.cells c ty)) :=
  (row_fits σ.length ty sz es c ty hp rfl hlen hn hc).push hR
end Go.Dx
