/- A call told in a small memory of its own holds in a greater one. -/
import Derived.Test.YtnglipioaippoaaEyN
namespace Go.Dx
variable {V : Nm → Prop}
section
variable {P : Program} {n : Nat} {ren : Nat → Nat} {tv : IntKind → Nat → AV} {v : Nm} {B0 : List Fact}

theorem one_tr (h1 : ∀ i j, one (tv i j) = true) (x : AV) : one (trV ren tv x) = one x := by
  cases x <;> first | rfl | exact h1 _ _
theorem trVs_mem {l : List AV} {y : AV} (h : y ∈ trVs ren tv l) : ∃ x ∈ l, y = trV ren tv x := by
  obtain ⟨j, hj⟩ := List.getElem?_of_mem h
  rw [trVs_get] at hj
  obtain ⟨x, hx, rfl⟩ := Option.map_eq_some_iff.1 hj
  exact ⟨x, List.mem_of_getElem? hx, rfl⟩
theorem mem_trVs {l : List AV} {x : AV} (h : x ∈ l) : trV ren tv x ∈ trVs ren tv l := by
  obtain ⟨j, hj⟩ := List.getElem?_of_mem h
  exact List.mem_of_getElem? (i := j) (by rw [trVs_get, hj]; rfl)

theorem ren_ok {V0 : Nm → Prop} {f : FuncId} {args : List AV} {σ0 σ1 : Heap} {r : AV} (hc : CallIn V0 P f args σ0 (r, σ1)) (hv0 : V0 v) (hn : σ0.length = n) (hB : Valid v B0) {inv : Nat → Option Nat} (hinv : ∀ a id, inv a = some id ↔ id < n ∧ ren id = a)
    (ha : okVs n B0 args = true) (h0 : σ0.all (okB n B0) = true) (hr : okV n B0 r = true) (h1 : (σ1.take n).all (okB n B0) = true) {σ σ' : Heap} (hσ : ∀ id b, σ0[id]? = some b → σ[ren id]? = some (trB ren tv b))
    (hσ' : ∀ id b, id < n → σ1[id]? = some b → σ'[ren id]? = some (trB ren tv b)) (hrest : ∀ a, inv a = none → σ'[a]? = σ[a]?) (hlen : σ'.length = σ.length) (hone : ∀ i j, one (tv i j) = true)
    (hto : ∀ (k : Kn V) i j u, VRel k (tv i j) u → u = .int i (v j)) (hfrom : ∀ (k : Kn V) i j, VRel k (tv i j) (.int i (v j))) :
    CallIn V P f (trVs ren tv args) σ (trV ren tv r, σ') := by
  refine ⟨hc.1, fun k w us hR hv => ?_⟩
  have lt0 : ∀ {id : Nat} {b : Blk}, σ0[id]? = some b → id < n := fun h => by have := (List.getElem?_eq_some_iff.1 h).1; omega
  let k0 : Kn V0 := ⟨k.H, fun id ep => if id < n then k.μ (ren id) ep else none, v, hv0⟩
  have m0 : ∀ {id ep l}, k0.μ id ep = some l → id < n ∧ k.μ (ren id) ep = some l := fun {id ep l} h => by
    have h' : (if id < n then k.μ (ren id) ep else none) = some l := h
    split at h'
    · rename_i hlt; exact ⟨hlt, h'⟩
    · cases h'
  have m0' : ∀ {id ep}, id < n → k0.μ id ep = k.μ (ren id) ep := fun h => if_pos h
  have inj : ∀ {id id'}, id < n → id' < n → ren id = ren id' → id = id' := fun {id id'} h h' he => by
    have e1 := (hinv (ren id) id).2 ⟨h, rfl⟩
    have e2 := (hinv (ren id) id').2 ⟨h', he.symm⟩
    rw [e1] at e2; injection e2
  have low : ∀ {x : AV} {u : Value}, okV n B0 x = true → VRel k (trV ren tv x) u → VRel k0 x u := fun {x u} ho h => tr_to (k := k) (k0 := k0) (fun _ _ h => h) (fun id ep l hlt hm => by rw [m0' hlt]; exact hm) rfl hB (hto k) x ho h
  have hR0 : Rel k0 σ0 w := by
    refine ⟨fun id ty sz es live next hb => ?_, fun id id' ep ep' l l' hm hm' he => ?_, hR.H, fun id ep l hm => ?_, fun id ty sz es live next hb => ?_, fun id es hb => ?_⟩
    · have rr := hR.row (ren id) ty sz _ live next (hσ id _ hb)
      refine ⟨rr.pos, fun ep ext hl => by have := rr.eps ep ext hl; simpa using this, fun i e he => ?_, fun ep ext hl => ?_⟩
      · have := rr.len i (trVs ren tv e) (by rw [List.getElem?_map, he]; rfl)
        exact ⟨by rw [← this.1, trVs_length], fun x hx => by rw [← one_tr (ren := ren) hone]; exact this.2 _ (mem_trVs hx)⟩
      · obtain ⟨l, c, fz, hm, q1, q2, q3, q4, q5, q6, q7, q8⟩ := rr.loc ep ext hl
        refine ⟨l, c, fz, by rw [m0' (lt0 hb)]; exact hm, q1, q2, q3, q4, q5, q6, q7, fun p e j x hp1 hp2 he hx => ?_⟩
        obtain ⟨u, hu, hru⟩ := q8 p (trVs ren tv e) j (trV ren tv x) hp1 hp2 (by rw [List.getElem?_map, he]; rfl) (by rw [trVs_get, hx]; rfl)
        exact ⟨u, hu, low (ok_row h0 hb he hx) hru⟩
    · obtain ⟨e1, e2⟩ := hR.sep _ _ ep ep' l l' (m0 hm).2 (m0 hm').2 he
      exact ⟨inj (m0 hm).1 (m0 hm').1 e1, e2⟩
    · obtain ⟨q1, q2, q3⟩ := hR.fresh _ ep l (m0 hm).2
      exact ⟨q1, by have := (m0 hm).1; omega, fun ty sz es live next hb => q3 ty sz _ live next (hσ id _ hb)⟩
    · exact hR.nodup (ren id) ty sz _ live next (hσ id _ hb)
    · obtain ⟨l, ents, ck, hm, q1, q2, q3⟩ := hR.mp (ren id) _ (hσ id _ hb)
      refine ⟨l, ents, ck, by rw [m0' (lt0 hb)]; exact hm, q1, q2, by have := q3.1; simpa using this, fun j a e ha he => ?_⟩
      have := q3.2 j (trV ren tv a.1, trV ren tv a.2) e (by rw [List.getElem?_map, ha]; rfl) he
      have hlo := ok_mp h0 hb ha
      exact ⟨low hlo.1 this.1, low hlo.2 this.2⟩
  have hv0 : VRels k0 args us.toList := ⟨by rw [← hv.1, trVs_length], fun j x u hj hu => low (okVs_get ha hj) (hv.2 j _ u (by rw [trVs_get, hj]; rfl) hu)⟩
  refine Calls.mono (hc.2 k0 w us hR0 hv0) fun e w' he => ?_
  obtain ⟨k1, u, rfl, hru, hst⟩ := he
  have hru : VRel k1 r u := hru
  have hst : Step k0 σ0 w k1 σ1 w' := hst
  have hl1 : n ≤ σ1.length := by have := hst.fr.len; omega
  have hval : k1.val = v := hst.le.val
  let k2 : Kn V := ⟨k1.H, fun a ep => match inv a with
    | some id => k1.μ id ep
    | none => k.μ a ep, k.val, k.hv⟩
  have m2 : ∀ {a id ep}, inv a = some id → k2.μ a ep = k1.μ id ep := fun {a id ep} h => by show (match inv a with | some id => k1.μ id ep | none => k.μ a ep) = _; rw [h]
  have m2' : ∀ {a ep}, inv a = none → k2.μ a ep = k.μ a ep := fun {a ep} h => by show (match inv a with | some id => k1.μ id ep | none => k.μ a ep) = _; rw [h]
  have up2 : ∀ {x : AV} {u : Value}, VRel k1 x u → okV n B0 x = true → VRel k2 (trV ren tv x) u := fun h ho => tr_from (k1 := k1) (k2 := k2) (fun _ _ h => h) (fun id ep l hlt hm => by rw [m2 ((hinv _ _).2 ⟨hlt, rfl⟩)]; exact hm) hval (hfrom k2) h ho
  have get1 : ∀ {id : Nat}, id < n → ∃ b, σ1[id]? = some b := fun h => ⟨_, List.getElem?_eq_getElem (by omega)⟩
  have get0 : ∀ {id : Nat}, id < n → ∃ b, σ0[id]? = some b := fun h => ⟨_, List.getElem?_eq_getElem (by omega)⟩
  have t1 : ∀ {id : Nat} {b : Blk}, id < n → σ1[id]? = some b → (σ1.take n)[id]? = some b := fun h hb => by rw [List.getElem?_take, if_pos h]; exact hb
  have own : ∀ {b : Nat}, Owns k0 σ0 b → Owns k σ b := by
    rintro b ⟨id, ep, l, hm, hb, hrow⟩
    obtain ⟨b0, hb0⟩ := get0 (m0 hm).1
    exact ⟨ren id, ep, l, (m0 hm).2, hb, by rw [hσ id b0 hb0]; rw [hb0] at hrow; exact isRow_tr.2 hrow⟩
  have apart : ∀ {a ep l}, inv a = none → k.μ a ep = some l → ¬ Owns k0 σ0 l.cb := by
    rintro a ep l hia hm ⟨id', ep', l', hm', hb, _⟩
    have e1 := (hR.sep a (ren id') ep ep' l l' hm (m0 hm').2 hb.symm).1
    have e2 := (hinv a id').2 ⟨(m0 hm').1, e1.symm⟩
    rw [hia] at e2; cases e2
  have hle : k.Le k2 := ⟨fun b o h => hst.le.H b o h, fun a ep l hm => by
    cases hia : inv a with
    | some id =>
      obtain ⟨hid, hra⟩ := (hinv a id).1 hia
      rw [m2 hia]
      exact hst.le.μ id ep l (by rw [m0' hid, hra]; exact hm)
    | none => rw [m2' hia]; exact hm, rfl⟩
  have noH : ∀ {a ep l}, inv a = none → k.μ a ep = some l → k.H l.cb = none → k1.H l.cb = none := by
    intro a ep l hia hm hn1
    cases ho : k1.H l.cb with
    | none => rfl
    | some o =>
      rcases hst.fr.newH l.cb o ho with h | h | h
      · have h' : k.H l.cb = some o := h
        rw [hn1] at h'; cases h'
      · have := (hR.fresh a ep l hm).1; omega
      · exact absurd h (apart hia hm)
  have same : ∀ {a ep l}, inv a = none → k.μ a ep = some l → w'.heap[l.cb]? = w.heap[l.cb]? := fun hia hm => hst.fr.block _ (hR.fresh _ _ _ hm).1 (apart hia hm)
  have rowOf : ∀ {a id ty sz next} {es' : List (List AV)} {live : List (Nat × Nat)}, inv a = some id → σ'[a]? = some (.row ty sz es' live next) → ∃ es, σ1[id]? = some (.row ty sz es live next) ∧ es' = es.map (trVs ren tv) := by
    intro a id ty sz next es' live hia hb
    obtain ⟨hid, hra⟩ := (hinv a id).1 hia
    obtain ⟨b1, hb1⟩ := get1 hid
    have := hσ' id b1 hid hb1
    rw [hra, hb] at this
    injection this with this
    cases b1 with
    | hole => simp [trB] at this
    | mp es => simp [trB] at this
    | row ty1 sz1 es live1 next1 =>
      simp only [trB, Blk.row.injEq] at this
      obtain ⟨rfl, rfl, rfl, rfl, rfl⟩ := this
      exact ⟨es, hb1, rfl⟩
  have mpOf : ∀ {a id} {es' : List (AV × AV)}, inv a = some id → σ'[a]? = some (.mp es') → ∃ es, σ1[id]? = some (.mp es) ∧ es' = es.map fun p => (trV ren tv p.1, trV ren tv p.2) := by
    intro a id es' hia hb
    obtain ⟨hid, hra⟩ := (hinv a id).1 hia
    obtain ⟨b1, hb1⟩ := get1 hid
    have := hσ' id b1 hid hb1
    rw [hra, hb] at this
    injection this with this
    cases b1 with
    | hole => simp [trB] at this
    | row ty1 sz1 es live1 next1 => simp [trB] at this
    | mp es =>
      simp only [trB, Blk.mp.injEq] at this
      exact ⟨es, hb1, this⟩
  refine ⟨k2, u, rfl, up2 hru hr, hR, hle, ?_, ?_⟩
  · refine ⟨fun a ty sz es' live next hb => ?_, fun a a' ep ep' l l' hm hm' he => ?_, fun b o h => hst.rel.H b o h, fun a ep l hm => ?_, fun a ty sz es' live next hb => ?_, fun a es' hb => ?_⟩
    · cases hia : inv a with
      | some id =>
        obtain ⟨hid, hra⟩ := (hinv a id).1 hia
        obtain ⟨es, hb1, rfl⟩ := rowOf hia hb
        have rr := hst.rel.row id ty sz es live next hb1
        refine ⟨rr.pos, fun ep ext hl => by have := rr.eps ep ext hl; simpa using this, fun i e' he' => ?_, fun ep ext hl => ?_⟩
        · rw [List.getElem?_map] at he'
          obtain ⟨e, he, rfl⟩ := Option.map_eq_some_iff.1 he'
          have := rr.len i e he
          exact ⟨by rw [trVs_length]; exact this.1, fun y hy => by obtain ⟨x, hx, rfl⟩ := trVs_mem hy; rw [one_tr hone]; exact this.2 x hx⟩
        · obtain ⟨l, c, fz, hm, q1, q2, q3, q4, q5, q6, q7, q8⟩ := rr.loc ep ext hl
          refine ⟨l, c, fz, by rw [m2 hia]; exact hm, q1, q2, q3, q4, q5, q6, q7, fun p e' j y hp1 hp2 he' hy => ?_⟩
          rw [List.getElem?_map] at he'
          obtain ⟨e, he, rfl⟩ := Option.map_eq_some_iff.1 he'
          rw [trVs_get] at hy
          obtain ⟨x, hx, rfl⟩ := Option.map_eq_some_iff.1 hy
          obtain ⟨u, hu, hru⟩ := q8 p e j x hp1 hp2 he hx
          exact ⟨u, hu, up2 hru (ok_row h1 (t1 hid hb1) he hx)⟩
      | none =>
        rw [hrest a hia] at hb
        have rr := hR.row a ty sz es' live next hb
        refine ⟨rr.pos, rr.eps, rr.len, fun ep ext hl => ?_⟩
        obtain ⟨l, c, fz, hm, q1, q2, q3, q4, q5, q6, q7, q8⟩ := rr.loc ep ext hl
        refine ⟨l, c, fz, by rw [m2' hia]; exact hm, q1, q2, noH hia hm q3, by rw [same hia hm]; exact q4, q5, q6, q7, fun p e j x hp1 hp2 he hx => ?_⟩
        obtain ⟨u, hu, hru⟩ := q8 p e j x hp1 hp2 he hx
        exact ⟨u, hu, hru.mono hle⟩
    · have mixed : ∀ {a a' id ep ep' l l'}, inv a = some id → inv a' = none → k1.μ id ep = some l → k.μ a' ep' = some l' → l.cb = l'.cb → False := by
        intro a a' id ep ep' l l' hia hia' hm hm' he
        rcases hst.fr.newμ id ep l hm with h | h | h
        · have e1 := (hR.sep (ren id) a' ep ep' l l' (m0 h).2 hm' he).1
          have e2 := (hinv a' id).2 ⟨(m0 h).1, e1⟩
          rw [hia'] at e2; cases e2
        · have := (hR.fresh a' ep' l' hm').1; omega
        · rw [he] at h; exact apart hia' hm' h
      cases hia : inv a with
      | some id =>
        rw [m2 hia] at hm
        cases hia' : inv a' with
        | some id' =>
          rw [m2 hia'] at hm'
          obtain ⟨e1, e2⟩ := hst.rel.sep id id' ep ep' l l' hm hm' he
          exact ⟨by rw [← ((hinv a id).1 hia).2, ← ((hinv a' id').1 hia').2, e1], e2⟩
        | none => rw [m2' hia'] at hm'; exact (mixed hia hia' hm hm' he).elim
      | none =>
        rw [m2' hia] at hm
        cases hia' : inv a' with
        | some id' => rw [m2 hia'] at hm'; exact (mixed hia' hia hm' hm he.symm).elim
        | none => rw [m2' hia'] at hm'; exact hR.sep a a' ep ep' l l' hm hm' he
    · cases hia : inv a with
      | some id =>
        obtain ⟨hid, hra⟩ := (hinv a id).1 hia
        rw [m2 hia] at hm
        obtain ⟨q1, q2, q3⟩ := hst.rel.fresh id ep l hm
        obtain ⟨b1, hb1⟩ := get1 hid
        have hb := hσ' id b1 hid hb1
        rw [hra] at hb
        exact ⟨q1, (List.getElem?_eq_some_iff.1 hb).1, fun ty sz es' live next hb' => by
          obtain ⟨es, hb2, _⟩ := rowOf hia hb'
          exact q3 ty sz es live next hb2⟩
      | none =>
        rw [m2' hia] at hm
        obtain ⟨q1, q2, q3⟩ := hR.fresh a ep l hm
        exact ⟨Nat.lt_of_lt_of_le q1 hst.fr.size, by rw [hlen]; exact q2, fun ty sz es live next hb => q3 ty sz es live next (by rw [hrest a hia] at hb; exact hb)⟩
    · cases hia : inv a with
      | some id =>
        obtain ⟨es, hb1, _⟩ := rowOf hia hb
        exact hst.rel.nodup id ty sz es live next hb1
      | none => rw [hrest a hia] at hb; exact hR.nodup a ty sz es' live next hb
    · cases hia : inv a with
      | some id =>
        obtain ⟨hid, hra⟩ := (hinv a id).1 hia
        obtain ⟨es, hb1, rfl⟩ := mpOf hia hb
        obtain ⟨l, ents, ck, hm, q1, q2, q3⟩ := hst.rel.mp id es hb1
        refine ⟨l, ents, ck, by rw [m2 hia]; exact hm, q1, q2, by have := q3.1; simpa using this, fun j y e hy he => ?_⟩
        rw [List.getElem?_map] at hy
        obtain ⟨x, hx, rfl⟩ := Option.map_eq_some_iff.1 hy
        have := q3.2 j x e hx he
        have hlo := ok_mp h1 (t1 hid hb1) hx
        exact ⟨up2 this.1 hlo.1, up2 this.2 hlo.2⟩
      | none =>
        rw [hrest a hia] at hb
        obtain ⟨l, ents, ck, hm, q1, q2, q3⟩ := hR.mp a es' hb
        exact ⟨l, ents, ck, by rw [m2' hia]; exact hm, noH hia hm q1, by rw [same hia hm]; exact q2, q3.mono hle⟩
  · refine ⟨hst.fr.os, hst.fr.tape, hst.fr.output, hst.fr.size, fun b hb hno => hst.fr.block b hb fun h => hno (own h), fun b o h => ?_, fun a ep l hm => ?_, fun a hal hrow => ?_, by simp only [hlen]; exact Nat.le_refl _, fun a ep hal hno => ?_⟩
    · rcases hst.fr.newH b o h with h | h | h
      · exact .inl h
      · exact .inr (.inl h)
      · exact .inr (.inr (own h))
    · cases hia : inv a with
      | some id =>
        obtain ⟨hid, hra⟩ := (hinv a id).1 hia
        rw [m2 hia] at hm
        rcases hst.fr.newμ id ep l hm with h | h | h
        · exact .inl (by rw [← hra]; exact (m0 h).2)
        · exact .inr (.inl h)
        · exact .inr (.inr (own h))
      | none => rw [m2' hia] at hm; exact .inl hm
    · cases hia : inv a with
      | some id =>
        obtain ⟨hid, hra⟩ := (hinv a id).1 hia
        obtain ⟨b1, hb1⟩ := get1 hid
        obtain ⟨b0, hb0⟩ := get0 hid
        have hb := hσ' id b1 hid hb1
        rw [hra] at hb
        have hrow' : IsRow (some (trB ren tv b1)) := by rw [← hb]; exact hrow
        have h2 := hst.fr.rows id (by omega) (by rw [hb1]; exact isRow_tr.1 hrow')
        rw [hb0] at h2
        have hb' := hσ id b0 hb0
        rw [hra] at hb'
        rw [hb']; exact isRow_tr.2 h2
      | none => rw [← hrest a hia]; exact hrow
    · cases hia : inv a with
      | some id =>
        obtain ⟨hid, hra⟩ := (hinv a id).1 hia
        obtain ⟨b0, hb0⟩ := get0 hid
        have hb' := hσ id b0 hb0
        rw [hra] at hb'
        rw [m2 hia, hst.fr.hol id ep (by omega) (by rw [hb0]; intro h; exact hno (by rw [hb']; exact isRow_tr.2 h)), m0' hid, hra]
      | none => exact m2' hia
end
end Go.Dx
