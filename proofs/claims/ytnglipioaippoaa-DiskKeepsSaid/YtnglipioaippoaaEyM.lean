/- A call in a greater memory: what it does not come to stays. -/
import Derived.Test.YtnglipioaippoaaEyJ
namespace Go.Dx
variable {V : Nm → Prop}

mutual
def loV (n : Nat) : AV → Bool
  | .ptr id _ _ _ => Nat.blt id n
  | .sl id _ _ _ => Nat.blt id n
  | .map id => Nat.blt id n
  | .agg l => loVs n l
  | .tup l => loVs n l
  | .fn _ a b => loVs n a && loVs n b
  | .ifc _ v => loV n v
  | .mfn _ v => loV n v
  | .lsl _ _ _ _ cs => loVs n cs
  | .wptr cs => loVs n cs
  | _ => true
def loVs (n : Nat) : List AV → Bool
  | [] => true
  | v :: r => loV n v && loVs n r
end
def loB (n : Nat) : Blk → Bool
  | .hole => true
  | .row _ _ es _ _ => es.all (loVs n)
  | .mp es => es.all fun p => loV n p.1 && loV n p.2

theorem loVs_get {n : Nat} : ∀ {l : List AV} {j : Nat} {v : AV}, loVs n l = true → l[j]? = some v → loV n v = true
  | [], j, v, _, h => by simp at h
  | x :: r, 0, v, hl, h => by
    simp at h; subst h
    simp only [loVs, Bool.and_eq_true] at hl
    exact hl.1
  | x :: r, j + 1, v, hl, h => by
    simp only [loVs, Bool.and_eq_true] at hl
    exact loVs_get hl.2 (by simpa using h)

section
variable {P : Program} {n : Nat}
theorem lo_rel {k k' : Kn V} (hH : ∀ b o, k.H b = some o → k'.H b = some o) (hμ : ∀ id ep l, id < n → k.μ id ep = some l → k'.μ id ep = some l) (hval : k'.val = k.val) {v : AV} {u : Value} (h : VRel k v u) : loV n v = true → VRel k' v u := by
  have lt : ∀ {a b : Nat}, Nat.blt a b = true → a < b := fun h => Nat.lt_of_succ_le (Nat.le_of_ble_eq_true h)
  induction h with
  | und => intro _; exact .und
  | bool b => intro _; exact .bool b
  | int i n => intro _; exact .int i n
  | str s => intro _; exact .str s
  | nilp => intro _; exact .nilp
  | ptr id ep idx sub l hm hs => intro hl; simp only [loV] at hl; exact .ptr id ep idx sub l (hμ _ _ _ (lt hl) hm) hs
  | rptr cs b o c ty fz f hh hc hv => intro _; exact .rptr cs b o c ty fz f (hH _ _ hh) hc (fun j v hj => (hv j v hj).mono hH)
  | nils => intro _; exact .nils
  | emp a => intro _; exact .emp a
  | sl id ep off len l a cap hm hs hl ha hn => intro hlo; simp only [loV] at hlo; exact .sl id ep off len l a cap (hμ _ _ _ (lt hlo) hm) hs hl ha hn
  | ro full es u h => intro _; exact .ro full es u (h.mono hH)
  | agg cs us hl _ ih => intro hlo; simp only [loV] at hlo; exact .agg cs us hl fun j v u hv hu => ih j v u hv hu (loVs_get hlo hv)
  | tup cs us hl _ ih => intro hlo; simp only [loV] at hlo; exact .tup cs us hl fun j v u hv hu => ih j v u hv hu (loVs_get hlo hv)
  | nilm => intro _; exact .nilm
  | fn f fs cs us vs hf _ hc _ ih1 ih2 =>
    intro hlo
    simp only [loV, Bool.and_eq_true] at hlo
    exact .fn f fs cs us vs hf (fun j v u hv hu => ih1 j v u hv hu (loVs_get hlo.1 hv)) hc fun j v u hv hu => ih2 j v u hv hu (loVs_get hlo.2 hv)
  | nilf => intro _; exact .nilf
  | nili => intro _; exact .nili
  | map id l hm => intro hl; simp only [loV] at hl; exact .map id l (hμ _ _ _ (lt hl) hm)
  | ifc t v u _ ih => intro hl; simp only [loV] at hl; exact .ifc t v u (ih hl)
  | mfn m v u _ ih => intro hl; simp only [loV] at hl; exact .mfn m v u (ih hl)
  | tok B i j h => intro _; rw [← hval]; exact .tok B i j (by rw [hval]; exact h)
  | osl B j a len cap h hl => intro _; exact .osl B j a len cap (by rw [hval]; exact h) (by rw [hval]; exact hl)
  | stk E B j l s hp hE hB hl => intro _; exact .stk E B j l s (by rw [hval]; exact hp) (by rw [hval]; exact hE) (by rw [hval]; exact hB) (by rw [hval]; exact hl)
  | lsl B j n' i cs u len g hp hB hl hn hw _ ih => intro hlo; simp only [loV] at hlo; exact .lsl B j n' i cs u len g (by rw [hval]; exact hp.mono hH) (by rw [hval]; exact hB) (by rw [hval]; exact hl) (by rw [hval]; exact hn) (fun h => by rw [hval]; exact (hw h).mono hH) (fun q c hq => ih q c hq (loVs_get hlo hq))
  | lsq T B j n' u len hp hB hT hl hn => intro _; exact .lsq T B j n' u len (by rw [hval]; exact hp.mono hH) (by rw [hval]; exact hB) (by rw [hval]; exact hT) (by rw [hval]; exact hl) (by rw [hval]; exact hn)
  | wptr cs b o c ty fz g hh hc _ ih => intro hlo; simp only [loV] at hlo; exact .wptr cs b o c ty fz g (hH _ _ hh) hc (fun q c hq => ih q c hq (loVs_get hlo hq))

theorem lo_row {σ : Heap} (h : σ.all (loB n) = true) {id : Nat} {ty sz next : Nat} {es : List (List AV)} {live : List (Nat × Nat)} (hb : σ[id]? = some (.row ty sz es live next)) {p j : Nat} {e : List AV} {v : AV} (he : es[p]? = some e) (hv : e[j]? = some v) : loV n v = true := by
  have h1 := List.all_eq_true.1 h _ (List.mem_of_getElem? hb)
  simp only [loB] at h1
  exact loVs_get (List.all_eq_true.1 h1 e (List.mem_of_getElem? he)) hv
theorem lo_mp {σ : Heap} (h : σ.all (loB n) = true) {id : Nat} {es : List (AV × AV)} (hb : σ[id]? = some (.mp es)) {p : Nat} {e : AV × AV} (he : es[p]? = some e) : loV n e.1 = true ∧ loV n e.2 = true := by
  have h1 := List.all_eq_true.1 h _ (List.mem_of_getElem? hb)
  simp only [loB] at h1
  have := List.all_eq_true.1 h1 e (List.mem_of_getElem? he)
  simpa using this

theorem local_ok {f : FuncId} {args : List AV} {σ0 σ1 : Heap} {r : AV} (hc : CallIn V P f args σ0 (r, σ1)) (hn : σ0.length = n) (ha : loVs n args = true) (h0 : σ0.all (loB n) = true) (hr : loV n r = true) (h1 : (σ1.take n).all (loB n) = true) (rest : Heap) :
    CallIn V P f args (σ0 ++ rest) (r, σ1.take n ++ rest) := by
  refine ⟨hc.1, fun k w us hR hv => ?_⟩
  have look0 : ∀ {id : Nat}, id < n → (σ0 ++ rest)[id]? = σ0[id]? := fun h => List.getElem?_append_left (by omega)
  have lt0 : ∀ {id : Nat} {b : Blk}, σ0[id]? = some b → id < n := fun h => by have := (List.getElem?_eq_some_iff.1 h).1; omega
  let k0 : Kn V := ⟨k.H, fun id ep => if id < n then k.μ id ep else none, k.val, k.hv⟩
  have m0 : ∀ {id ep l}, k0.μ id ep = some l → id < n ∧ k.μ id ep = some l := fun {id ep l} h => by
    have h' : (if id < n then k.μ id ep else none) = some l := h
    split at h'
    · rename_i hlt; exact ⟨hlt, h'⟩
    · cases h'
  have m0' : ∀ {id ep}, id < n → k0.μ id ep = k.μ id ep := fun h => if_pos h
  have low : ∀ {v : AV} {u : Value}, VRel k v u → loV n v = true → VRel k0 v u := fun h hl => lo_rel (k := k) (k' := k0) (fun _ _ h => h) (fun id ep l hlt hm => by rw [m0' hlt]; exact hm) rfl h hl
  have hR0 : Rel k0 σ0 w := by
    refine ⟨fun id ty sz es live next hb => ?_, fun id id' ep ep' l l' hm hm' he => hR.sep id id' ep ep' l l' (m0 hm).2 (m0 hm').2 he, hR.H, fun id ep l hm => ?_, fun id ty sz es live next hb => hR.nodup id ty sz es live next (by rw [look0 (lt0 hb)]; exact hb), fun id es hb => ?_⟩
    · have rr := hR.row id ty sz es live next (by rw [look0 (lt0 hb)]; exact hb)
      refine ⟨rr.pos, rr.eps, rr.len, fun ep ext hl => ?_⟩
      obtain ⟨l, c, fz, hm, q1, q2, q3, q4, q5, q6, q7, q8⟩ := rr.loc ep ext hl
      refine ⟨l, c, fz, by rw [m0' (lt0 hb)]; exact hm, q1, q2, q3, q4, q5, q6, q7, fun p e j v hp1 hp2 he hv => ?_⟩
      obtain ⟨u, hu, hru⟩ := q8 p e j v hp1 hp2 he hv
      exact ⟨u, hu, low hru (lo_row h0 hb he hv)⟩
    · obtain ⟨q1, q2, q3⟩ := hR.fresh id ep l (m0 hm).2
      exact ⟨q1, by have := (m0 hm).1; omega, fun ty sz es live next hb => q3 ty sz es live next (by rw [look0 (lt0 hb)]; exact hb)⟩
    · obtain ⟨l, ents, ck, hm, q1, q2, q3⟩ := hR.mp id es (by rw [look0 (lt0 hb)]; exact hb)
      refine ⟨l, ents, ck, by rw [m0' (lt0 hb)]; exact hm, q1, q2, q3.1, fun j a e ha he => ?_⟩
      have := q3.2 j a e ha he
      have hlo := lo_mp h0 hb ha
      exact ⟨low this.1 hlo.1, low this.2 hlo.2⟩
  have hv0 : VRels k0 args us.toList := ⟨hv.1, fun j v u hj hu => low (hv.2 j v u hj hu) (loVs_get ha hj)⟩
  refine Calls.mono (hc.2 k0 w us hR0 hv0) fun e w' he => ?_
  obtain ⟨k1, u, rfl, hru, hst⟩ := he
  have hru : VRel k1 r u := hru
  have hst : Step k0 σ0 w k1 σ1 w' := hst
  have hlen : n ≤ σ1.length := by have := hst.fr.len; omega
  have hval : k1.val = k.val := hst.le.val
  let k2 : Kn V := ⟨k1.H, fun id ep => if id < n then k1.μ id ep else k.μ id ep, k.val, k.hv⟩
  have m2 : ∀ {id ep}, id < n → k2.μ id ep = k1.μ id ep := fun h => if_pos h
  have m2' : ∀ {id ep}, ¬ id < n → k2.μ id ep = k.μ id ep := fun h => if_neg h
  have up2 : ∀ {v : AV} {u : Value}, VRel k1 v u → loV n v = true → VRel k2 v u := fun h hl => lo_rel (k := k1) (k' := k2) (fun _ _ h => h) (fun id ep l hlt hm => by rw [m2 hlt]; exact hm) hval.symm h hl
  have tl : (σ1.take n).length = n := by simp; omega
  have look1 : ∀ {id : Nat}, id < n → (σ1.take n ++ rest)[id]? = σ1[id]? := fun h => by
    rw [List.getElem?_append_left (by omega), List.getElem?_take, if_pos h]
  have look2 : ∀ {id : Nat}, ¬ id < n → (σ1.take n ++ rest)[id]? = (σ0 ++ rest)[id]? := fun h => by
    rw [List.getElem?_append_right (by omega), List.getElem?_append_right (by omega), tl, hn]
  have own : ∀ {b : Nat}, Owns k0 σ0 b → Owns k (σ0 ++ rest) b := by
    rintro b ⟨id, ep, l, hm, hb, hrow⟩
    exact ⟨id, ep, l, (m0 hm).2, hb, by rw [look0 (m0 hm).1]; exact hrow⟩
  have apart : ∀ {id ep l}, ¬ id < n → k.μ id ep = some l → ¬ Owns k0 σ0 l.cb := by
    rintro id ep l hid hm ⟨id', ep', l', hm', hb, _⟩
    have := (hR.sep id id' ep ep' l l' hm (m0 hm').2 hb.symm).1
    have := (m0 hm').1
    omega
  have hle : k.Le k2 := ⟨fun b o h => hst.le.H b o h, fun id ep l hm => by
    by_cases hid : id < n
    · rw [m2 hid]; exact hst.le.μ id ep l (by rw [m0' hid]; exact hm)
    · rw [m2' hid]; exact hm, rfl⟩
  have noH : ∀ {id ep l}, ¬ id < n → k.μ id ep = some l → k.H l.cb = none → k1.H l.cb = none := by
    intro id ep l hid hm hn1
    cases ho : k1.H l.cb with
    | none => rfl
    | some o =>
      rcases hst.fr.newH l.cb o ho with h | h | h
      · have h' : k.H l.cb = some o := h
        rw [hn1] at h'; cases h'
      · have := (hR.fresh id ep l hm).1; omega
      · exact absurd h (apart hid hm)
  have same : ∀ {id ep l}, ¬ id < n → k.μ id ep = some l → w'.heap[l.cb]? = w.heap[l.cb]? := fun hid hm => hst.fr.block _ (hR.fresh _ _ _ hm).1 (apart hid hm)
  have t1 : ∀ {id : Nat} {b : Blk}, id < n → σ1[id]? = some b → (σ1.take n)[id]? = some b := fun h hb => by rw [List.getElem?_take, if_pos h]; exact hb
  refine ⟨k2, u, rfl, up2 hru hr, hR, hle, ?_, ?_⟩
  · refine ⟨fun id ty sz es live next hb => ?_, fun id id' ep ep' l l' hm hm' he => ?_, fun b o h => hst.rel.H b o h, fun id ep l hm => ?_, fun id ty sz es live next hb => ?_, fun id es hb => ?_⟩
    · by_cases hid : id < n
      · rw [look1 hid] at hb
        have rr := hst.rel.row id ty sz es live next hb
        refine ⟨rr.pos, rr.eps, rr.len, fun ep ext hl => ?_⟩
        obtain ⟨l, c, fz, hm, q1, q2, q3, q4, q5, q6, q7, q8⟩ := rr.loc ep ext hl
        refine ⟨l, c, fz, by rw [m2 hid]; exact hm, q1, q2, q3, q4, q5, q6, q7, fun p e j v hp1 hp2 he hv => ?_⟩
        obtain ⟨u, hu, hru⟩ := q8 p e j v hp1 hp2 he hv
        exact ⟨u, hu, up2 hru (lo_row h1 (t1 hid hb) he hv)⟩
      · rw [look2 hid] at hb
        have rr := hR.row id ty sz es live next hb
        refine ⟨rr.pos, rr.eps, rr.len, fun ep ext hl => ?_⟩
        obtain ⟨l, c, fz, hm, q1, q2, q3, q4, q5, q6, q7, q8⟩ := rr.loc ep ext hl
        refine ⟨l, c, fz, by rw [m2' hid]; exact hm, q1, q2, noH hid hm q3, by rw [same hid hm]; exact q4, q5, q6, q7, fun p e j v hp1 hp2 he hv => ?_⟩
        obtain ⟨u, hu, hru⟩ := q8 p e j v hp1 hp2 he hv
        exact ⟨u, hu, hru.mono hle⟩
    · have mixed : ∀ {id id' ep ep' l l'}, id < n → ¬ id' < n → k1.μ id ep = some l → k.μ id' ep' = some l' → l.cb = l'.cb → False := by
        intro id id' ep ep' l l' hid hid' hm hm' he
        rcases hst.fr.newμ id ep l hm with h | h | h
        · have := (hR.sep id id' ep ep' l l' (m0 h).2 hm' he).1
          omega
        · have := (hR.fresh id' ep' l' hm').1; omega
        · rw [he] at h; exact apart hid' hm' h
      by_cases hid : id < n <;> by_cases hid' : id' < n
      · rw [m2 hid] at hm; rw [m2 hid'] at hm'; exact hst.rel.sep id id' ep ep' l l' hm hm' he
      · rw [m2 hid] at hm; rw [m2' hid'] at hm'; exact (mixed hid hid' hm hm' he).elim
      · rw [m2' hid] at hm; rw [m2 hid'] at hm'; exact (mixed hid' hid hm' hm he.symm).elim
      · rw [m2' hid] at hm; rw [m2' hid'] at hm'; exact hR.sep id id' ep ep' l l' hm hm' he
    · by_cases hid : id < n
      · rw [m2 hid] at hm
        obtain ⟨q1, q2, q3⟩ := hst.rel.fresh id ep l hm
        exact ⟨q1, by simp only [List.length_append, tl]; omega, fun ty sz es live next hb => q3 ty sz es live next (by rw [look1 hid] at hb; exact hb)⟩
      · rw [m2' hid] at hm
        obtain ⟨q1, q2, q3⟩ := hR.fresh id ep l hm
        exact ⟨Nat.lt_of_lt_of_le q1 hst.fr.size, by simp only [List.length_append, tl, hn] at q2 ⊢; exact q2, fun ty sz es live next hb => q3 ty sz es live next (by rw [look2 hid] at hb; exact hb)⟩
    · by_cases hid : id < n
      · rw [look1 hid] at hb; exact hst.rel.nodup id ty sz es live next hb
      · rw [look2 hid] at hb; exact hR.nodup id ty sz es live next hb
    · by_cases hid : id < n
      · rw [look1 hid] at hb
        obtain ⟨l, ents, ck, hm, q1, q2, q3⟩ := hst.rel.mp id es hb
        refine ⟨l, ents, ck, by rw [m2 hid]; exact hm, q1, q2, q3.1, fun j a e ha he => ?_⟩
        have := q3.2 j a e ha he
        have hlo := lo_mp h1 (t1 hid hb) ha
        exact ⟨up2 this.1 hlo.1, up2 this.2 hlo.2⟩
      · rw [look2 hid] at hb
        obtain ⟨l, ents, ck, hm, q1, q2, q3⟩ := hR.mp id es hb
        exact ⟨l, ents, ck, by rw [m2' hid]; exact hm, noH hid hm q1, by rw [same hid hm]; exact q2, q3.mono hle⟩
  · refine ⟨hst.fr.os, hst.fr.tape, hst.fr.output, hst.fr.size, fun b hb hno => hst.fr.block b hb fun h => hno (own h), fun b o h => ?_, fun id ep l hm => ?_, fun id hid hrow => ?_, ?_, fun id ep hid hno => ?_⟩
    · rcases hst.fr.newH b o h with h | h | h
      · exact .inl h
      · exact .inr (.inl h)
      · exact .inr (.inr (own h))
    · by_cases hid : id < n
      · rw [m2 hid] at hm
        rcases hst.fr.newμ id ep l hm with h | h | h
        · exact .inl (m0 h).2
        · exact .inr (.inl h)
        · exact .inr (.inr (own h))
      · rw [m2' hid] at hm; exact .inl hm
    · by_cases hid' : id < n
      · rw [look1 hid'] at hrow
        rw [look0 hid']
        exact hst.fr.rows id (by omega) hrow
      · rw [look2 hid'] at hrow; exact hrow
    · simp only [List.length_append, tl, hn]; exact Nat.le_refl _
    · by_cases hid' : id < n
      · rw [m2 hid', ← m0' hid']
        exact hst.fr.hol id ep (by omega) (by rw [look0 hid'] at hno; exact hno)
      · exact m2' hid'
end
end Go.Dx
