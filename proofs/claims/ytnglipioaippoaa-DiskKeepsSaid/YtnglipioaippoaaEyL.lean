/- Maps that are made and turned. -/
import Derived.Test.YtnglipioaippoaaEyK
namespace Go.Dx
variable {V : Nm → Prop}
section
variable {P : Program} {k : Kn V} {σ : Heap} {w : World}

theorem map_fits (id : Nat) : Fits k w id (.mp []) (k.add id 0 ⟨w.heap.size, 0, 0, 0⟩) (w.alloc (.map #[] 0)) := by
  have hle : (∀ ep, k.μ id ep = none) → k.Le (k.add id 0 ⟨w.heap.size, 0, 0, 0⟩) := fun hnone => ⟨fun _ _ h => h, fun i e l h => by
    by_cases hi : i = id ∧ e = 0
    · rw [hi.1, hnone] at h; cases h
    · rw [Kn.add_other]; exact h
      by_cases h1 : i = id
      · exact .inr fun h2 => hi ⟨h1, h2⟩
      · exact .inl h1, rfl⟩
  have old : ∀ b, b < w.heap.size → (w.alloc (.map #[] 0)).heap[b]? = w.heap[b]? := fun b hb => by
    show (w.heap.push _)[b]? = _
    rw [Array.getElem?_push, if_neg (by omega)]
  have key : ∀ {i e l}, (k.add id 0 ⟨w.heap.size, 0, 0, 0⟩).μ i e = some l → k.μ i e = some l ∨ (i = id ∧ e = 0 ∧ l = ⟨w.heap.size, 0, 0, 0⟩) := by
    intro i e l hm
    by_cases hi : i = id ∧ e = 0
    · obtain ⟨rfl, rfl⟩ := hi
      rw [Kn.add_same] at hm; injection hm with hm
      exact .inr ⟨rfl, rfl, hm.symm⟩
    · rw [Kn.add_other _ _ (by by_cases h : i = id; exact .inr fun h' => hi ⟨h, h'⟩; exact .inl h)] at hm
      exact .inl hm
  refine ⟨fun σ hR hhole hnone => ?_, hle, rfl, rfl, rfl, by simp, old, fun b o h => .inl h, fun i e l hm => ?_, fun i e hi => Kn.add_other _ _ (.inl hi), .inr ⟨_, rfl⟩⟩
  · have hle := hle hnone
    have hidlt : id < σ.length := (List.getElem?_eq_some_iff.1 hhole).1
    have look : ∀ {id2 : Nat} {b2 : Blk}, (σ.set id (Blk.mp []))[id2]? = some b2 → (id2 ≠ id ∧ σ[id2]? = some b2) ∨ (id2 = id ∧ b2 = .mp []) := by
      intro id2 b2 h
      by_cases hi : id2 = id
      · subst hi; rw [List.getElem?_set_self hidlt] at h; injection h with h; exact .inr ⟨rfl, h.symm⟩
      · rw [List.getElem?_set_ne (Ne.symm hi)] at h; exact .inl ⟨hi, h⟩
    refine ⟨?_, ?_, ?_, ?_, ?_, ?_⟩
    · intro id2 ty2 sz2 es2 live2 next2 h2
      rcases look h2 with ⟨hne, hbb⟩ | ⟨rfl, hbb⟩
      · have r := hR.row id2 ty2 sz2 es2 live2 next2 hbb
        refine ⟨r.pos, r.eps, r.len, fun ep ext hl => ?_⟩
        obtain ⟨l, c2, fz, hm, h1, h2, h3, h4, h5, h6, h7, h8⟩ := r.loc ep ext hl
        refine ⟨l, c2, fz, hle.μ _ _ _ hm, h1, h2, h3, by rw [old _ (hR.lt hm)]; exact h4, h5, h6, h7, fun p e j v hp1 hp2 he hv => ?_⟩
        obtain ⟨u, hu, hr⟩ := h8 p e j v hp1 hp2 he hv
        exact ⟨u, hu, hr.mono hle⟩
      · cases hbb
    · intro i1 i2 e1 e2 l1 l2 hm1 hm2 hcb
      rcases key hm1 with p1 | ⟨rfl, rfl, rfl⟩
      · rcases key hm2 with p2 | ⟨rfl, rfl, rfl⟩
        · exact hR.sep _ _ _ _ _ _ p1 p2 hcb
        · have := hR.lt p1; simp at hcb; omega
      · rcases key hm2 with p2 | ⟨rfl, rfl, rfl⟩
        · have := hR.lt p2; simp at hcb; omega
        · exact ⟨rfl, rfl⟩
    · intro b o h
      have hw := hR.H b o h
      rw [old b (Array.getElem?_eq_some_iff.1 hw).1]
      exact hw
    · intro i e l hm
      rcases key hm with p | ⟨rfl, rfl, rfl⟩
      · obtain ⟨h1, h2, h3⟩ := hR.fresh i e l p
        refine ⟨by simp; omega, by simpa using h2, fun ty2 sz2 es2 live2 next2 h4 => ?_⟩
        rcases look h4 with ⟨_, h5⟩ | ⟨rfl, h5⟩
        · exact h3 _ _ _ _ _ h5
        · cases h5
      · refine ⟨by simp, by simpa using hidlt, fun ty2 sz2 es2 live2 next2 h4 => ?_⟩
        rcases look h4 with ⟨h5, _⟩ | ⟨_, h5⟩
        · exact absurd rfl h5
        · cases h5
    · intro id2 ty2 sz2 es2 live2 next2 h2
      rcases look h2 with ⟨_, hbb⟩ | ⟨rfl, hbb⟩
      · exact hR.nodup id2 ty2 sz2 es2 live2 next2 hbb
      · cases hbb
    · intro id2 es2 h2
      rcases look h2 with ⟨_, hbb⟩ | ⟨rfl, hbb⟩
      · obtain ⟨l, ents, ck, m1, m2, m3, m4⟩ := hR.mp id2 es2 hbb
        exact ⟨l, ents, ck, hle.μ _ _ _ m1, m2, by rw [old _ (hR.lt m1)]; exact m3, m4.mono hle⟩
      · injection hbb with hbb; subst hbb
        exact ⟨_, #[], 0, Kn.add_same _ _ _ _, hR.noH (Nat.le_refl _), Array.getElem?_push_size, rfl, fun j a e ha => by simp at ha⟩
  · rcases key hm with p | ⟨rfl, rfl, rfl⟩
    · exact .inl p
    · exact .inr (Nat.le_refl _)

/-- A map turns. -/
theorem map_upd (hR : Rel k σ w) {id : Nat} {es es' : List (AV × AV)} (hb : σ[id]? = some (.mp es)) {l : Loc} {ents ents' : Array MapEntry} {ck ck' : Nat} (hm : k.μ id 0 = some l) (hh : w.heap[l.cb]? = some (.map ents ck)) (hM : MRel k es' ents'.toList) :
    Step k σ w k (σ.set id (.mp es')) { w with heap := w.heap.setIfInBounds l.cb (.map ents' ck') } := by
  obtain ⟨hs1, hs2⟩ := MapKept.heap_set (o' := .map ents' ck') hh
  have hidlt : id < σ.length := (List.getElem?_eq_some_iff.1 hb).1
  have look : ∀ {id2 : Nat} {b2 : Blk}, (σ.set id (Blk.mp es'))[id2]? = some b2 → (id2 ≠ id ∧ σ[id2]? = some b2) ∨ (id2 = id ∧ b2 = .mp es') := by
    intro id2 b2 h
    by_cases hi : id2 = id
    · subst hi; rw [List.getElem?_set_self hidlt] at h; injection h with h; exact .inr ⟨rfl, h.symm⟩
    · rw [List.getElem?_set_ne (Ne.symm hi)] at h; exact .inl ⟨hi, h⟩
  obtain ⟨l0, ents0, ck0, m1, m2, _, _⟩ := hR.mp id es hb
  rw [hm] at m1; injection m1 with m1; subst m1
  have other : ∀ {id2 ep : Nat} {l2 : Loc}, id2 ≠ id → k.μ id2 ep = some l2 → (w.heap.setIfInBounds l.cb (.map ents' ck'))[l2.cb]? = w.heap[l2.cb]? := fun hne h2 => hs2 _ fun hcb => hne (hR.sep _ _ _ _ _ _ h2 hm hcb).1
  have hrow : IsRow σ[id]? := .inr ⟨_, hb⟩
  refine ⟨hR, .refl k, ⟨?_, hR.sep, ?_, ?_, ?_, ?_⟩, ⟨rfl, rfl, rfl, by simp, ?_, fun b o h => .inl h, fun i e l h => .inl h, ?_, by simp, fun i e _ _ => rfl⟩⟩
  · intro id2 ty2 sz2 es2 live2 next2 h2
    rcases look h2 with ⟨hne, hbb⟩ | ⟨rfl, hbb⟩
    · have r := hR.row id2 ty2 sz2 es2 live2 next2 hbb
      refine ⟨r.pos, r.eps, r.len, fun ep ext hl => ?_⟩
      obtain ⟨l2, c2, fz, hm2, h1, h2, h3, h4, h5⟩ := r.loc ep ext hl
      exact ⟨l2, c2, fz, hm2, h1, h2, h3, (other hne hm2).trans h4, h5⟩
    · cases hbb
  · intro b o h
    have hw := hR.H b o h
    refine (hs2 b fun hcb => ?_).trans hw
    subst hcb
    rw [m2] at h; cases h
  · intro i e l2 h
    obtain ⟨h1, h2, h3⟩ := hR.fresh i e l2 h
    refine ⟨by simpa using h1, by simpa using h2, fun ty2 sz2 es2 live2 next2 h4 => ?_⟩
    rcases look h4 with ⟨_, h5⟩ | ⟨_, h5⟩
    · exact h3 _ _ _ _ _ h5
    · cases h5
  · intro id2 ty2 sz2 es2 live2 next2 h2
    rcases look h2 with ⟨_, hbb⟩ | ⟨rfl, hbb⟩
    · exact hR.nodup id2 ty2 sz2 es2 live2 next2 hbb
    · cases hbb
  · intro id2 es2 h2
    rcases look h2 with ⟨hne, hbb⟩ | ⟨rfl, hbb⟩
    · obtain ⟨l2, ents2, ck2, q1, q2, q3, q4⟩ := hR.mp id2 es2 hbb
      exact ⟨l2, ents2, ck2, q1, q2, (other hne q1).trans q3, q4⟩
    · injection hbb with hbb; subst hbb
      exact ⟨l, ents', ck', hm, m2, hs1, hM⟩
  · intro b _ hn
    exact hs2 b fun hcb => hn ⟨id, 0, l, hm, hcb.symm, hrow⟩
  · intro i hi hr
    by_cases h : i = id
    · subst h; exact hrow
    · rw [List.getElem?_set_ne (Ne.symm h)] at hr; exact hr

def makeMapM (P : Program) (id : Nat) (t : TypeId) (r : Option AV) : Option (AV × Option Blk) :=
  match r with
  | none => some (.map id, some (.mp []))
  | some (.int _ _) => match P.underlying t with
    | some (.map _ _) => some (.map id, some (.mp []))
    | _ => none
  | _ => none
theorem makeMap_ok {id : Nat} {t : TypeId} {r : Option AV} {ur : Option Value} (h1 : ∀ v, r = some v → ∃ u, ur = some u ∧ VRel k v u) (h2 : r = none → ur = none) {x : AV × Option Blk} (h : makeMapM P id t r = some x) : MkOk P k σ w id (Instr.makeMap t ur) x := by
  have fin : x = (.map id, some (.mp [])) → (Instr.makeMap t ur).run P w = .ok (.map (some w.heap.size)) (w.alloc (.map #[] 0)) → MkOk P k σ w id (Instr.makeMap t ur) x := by
    rintro rfl hrun
    exact ⟨_, _, _, hrun, .map id ⟨w.heap.size, 0, 0, 0⟩ (Kn.add_same _ _ _ _), map_fits id⟩
  unfold makeMapM at h
  split at h
  · injection h with h
    refine fin h.symm ?_
    rw [h2 rfl]
    simp [Instr.makeMap, newObj, Sem.run]
  · rename_i kk nn
    split at h
    · rename_i kt et ht
      injection h with h
      refine fin h.symm ?_
      obtain ⟨u, rfl, hu⟩ := h1 _ rfl
      cases hu
      simp [Instr.makeMap, newObj, Sem.run, run_underlying ht, asInt, asIntOf]
    · cases h
  · cases h

def mapUpdateA (P : Program) (σ : Heap) (t : TypeId) (m i x : AV) : Option Heap :=
  match P.underlying t, m with
  | some (.map kt _), .map id => match P.underlying kt, σ[id]? with
    | some d, some (.mp es) => if plainKey d i then
        match findA d i es 0 with
        | some (some (j, _)) => some (σ.set id (.mp (es.set j (i, x))))
        | some none => some (σ.set id (.mp (es ++ [(i, x)])))
        | none => none
      else none
    | _, _ => none
  | _, _ => none
theorem mapUpdate_ok (hR : Rel k σ w) {t : TypeId} {m i x : AV} {um ui ux : Value} (hm : VRel k m um) (hi : VRel k i ui) (hx : VRel k x ux) {σ' : Heap} (h : mapUpdateA P σ t m i x = some σ') : ∃ w', (Instr.mapUpdate t um ui ux).run P w = .ok () w' ∧ Step k σ w k σ' w' := by
  unfold mapUpdateA at h
  split at h
  · rename_i kt et id ht
    split at h
    · rename_i d es hd hb
      split at h
      · rename_i hk
        have hkey := plainKey_spec hk hi
        cases hm with
        | map _ l hml =>
        obtain ⟨l', ents, ck, m1, m2, m3, m4⟩ := hR.mp _ _ hb
        rw [hml] at m1; injection m1 with m1; subst m1
        split at h
        · rename_i j v hf
          injection h with h; subst h
          rcases findA_spec hi hf m4 with ⟨h1, _⟩ | ⟨j', v', e, h1, h2, h3, h4, _, h6⟩
          · cases h1
          · injection h1 with h1; injection h1 with h1 _
            simp only [Nat.zero_add] at h1 h2; subst h1
            have hj : ents[j]? = some e := by simpa using h3
            refine ⟨_, ?_, map_upd hR hb hml m3 (ents' := ents.modify j fun e => { e with key := ui, val := ux }) (ck' := ck) ?_⟩
            · simp [Instr.mapUpdate, run_underlying ht, MapKept.run_getObj_map m3, MapKept.run_checkKey hd hkey, MapKept.run_findKey hd h2, hj, h4, MapKept.run_keyThatStays hkey, MapKept.run_setObj_map _ m3]
            · refine ⟨by simpa using m4.1, fun q a e' ha he' => ?_⟩
              simp only [Array.toList_modify] at he'
              by_cases hq : j = q
              · subst hq
                rw [List.getElem?_set_self h6] at ha
                injection ha with ha; subst ha
                rw [List.getElem?_modify_eq] at he'
                simp only [h3] at he'
                injection he' with he'; subst he'
                exact ⟨hi, hx⟩
              · rw [List.getElem?_set_ne hq] at ha
                rw [List.getElem?_modify] at he'
                exact m4.2 q a e' ha (by simpa [hq] using he')
        · rename_i hf
          injection h with h; subst h
          rcases findA_spec hi hf m4 with ⟨_, h2⟩ | ⟨j', v', e, h1, _⟩
          · refine ⟨_, ?_, map_upd hR hb hml m3 (ents' := ents.push { key := ui, val := ux, born := ck }) (ck' := ck + 1) ?_⟩
            · simp [Instr.mapUpdate, run_underlying ht, MapKept.run_getObj_map m3, MapKept.run_checkKey hd hkey, MapKept.run_findKey hd h2, MapKept.run_setObj_map _ m3]
            · refine ⟨by simpa using m4.1, fun q a e' ha he' => ?_⟩
              simp only [Array.toList_push] at he'
              have hl := m4.1
              rcases Nat.lt_or_ge q es.length with hq | hq
              · rw [List.getElem?_append_left hq] at ha
                rw [List.getElem?_append_left (by omega)] at he'
                exact m4.2 q a e' ha he'
              · rw [List.getElem?_append_right hq] at ha
                rw [List.getElem?_append_right (by omega)] at he'
                rcases Nat.eq_zero_or_pos (q - es.length) with h0 | h0
                · rw [h0] at ha
                  rw [show q - ents.toList.length = 0 by omega] at he'
                  simp at ha he'; subst ha; subst he'
                  exact ⟨hi, hx⟩
                · rw [List.getElem?_eq_none (by simp; omega)] at ha; cases ha
          · cases h1
        · cases h
      · cases h
    · cases h
  · cases h
end
end Go.Dx
