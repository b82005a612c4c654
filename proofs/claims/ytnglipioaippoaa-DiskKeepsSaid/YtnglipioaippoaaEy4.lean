/- Stores, addresses of parts, slices of slices. -/
import Derived.Test.YtnglipioaippoaaEy3
namespace Go.Dx
variable {V : Nm → Prop}

theorem add_plain (g o j : Nat) : (⟨g, o, none⟩ : Addr).add j = ⟨g, o + j, none⟩ := by unfold Addr.add; split <;> simp_all

theorem run_cells {P : Program} (g o : Nat) (t : TypeId) (fz : Nat × Nat) : ∀ (vs : List Value) (i : Nat) (cur : Array Value) (w : World), w.heap[g]? = some (.cells cur t fz) → o + i + vs.length ≤ cur.size →
    (∀ j, j < cur.size → ¬ (fz.1 ≤ j ∧ j < fz.2)) → (∀ v ∈ vs, v.oneCell' = true) →
    ∃ w' cur', (storeCells ⟨g, o, none⟩ vs i).run P w = .ok () w' ∧ w'.heap[g]? = some (.cells cur' t fz) ∧ cur'.size = cur.size ∧ (∀ j v, vs[j]? = some v → cur'[o + i + j]? = some v) ∧
      (∀ j, j < o + i ∨ o + i + vs.length ≤ j → cur'[j]? = cur[j]?) ∧ (∀ b, b ≠ g → w'.heap[b]? = w.heap[b]?) ∧ w'.heap.size = w.heap.size ∧ w'.os = w.os ∧ w'.tape = w.tape ∧ w'.output = w.output
  | [], i, cur, w, hg, _, _, _ => ⟨w, cur, by simp [storeCells], hg, rfl, fun j v hv => by simp at hv, fun _ _ => rfl, fun _ _ => rfl, rfl, rfl, rfl, rfl⟩
  | v :: vs, i, cur, w, hg, hs, hz, h1 => by
    simp only [List.length_cons] at hs
    have hlt : o + i < cur.size := by omega
    have hcell : w.cell? ⟨g, o + i, none⟩ = some cur[o + i] := by rw [cell_of_row w _ _ cur t fz hg]; simp [hlt]
    have hfz : w.frozen? ⟨g, o + i, none⟩ = false := by
      have := hz (o + i) hlt
      simp only [World.frozen?, hg]
      simp
      omega
    have hset : (w.setCell ⟨g, o + i, none⟩ v).heap[g]? = some (.cells (cur.setIfInBounds (o + i) v) t fz) := by
      simp [World.setCell, Array.getElem?_modify, hg]
    obtain ⟨w', cur', hrun, h2, h3, h4, h5, h6, h7, h8, h9, h10⟩ := run_cells (P := P) g o t fz vs (i + 1) (cur.setIfInBounds (o + i) v) (w.setCell ⟨g, o + i, none⟩ v) hset (by simp; omega) (by simpa using hz) (fun u hu => h1 u (List.mem_cons_of_mem _ hu))
    refine ⟨w', cur', ?_, h2, by simpa using h3, fun j u hu => ?_, fun j hj => ?_, fun b hb => ?_, by simpa using h7, h8, h9, h10⟩
    · simp [storeCells, add_plain, run_store P w _ v .plain (h1 v List.mem_cons_self), hcell, hfz, hrun]
    · cases j with
      | zero =>
        simp at hu; subst hu
        rw [Nat.add_zero, h5 (o + i) (.inl (by omega))]
        simp [hlt]
      | succ j =>
        simp at hu
        have := h4 j u hu
        rwa [show o + (i + 1) + j = o + i + (j + 1) by omega] at this
    · rw [h5 j (by simp only [List.length_cons] at hj; omega)]
      simp only [List.length_cons] at hj
      rw [Array.getElem?_setIfInBounds_ne (by omega)]
    · rw [h6 b hb]
      exact Go.RowKit.Below.heap_setCell _ _ _ _ hb

/-! ### A store -/
def keepE (ep idx : Nat) (l : List (Nat × Nat)) : List (Nat × Nat) := l.filter fun p => p.1 == ep || decide (p.2 ≤ idx)
theorem mem_keepE {ep idx e x : Nat} {l : List (Nat × Nat)} (h : (e, x) ∈ keepE ep idx l) : (e, x) ∈ l ∧ (e = ep ∨ x ≤ idx) := by
  simpa [keepE, List.mem_filter] using h
theorem nodup_keepE {ep idx : Nat} {l : List (Nat × Nat)} (h : (l.map (·.1)).Nodup) : ((keepE ep idx l).map (·.1)).Nodup := h.sublist (List.filter_sublist.map _)

def putA (e : List AV) (sub : Nat) (cs : List AV) : List AV := e.take sub ++ (cs ++ e.drop (sub + cs.length))
theorem putA_len {e cs : List AV} {sub : Nat} (h : sub + cs.length ≤ e.length) : (putA e sub cs).length = e.length := by simp [putA]; omega
theorem putA_in {e cs : List AV} {sub j : Nat} (h : sub + cs.length ≤ e.length) (hj : j < cs.length) : (putA e sub cs)[sub + j]? = cs[j]? := by
  unfold putA
  rw [List.getElem?_append_right (by simp; omega), List.length_take, Nat.min_eq_left (by omega), Nat.add_sub_cancel_left, List.getElem?_append_left hj]
theorem putA_out {e cs : List AV} {sub j : Nat} (h : sub + cs.length ≤ e.length) (hj : j < sub ∨ sub + cs.length ≤ j) : (putA e sub cs)[j]? = e[j]? := by
  unfold putA
  rcases hj with hj | hj
  · rw [List.getElem?_append_left (by simp; omega), List.getElem?_take, if_pos hj]
  · rw [List.getElem?_append_right (by simp; omega), List.length_take, Nat.min_eq_left (by omega), List.getElem?_append_right (by omega), List.getElem?_drop]
    congr 1; omega

def storeA (P : Program) (σ : Heap) (t : TypeId) (a v : AV) : Option Heap :=
  match a, szA P t with
  | .ptr id ep idx sub, some s =>
    match σ[id]? with
    | some (.row ty sz es live next) =>
      match lookE ep live, es[idx]? with
      | some x, some e =>
        let cs := cellsA v
        if (cs.length == s) && cs.all one && decide (idx < x) && decide (sub + s ≤ sz) then some (σ.set id (.row ty sz (es.set idx (putA e sub cs)) (keepE ep idx live) next)) else none
      | _, _ => none
    | _ => none
  | _, _ => none

theorem store_ok {P : Program} {k : Kn V} {σ : Heap} {w : World} (hR : Rel k σ w) {t : TypeId} {a v : AV} {ua uv : Value} (ha : VRel k a ua) (hv : VRel k v uv) {σ' : Heap} (h : storeA P σ t a v = some σ') :
    ∃ w', (Instr.storeAt t ua uv).run P w = .ok () w' ∧ Step k σ w k σ' w' := by
  unfold storeA at h
  split at h
  · rename_i id ep idx sub s hs
    split at h
    · rename_i ty sz es live next hb
      split at h
      · rename_i x e hx he
        simp only at h
        split at h
        · rename_i hc
          injection h with h
          subst h
          simp only [Bool.and_eq_true, beq_iff_eq, List.all_eq_true, decide_eq_true_eq] at hc
          obtain ⟨⟨⟨hcl, hone⟩, hlt⟩, hsub⟩ := hc
          obtain ⟨i, hi, hsz⟩ := szA_spec hs
          have r := hR.row _ _ _ _ _ _ hb
          obtain ⟨l, c, fz, hm, hlsz, hls, hHn, hw, hcs, hfz, hext, hcell⟩ := r.loc ep x (lookE_mem hx)
          cases ha with
          | ptr _ _ _ _ l' hm' hs' =>
          rw [hm] at hm'; injection hm' with hm'; subst hm'
          have hcr := hv.cells
          have hel := (r.len idx e he).1
          have hbound : (idx - l.s) * sz + sz ≤ c.size := by
            have h1 : (idx - l.s + 1) * sz ≤ (x - l.s) * sz := Nat.mul_le_mul_right _ (by omega)
            rw [Nat.succ_mul] at h1
            omega
          have hul : uv.cells.toList.length = s := by rw [← hcr.1]; exact hcl
          obtain ⟨w', cur', hrun, h2, h3, h4, h5, h6, h7, h8, h9, h10⟩ := run_cells (P := P) l.cb ((idx - l.s) * l.sz + sub) ty fz uv.cells.toList 0 c w hw (by rw [hul, hlsz]; omega) hfz.out (fun u hu => by
            obtain ⟨j, hj⟩ := List.getElem?_of_mem hu
            have hjl := (List.getElem?_eq_some_iff.1 hj).1
            have hjc : j < (cellsA v).length := by rw [hcr.1]; exact hjl
            exact (hcr.2 j _ u (List.getElem?_eq_getElem hjc) hj).one (hone _ (List.getElem_mem hjc)))
          refine ⟨w', ?_, ?_⟩
          · have hsz2 : uv.cells.size = i.size := by rw [hsz, ← hul]; simp
            simp [Instr.storeAt, Instr.sureAddr, storeVar, run_sizeOf hi, hsz2, hrun]
          · have hpl := putA_len (e := e) (cs := cellsA v) (sub := sub) (by omega)
            refine hR.upd hb (Nat.le_refl _) (Nat.le_succ _) rfl (fun _ _ _ => rfl) rfl h8 h9 h10 (by omega) (fun b hbl hnb => h6 b fun hbe => hnb ep x l (lookE_mem hx) hm hbe.symm) (fun ep' l' hm' hn' => by rw [hR.none_ep hb ep' hn'] at hm'; cases hm')
              (fun e' x' h' => .inr ⟨x', (mem_keepE h').1⟩) (nodup_keepE (hR.nodup _ _ _ _ _ _ hb)) ⟨r.pos, fun e' x' h' => ?_, fun i' e' h' => ?_, fun e' x' h' => ?_⟩
            · have := r.eps e' x' (mem_keepE h').1
              simpa using this
            · by_cases hii : i' = idx
              · subst hii
                rw [List.getElem?_set_self (List.getElem?_eq_some_iff.1 he).1] at h'
                injection h' with h'
                subst h'
                refine ⟨by rw [hpl]; exact hel, fun v' hv' => ?_⟩
                simp only [putA, List.mem_append] at hv'
                rcases hv' with hv' | hv' | hv'
                · exact (r.len i' e he).2 v' (List.mem_of_mem_take hv')
                · exact hone v' hv'
                · exact (r.len i' e he).2 v' (List.mem_of_mem_drop hv')
              · rw [List.getElem?_set_ne (Ne.symm hii)] at h'
                exact r.len i' e' h'
            · obtain ⟨h'1, h'2⟩ := mem_keepE h'
              obtain ⟨l', c', fz', hm', g1, g2, g3, g4, g5, g6, g7, g8⟩ := r.loc e' x' h'1
              by_cases hcb : l'.cb = l.cb
              · -- the same block of the machine
                rw [hcb] at g4
                rw [hw] at g4
                injection g4 with g4
                injection g4 with e1 e2 e3
                subst e1; subst e3
                refine ⟨l', cur', fz, hm', g1, g2, g3, by rw [hcb]; exact h2, by omega, by rw [h3]; exact g6, g7, fun p e2' j v2 hp1 hp2 he2 hv2 => ?_⟩
                -- places of l' and l: if the epoch is another one its reach ends at idx
                by_cases hep : e' = ep
                · subst hep
                  have hx' : x' = x := live_inj (hR.nodup _ _ _ _ _ _ hb) h'1 (lookE_mem hx)
                  subst hx'
                  rw [hm] at hm'; injection hm' with hm'; subst hm'
                  by_cases hpi : p = idx
                  · subst hpi
                    rw [List.getElem?_set_self (List.getElem?_eq_some_iff.1 he).1] at he2
                    injection he2 with he2
                    subst he2
                    have hjl : j < sz := by have := (List.getElem?_eq_some_iff.1 hv2).1; omega
                    by_cases hjs : sub ≤ j ∧ j < sub + s
                    · obtain ⟨m, rfl⟩ : ∃ m, j = sub + m := ⟨j - sub, by omega⟩
                      rw [putA_in (by omega) (by omega)] at hv2
                      have hml : m < uv.cells.toList.length := by omega
                      refine ⟨_, ?_, hcr.2 m v2 _ hv2 (List.getElem?_eq_getElem hml)⟩
                      have := h4 m _ (List.getElem?_eq_getElem hml)
                      rw [hlsz, Nat.add_zero] at this
                      rwa [← Nat.add_assoc]
                    · rw [putA_out (by omega) (by omega)] at hv2
                      obtain ⟨u, hu, hr⟩ := hcell p e j v2 hp1 hp2 he hv2
                      refine ⟨u, ?_, hr⟩
                      rw [h5 _ ?_]
                      · exact hu
                      · rw [hlsz, hul]; omega
                  · rw [List.getElem?_set_ne (Ne.symm hpi)] at he2
                    obtain ⟨u, hu, hr⟩ := hcell p e2' j v2 hp1 hp2 he2 hv2
                    refine ⟨u, ?_, hr⟩
                    rw [h5 _ ?_]
                    · exact hu
                    · have hjl : j < sz := by have h1 := (List.getElem?_eq_some_iff.1 hv2).1; have h2 := (r.len p e2' he2).1; omega
                      rw [hlsz, hul]
                      rcases Nat.lt_or_gt_of_ne hpi with hlt' | hgt'
                      · left
                        have : (p - l.s + 1) * sz ≤ (idx - l.s) * sz := Nat.mul_le_mul_right _ (by omega)
                        rw [Nat.succ_mul] at this
                        omega
                      · right
                        have : (idx - l.s + 1) * sz ≤ (p - l.s) * sz := Nat.mul_le_mul_right _ (by omega)
                        rw [Nat.succ_mul] at this
                        omega
                · have hll : l' = l := hR.same id e' ep l' l hm' hm hcb
                  subst hll
                  have hpi : p ≠ idx := by rcases h'2 with h | h; exact absurd h hep; omega
                  rw [List.getElem?_set_ne (Ne.symm hpi)] at he2
                  obtain ⟨u, hu, hr⟩ := g8 p e2' j v2 hp1 hp2 he2 hv2
                  refine ⟨u, ?_, hr⟩
                  rw [h5 _ ?_]
                  · exact hu
                  · have hjl : j < sz := by have h1 := (List.getElem?_eq_some_iff.1 hv2).1; have h2 := (r.len p e2' he2).1; omega
                    left
                    have hx2 : x' ≤ idx := by rcases h'2 with h | h; exact absurd h hep; exact h
                    have : (p - l'.s + 1) * sz ≤ (idx - l'.s) * sz := Nat.mul_le_mul_right _ (by omega)
                    rw [Nat.succ_mul] at this
                    rw [hlsz]
                    omega
              · refine ⟨l', c', fz', hm', g1, g2, g3, by rw [h6 _ hcb]; exact g4, g5, g6, g7, fun p e2' j v2 hp1 hp2 he2 hv2 => ?_⟩
                have hpi : p ≠ idx ∨ e' = ep := by
                  rcases h'2 with h | h
                  · exact .inr h
                  · exact .inl (by omega)
                rcases hpi with hpi | hpi
                · rw [List.getElem?_set_ne (Ne.symm hpi)] at he2
                  exact g8 p e2' j v2 hp1 hp2 he2 hv2
                · subst hpi
                  rw [hm] at hm'; injection hm' with hm'; subst hm'
                  exact absurd rfl hcb
        · cases h
      · cases h
    · cases h
  · cases h
end Go.Dx
