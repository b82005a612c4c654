/- Parts for regions that draw their order: equal values, kept places, what is hidden and told again. -/
import Derived.Test.YtnglipioaippoaaEyE
namespace Go.Dx
variable {V : Nm → Prop}

/-! ### Equal values -/
mutual
noncomputable def eqP : PV → PV → Bool
  | .bool a, .bool b => a == b
  | .int k a, .int k' b => decide (k = k') && decide (a = b)
  | .str a, .str b => decide (a.data.toList = b.data.toList)
  | .nilp, .nilp => true
  | .nils, .nils => true
  | .emp, .emp => true
  | .ro f es, .ro f' es' => (f == f') && eqPss es es'
  | .nilm, .nilm => true
  | .nilf, .nilf => true
  | .nili, .nili => true
  | _, _ => false
noncomputable def eqPs : List PV → List PV → Bool
  | [], [] => true
  | a :: r, b :: s => eqP a b && eqPs r s
  | _, _ => false
noncomputable def eqPss : List (List PV) → List (List PV) → Bool
  | [], [] => true
  | a :: r, b :: s => eqPs a b && eqPss r s
  | _, _ => false
end
theorem str_eq {a b : ByteArray} (h : a.data.toList = b.data.toList) : a = b := by
  apply ByteArray.ext; exact Array.ext' h
mutual
theorem eqP_eq : ∀ {a b : PV}, eqP a b = true → a = b
  | .bool a, .bool b, h => by simp only [eqP, beq_iff_eq] at h; rw [h]
  | .int k a, .int k' b, h => by simp only [eqP, Bool.and_eq_true, decide_eq_true_eq] at h; rw [h.1, h.2]
  | .str a, .str b, h => by simp only [eqP, decide_eq_true_eq] at h; rw [str_eq h]
  | .nilp, .nilp, _ => rfl
  | .nils, .nils, _ => rfl
  | .emp, .emp, _ => rfl
  | .ro f es, .ro f' es', h => by simp only [eqP, Bool.and_eq_true, beq_iff_eq] at h; rw [h.1, eqPss_eq h.2]
  | .nilm, .nilm, _ => rfl
  | .nilf, .nilf, _ => rfl
  | .nili, .nili, _ => rfl
theorem eqPs_eq : ∀ {a b : List PV}, eqPs a b = true → a = b
  | [], [], _ => rfl
  | a :: r, b :: s, h => by simp only [eqPs, Bool.and_eq_true] at h; rw [eqP_eq h.1, eqPs_eq h.2]
theorem eqPss_eq : ∀ {a b : List (List PV)}, eqPss a b = true → a = b
  | [], [], _ => rfl
  | a :: r, b :: s, h => by simp only [eqPss, Bool.and_eq_true] at h; rw [eqPs_eq h.1, eqPss_eq h.2]
end
mutual
noncomputable def eqA : AV → AV → Bool
  | .und, .und => true
  | .bool a, .bool b => a == b
  | .int k a, .int k' b => decide (k = k') && decide (a = b)
  | .str a, .str b => decide (a.data.toList = b.data.toList)
  | .nilp, .nilp => true
  | .ptr a b c d, .ptr a' b' c' d' => decide (a = a') && decide (b = b') && decide (c = c') && decide (d = d')
  | .rptr cs, .rptr cs' => eqPs cs cs'
  | .nils, .nils => true
  | .emp, .emp => true
  | .sl a b c d, .sl a' b' c' d' => decide (a = a') && decide (b = b') && decide (c = c') && decide (d = d')
  | .ro f es, .ro f' es' => (f == f') && eqPss es es'
  | .agg cs, .agg cs' => eqAs cs cs'
  | .tup cs, .tup cs' => eqAs cs cs'
  | .nilm, .nilm => true
  | .map a, .map b => decide (a = b)
  | .fn f a b, .fn f' a' b' => decide (f = f') && eqAs a a' && eqAs b b'
  | .nilf, .nilf => true
  | .nili, .nili => true
  | .ifc t a, .ifc t' a' => decide (t = t') && eqA a a'
  | .osl B j, .osl B' j' => decide (j = j') && decide (B = B')
  | .stk E B j l, .stk E' B' j' l' => decide (j = j') && decide (l = l') && decide (E = E') && decide (B = B')
  | .lsl B j n i cs, .lsl B' j' n' i' cs' => decide (j = j') && decide (n = n') && decide (i = i') && decide (B = B') && eqAs cs cs'
  | .wptr cs, .wptr cs' => eqAs cs cs'
  | .lsq T B j n, .lsq T' B' j' n' => decide (j = j') && decide (n = n') && decide (T = T') && decide (B = B')
  | .tok B k j, .tok B' k' j' => decide (j = j') && decide (k = k') && decide (B = B')
  | _, _ => false
noncomputable def eqAs : List AV → List AV → Bool
  | [], [] => true
  | a :: r, b :: s => eqA a b && eqAs r s
  | _, _ => false
end
mutual
theorem eqA_eq : ∀ {a b : AV}, eqA a b = true → a = b
  | .und, .und, _ => rfl
  | .bool a, .bool b, h => by simp only [eqA, beq_iff_eq] at h; rw [h]
  | .int k a, .int k' b, h => by simp only [eqA, Bool.and_eq_true, decide_eq_true_eq] at h; rw [h.1, h.2]
  | .str a, .str b, h => by simp only [eqA, decide_eq_true_eq] at h; rw [str_eq h]
  | .nilp, .nilp, _ => rfl
  | .ptr a b c d, .ptr a' b' c' d', h => by simp only [eqA, Bool.and_eq_true, decide_eq_true_eq] at h; rw [h.1.1.1, h.1.1.2, h.1.2, h.2]
  | .rptr cs, .rptr cs', h => by simp only [eqA] at h; rw [eqPs_eq h]
  | .nils, .nils, _ => rfl
  | .emp, .emp, _ => rfl
  | .sl a b c d, .sl a' b' c' d', h => by simp only [eqA, Bool.and_eq_true, decide_eq_true_eq] at h; rw [h.1.1.1, h.1.1.2, h.1.2, h.2]
  | .ro f es, .ro f' es', h => by simp only [eqA, Bool.and_eq_true, beq_iff_eq] at h; rw [h.1, eqPss_eq h.2]
  | .agg cs, .agg cs', h => by simp only [eqA] at h; rw [eqAs_eq h]
  | .tup cs, .tup cs', h => by simp only [eqA] at h; rw [eqAs_eq h]
  | .nilm, .nilm, _ => rfl
  | .map a, .map b, h => by simp only [eqA, decide_eq_true_eq] at h; rw [h]
  | .fn f a b, .fn f' a' b', h => by simp only [eqA, Bool.and_eq_true, decide_eq_true_eq] at h; rw [h.1.1, eqAs_eq h.1.2, eqAs_eq h.2]
  | .nilf, .nilf, _ => rfl
  | .nili, .nili, _ => rfl
  | .ifc t a, .ifc t' a', h => by simp only [eqA, Bool.and_eq_true, decide_eq_true_eq] at h; rw [h.1, eqA_eq h.2]
  | .osl B j, .osl B' j', h => by simp only [eqA, Bool.and_eq_true, decide_eq_true_eq] at h; rw [h.1, h.2]
  | .stk E B j l, .stk E' B' j' l', h => by simp only [eqA, Bool.and_eq_true, decide_eq_true_eq] at h; rw [h.1.1.1, h.1.1.2, h.1.2, h.2]
  | .lsl B j n i cs, .lsl B' j' n' i' cs', h => by simp only [eqA, Bool.and_eq_true, decide_eq_true_eq] at h; rw [h.1.1.1.1, h.1.1.1.2, h.1.1.2, h.1.2, eqAs_eq h.2]
  | .wptr cs, .wptr cs', h => by simp only [eqA] at h; rw [eqAs_eq h]
  | .lsq T B j n, .lsq T' B' j' n', h => by simp only [eqA, Bool.and_eq_true, decide_eq_true_eq] at h; rw [h.1.1.1, h.1.1.2, h.1.2, h.2]
  | .tok B k j, .tok B' k' j', h => by simp only [eqA, Bool.and_eq_true, decide_eq_true_eq] at h; rw [h.1.1, h.1.2, h.2]
theorem eqAs_eq : ∀ {a b : List AV}, eqAs a b = true → a = b
  | [], [], _ => rfl
  | a :: r, b :: s, h => by simp only [eqAs, Bool.and_eq_true] at h; rw [eqA_eq h.1, eqAs_eq h.2]
end

/-! ### What makes memory, at a place -/
noncomputable def isM : Op → Bool
  | .alloc _ | .box _ _ | .makeSlice _ _ _ | .buildSlice _ _ _ | .makeMap _ _ => true
  | _ => false
noncomputable def opM (P : Program) (heapy : Bool) (ρ : Env) (id : Nat) (op : Op) : Option (AV × Option Blk) :=
  match op with
  | .alloc t => allocM P id t
  | .box t x => (evA ρ x).bind fun v => boxM id t v
  | .makeSlice t l c => match evA ρ l, evA ρ c with
    | some v, some u => makeSliceM P id t v u
    | _, _ => none
  | .buildSlice t len ps => (evps ρ ps.toList).bind fun vs => buildSliceM P heapy id t len vs
  | .makeMap t r => (evo ρ r).bind fun v => makeMapM P id t v
  | _ => none
section
variable {P : Program} {k : Kn V} {σ : Heap} {w : World} {n : Nat} {D : List Deferred} {ρ : Env} {a : Act}
theorem opM_ok {heapy : Bool} {id : Nat} (hR : Rel k σ w) (hE : EnvR k n D ρ a) {o : Oper} {v : AV} {b : Option Blk} (h : opM P heapy ρ id o.op = some (v, b))
    {next : Act → World → Prop} {Q : Exit → Act → World → Prop} (hK : ∀ k' u w', VRel k' v u → Made k σ w id k' w' b → next (a.put o.dst u) w') : o.wp P a w next Q := by
  have val : ∀ {s : Sem Value}, execOp a.eval o = (do pure (.value (← s))) → MkOk P k σ w id s (v, b) → o.wp P a w next Q := by
    rintro s hs ⟨k', u, w', h1, h2, h3⟩
    unfold Oper.wp
    rw [hs]
    simp only [Sem.run_bind, h1, Result.andThen_ok, Sem.run_pure, Oper.upon_value]
    exact hK k' u w' h2 h3
  obtain ⟨dst, op, type, pos, after, guard⟩ := o
  simp only at h
  unfold opM at h
  split at h
  · exact val rfl (alloc_ok h)
  · obtain ⟨x, hx, he⟩ := Option.bind_eq_some_iff.1 h
    exact val rfl (box_ok (ev_rel hE hx) he)
  · split at h
    · rename_i x y _ _ hx hy
      exact val rfl (makeSlice_ok hR (ev_rel hE hx) (ev_rel hE hy) h)
    · cases h
  · obtain ⟨x, hx, he⟩ := Option.bind_eq_some_iff.1 h
    exact val rfl (buildSlice_ok hR (by simpa using evps_rel hE hx) he)
  · obtain ⟨x, hx, he⟩ := Option.bind_eq_some_iff.1 h
    exact val rfl (makeMap_ok (evo_rel hE hx).1 (evo_rel hE hx).2 he)
  · cases h

/-! ### Which operations leave the plain memory alone -/
noncomputable def isE (modeOf : FuncId → Nat) (ρ : Env) : Op → Bool
  | .store _ _ _ | .mapUpdate _ _ _ _ | .insert _ _ _ _ => true
  | .call c => match c.callee with
    | .builtin b => match b with
      | .len | .cap | .min | .max => false
      | _ => true
    | .value f => match evA ρ f with
      | some (.fn g _ _) => modeOf g == 0
      | _ => true
    | _ => true
  | _ => false
theorem opA_same {heapy : Bool} {call : CallF} {modeOf : FuncId → Nat} (hm : ∀ f args σ r, modeOf f ≠ 0 → call f args σ = some r → r.2 = σ) {op : Op} {v : AV} {σ' : Heap} (h : opA P heapy call ρ σ op = some (v, σ')) (he : isE modeOf ρ op = false) (hnm : isM op = false) : σ' = σ := by
  have mp : ∀ {x : Option AV}, x.map (·, σ) = some (v, σ') → σ' = σ := by
    intro x hx
    obtain ⟨y, _, hy⟩ := Option.map_eq_some_iff.1 hx
    injection hy with _ hy; exact hy.symm
  have bd : ∀ {x : Option AV} {f : AV → Option AV}, (x.bind fun y => (f y).map (·, σ)) = some (v, σ') → σ' = σ := by
    intro x f hx
    obtain ⟨y, _, hy⟩ := Option.bind_eq_some_iff.1 hx
    exact mp hy
  unfold opA at h
  split at h
  · exact mp h
  · exact mp h
  · split at h
    · exact mp h
    · exact mp h
    · cases h
  · cases hnm
  · cases hnm
  · obtain ⟨y, _, hy⟩ := Option.bind_eq_some_iff.1 h
    exact mp hy
  · cases hnm
  · exact bd h
  · cases he
  · exact bd h
  · split at h
    · exact mp h
    · cases h
  · exact bd h
  · split at h
    · injection h with h; injection h with _ h; exact h.symm
    · cases h
  · split at h
    · injection h with h; injection h with _ h; exact h.symm
    · cases h
  · exact bd h
  · exact bd h
  · split at h
    · exact mp h
    · cases h
  · cases he
  · cases he
  · cases hnm
  · cases hnm
  · split at h
    · exact mp h
    · cases h
  · exact bd h
  · exact bd h
  · split at h
    · exact mp h
    · cases h
  · split at h
    · exact mp h
    · cases h
  · exact bd h
  · rename_i c
    split at h
    · split at h
      · rename_i b hb
        simp only [isE, hb] at he
        unfold builtinA at h
        split at h <;> first | exact mp h | (cases he; done) | cases h
      · rename_i f hf
        split at h
        · rename_i g fs cs hg
          simp only [isE, hf, hg] at he
          exact hm _ _ _ _ (by simpa using he) h
        · cases h
      · rename_i hf
        simp [isE, hf] at he
    · cases h
  · cases h

/-! ### Hidden and told again -/
/-- Some rows are left out. -/
structure Sub (σ' σ : Heap) : Prop where
  len : σ'.length = σ.length
  row : ∀ (id : Nat) b, σ'[id]? = some b → IsRow (some b) → σ[id]? = some b
theorem Sub.refl (σ : Heap) : Sub σ σ := ⟨rfl, fun _ _ h _ => h⟩
theorem Rel.sub {σ' : Heap} (hR : Rel k σ w) (hs : Sub σ' σ) : Rel k σ' w := by
  have row : ∀ {id : Nat} {ty sz es live next}, σ'[id]? = some (.row ty sz es live next) → σ[id]? = some (.row ty sz es live next) := fun h => hs.row _ _ h (.inl ⟨_, _, _, _, _, rfl⟩)
  exact ⟨fun id ty sz es live next h => hR.row _ _ _ _ _ _ (row h), hR.sep, hR.H, fun id ep l hm => by
    obtain ⟨h1, h2, h3⟩ := hR.fresh id ep l hm
    exact ⟨h1, by rw [hs.len]; exact h2, fun ty sz es live next h => h3 _ _ _ _ _ (row h)⟩, fun id ty sz es live next h => hR.nodup _ _ _ _ _ _ (row h), fun id es h => hR.mp _ _ (hs.row _ _ h (.inr ⟨_, rfl⟩))⟩

/-- What was hidden is told again: a row behind is one that the step left, or one that was hidden. -/
structure Back (σ' σ τ' τ : Heap) : Prop where
  len : τ.length = τ'.length
  row : ∀ (id : Nat) b, τ[id]? = some b → IsRow (some b) → τ'[id]? = some b ∨ (¬ IsRow τ'[id]? ∧ ¬ IsRow σ'[id]? ∧ id < σ'.length ∧ σ[id]? = some b)

theorem Step.hidden {k0 k' : Kn V} {σ0 σ' τ' τ : Heap} {w0 w' : World} (h0 : Step k0 σ0 w0 k σ w) (hs : Sub σ' σ) (h : Step k σ' w k' τ' w') (hb : Back σ' σ τ' τ) : Step k0 σ0 w0 k' τ w' := by
  have hR := h0.rel
  have isrow : ∀ {τ : Heap} {id : Nat}, IsRow τ[id]? → ∃ b, τ[id]? = some b ∧ IsRow (some b) := by
    rintro τ id (⟨ty, sz, es, live, next, hr⟩ | ⟨es, hr⟩)
    · exact ⟨_, hr, .inl ⟨_, _, _, _, _, rfl⟩⟩
    · exact ⟨_, hr, .inr ⟨_, rfl⟩⟩
  have uprow : ∀ {id : Nat}, IsRow σ'[id]? → IsRow σ[id]? := by
    intro id hi
    obtain ⟨b, hb, hrb⟩ := isrow hi
    rw [hs.row _ _ hb hrb]; exact hrb
  have unown : ∀ {b : Nat}, Owns k σ' b → Owns k σ b := by
    rintro b ⟨id, ep, l, h1, h2, h3⟩
    refine ⟨id, ep, l, h1, h2, ?_⟩
    exact uprow h3
  have unown0 : ∀ {b : Nat}, b < w0.heap.size → Owns k σ' b → Owns k0 σ0 b := fun hb ho => h0.fr.own h0.rel0 hb (unown ho)
  have rowτ : ∀ {id : Nat}, IsRow τ[id]? → IsRow τ'[id]? ∨ (¬ IsRow σ'[id]? ∧ id < σ'.length ∧ IsRow σ[id]?) := by
    intro id hi
    obtain ⟨b, hr, hrb⟩ := isrow hi
    rcases hb.row id _ hr hrb with h1 | ⟨_, h2, h3, h4⟩
    · exact .inl (by rw [h1]; exact hrb)
    · exact .inr ⟨h2, h3, by rw [h4]; exact hrb⟩
  -- a hidden row lies where it lay
  have stay : ∀ {id : Nat} {ep : Nat} {l : Loc}, ¬ IsRow σ'[id]? → k.μ id ep = some l → w'.heap[l.cb]? = w.heap[l.cb]? ∧ (k.H l.cb = none → k'.H l.cb = none) := by
    intro id ep l hn hm
    have hno : ¬ Owns k σ' l.cb := by
      rintro ⟨id2, ep2, l2, h1, h2, h3⟩
      have := (hR.sep id2 id ep2 ep l2 l h1 hm h2).1
      subst this
      exact hn h3
    refine ⟨h.fr.block _ (hR.lt hm) hno, fun hH => ?_⟩
    cases hk : k'.H l.cb with
    | none => rfl
    | some o =>
      rcases h.fr.newH _ o hk with h1 | h1 | h1
      · rw [hH] at h1; cases h1
      · have := hR.lt hm; omega
      · exact absurd h1 hno
  refine ⟨h0.rel0, h0.le.trans h.le, ⟨fun id ty sz es live next hr => ?_, h.rel.sep, h.rel.H, fun id ep l hm => ?_, fun id ty sz es live next hr => ?_, fun id es hr => ?_⟩, ⟨h.fr.os.trans h0.fr.os, h.fr.tape.trans h0.fr.tape, h.fr.output.trans h0.fr.output, Nat.le_trans h0.fr.size h.fr.size, fun b hb2 hn => ?_, fun b o ho => ?_, fun id ep l hm => ?_, fun id hi hr => ?_, ?_, fun id ep hi hr => ?_⟩⟩
  · rcases hb.row id _ hr (.inl ⟨_, _, _, _, _, rfl⟩) with h1 | ⟨_, h2, _, h4⟩
    · exact h.rel.row _ _ _ _ _ _ h1
    · have r := hR.row _ _ _ _ _ _ h4
      refine ⟨r.pos, r.eps, r.len, fun ep ext hl => ?_⟩
      obtain ⟨l, c, fz, hm, g1, g2, g3, g4, g5, g6, g7, g8⟩ := r.loc ep ext hl
      obtain ⟨s1, s2⟩ := stay h2 hm
      refine ⟨l, c, fz, h.le.μ _ _ _ hm, g1, g2, s2 g3, by rw [s1]; exact g4, g5, g6, g7, fun p e j v hp1 hp2 he hv => ?_⟩
      obtain ⟨u, hu, hru⟩ := g8 p e j v hp1 hp2 he hv
      exact ⟨u, hu, hru.mono h.le⟩
  · obtain ⟨f1, f2, f3⟩ := h.rel.fresh id ep l hm
    refine ⟨f1, by rw [hb.len]; exact f2, fun ty sz es live next hr => ?_⟩
    rcases hb.row id _ hr (.inl ⟨_, _, _, _, _, rfl⟩) with h1 | ⟨_, h2, h3, h4⟩
    · exact f3 _ _ _ _ _ h1
    · rw [h.fr.hol id ep h3 h2] at hm
      exact (hR.fresh id ep l hm).2.2 _ _ _ _ _ h4
  · rcases hb.row id _ hr (.inl ⟨_, _, _, _, _, rfl⟩) with h1 | ⟨_, _, _, h4⟩
    · exact h.rel.nodup _ _ _ _ _ _ h1
    · exact hR.nodup _ _ _ _ _ _ h4
  · rcases hb.row id _ hr (.inr ⟨_, rfl⟩) with h1 | ⟨_, h2, _, h4⟩
    · exact h.rel.mp _ _ h1
    · obtain ⟨l, ents, ck, m1, m2, m3, m4⟩ := hR.mp _ _ h4
      obtain ⟨s1, s2⟩ := stay h2 m1
      exact ⟨l, ents, ck, h.le.μ _ _ _ m1, s2 m2, by rw [s1]; exact m3, m4.mono h.le⟩
  · rw [h.fr.block b (Nat.lt_of_lt_of_le hb2 h0.fr.size) fun ho => hn (unown0 hb2 ho), h0.fr.block b hb2 hn]
  · rcases h.fr.newH b o ho with h1 | h1 | h1
    · exact h0.fr.newH b o h1
    · exact .inr (.inl (Nat.le_trans h0.fr.size h1))
    · rcases Nat.lt_or_ge b w0.heap.size with h2 | h2
      · exact .inr (.inr (unown0 h2 h1))
      · exact .inr (.inl h2)
  · rcases h.fr.newμ id ep l hm with h1 | h1 | h1
    · exact h0.fr.newμ id ep l h1
    · exact .inr (.inl (Nat.le_trans h0.fr.size h1))
    · rcases Nat.lt_or_ge l.cb w0.heap.size with h2 | h2
      · exact .inr (.inr (unown0 h2 h1))
      · exact .inr (.inl h2)
  · have hiσ : id < σ'.length := by rw [hs.len]; exact Nat.lt_of_lt_of_le hi h0.fr.len
    rcases rowτ hr with h1 | ⟨_, _, h3⟩
    · exact h0.fr.rows id hi (uprow (h.fr.rows id hiσ h1))
    · exact h0.fr.rows id hi h3
  · rw [hb.len]
    have := h0.fr.len
    have := h.fr.len
    have := hs.len
    omega
  · have hiσ : id < σ'.length := by rw [hs.len]; exact Nat.lt_of_lt_of_le hi h0.fr.len
    rw [h.fr.hol id ep hiσ ?_, h0.fr.hol id ep hi hr]
    exact fun hq => hr (h0.fr.rows id hi (uprow hq))

theorem Step.placed {k0 k' : Kn V} {σ0 : Heap} {w0 w' : World} {id : Nat} {b : Blk} (h0 : Step k0 σ0 w0 k σ w) (hf : Fits k w id b k' w') (hh : σ[id]? = some .hole) (hid : σ0.length ≤ id) (hn : ∀ ep, k.μ id ep = none) : Step k0 σ0 w0 k' (σ.set id b) w' := by
  have hnot : ∀ {i : Nat}, i < σ0.length → i ≠ id := fun h => by omega
  refine ⟨h0.rel0, h0.le.trans (hf.le hn), hf.go σ h0.rel hh hn, ⟨hf.os.trans h0.fr.os, hf.tape.trans h0.fr.tape, hf.output.trans h0.fr.output, Nat.le_trans h0.fr.size hf.size, fun c hc hno => ?_, fun c o hc => ?_, fun i ep l hm => ?_, fun i hi hr => ?_, by simpa using h0.fr.len, fun i ep hi hr => ?_⟩⟩
  · rw [hf.block c (Nat.lt_of_lt_of_le hc h0.fr.size), h0.fr.block c hc hno]
  · rcases hf.newH c o hc with h1 | h1
    · exact h0.fr.newH c o h1
    · exact .inr (.inl (Nat.le_trans h0.fr.size h1))
  · rcases hf.newμ i ep l hm with h1 | h1
    · exact h0.fr.newμ i ep l h1
    · exact .inr (.inl (Nat.le_trans h0.fr.size h1))
  · rw [List.getElem?_set_ne (Ne.symm (hnot hi))] at hr
    exact h0.fr.rows i hi hr
  · rw [hf.hol i ep (hnot hi), h0.fr.hol i ep hi hr]
end
end Go.Dx
