/- The operations that make, read and write memory, reckoned on the plain memory; and that the machine's own do the same. -/
import Derived.Test.YtnglipioaippoaaEy2
namespace Go.Dx
variable {V : Nm → Prop}

/-- What a constant is. -/
def ofVal1 : Value → Option AV
  | .bool b => some (.bool b)
  | .int k n => some (.int k n)
  | .string s => some (.str s)
  | .pointer none => some .nilp
  | .slice none 0 0 => some .nils
  | .map none => some .nilm
  | .nilFunc => some .nilf
  | .nilIface => some .nili
  | _ => none
def ofVals : List Value → Option (List AV)
  | [] => some []
  | v :: r => match ofVal1 v, ofVals r with
    | some a, some b => some (a :: b)
    | _, _ => none
def ofVal : Value → Option AV
  | .agg cs => (ofVals cs.toList).map .agg
  | .tuple vs => match vs.toList with
    | [] => some .und
    | _ => none
  | v => ofVal1 v
theorem ofVal1_rel {k : Kn V} {v : Value} {a : AV} (h : ofVal1 v = some a) : VRel k a v := by
  unfold ofVal1 at h
  split at h <;> first
    | (injection h with h; subst h; constructor; done)
    | cases h
theorem ofVal1_one {v : Value} {a : AV} (h : ofVal1 v = some a) : one a = true := by
  unfold ofVal1 at h
  split at h <;> first
    | (injection h with h; subst h; rfl)
    | cases h
theorem ofVals_rel {k : Kn V} {us : List Value} {cs : List AV} (h : ofVals us = some cs) : VRels k cs us ∧ ∀ v ∈ cs, one v = true := by
  induction us generalizing cs with
  | nil => simp only [ofVals] at h; injection h with h; subst h; exact ⟨⟨rfl, fun j v u hv => by simp at hv⟩, fun v hv => by cases hv⟩
  | cons u us ih =>
    simp only [ofVals] at h
    split at h
    · rename_i a b ha hb
      injection h with h
      subst h
      obtain ⟨h1, h2⟩ := ih hb
      refine ⟨⟨by simp [h1.1], fun j v u' hv hu => ?_⟩, fun v hv => ?_⟩
      · cases j with
        | zero => simp at hv hu; subst hv; subst hu; exact ofVal1_rel ha
        | succ j => simp at hv hu; exact h1.2 j v u' hv hu
      · rcases List.mem_cons.1 hv with rfl | hv
        · exact ofVal1_one ha
        · exact h2 v hv
    · cases h
theorem ofVal_rel {k : Kn V} {v : Value} {a : AV} (h : ofVal v = some a) : VRel k a v := by
  unfold ofVal at h
  split at h
  · rename_i cs
    obtain ⟨l, hl, rfl⟩ := Option.map_eq_some_iff.1 h
    have hr := (ofVals_rel (k := k) hl).1
    exact .agg l cs (by simpa using hr.1) fun j v u hv hu => hr.2 j v u hv (by simpa using hu)
  · rename_i vs
    split at h
    · rename_i hvs
      injection h with h
      subst h
      have : vs = #[] := by simpa using hvs
      subst this
      exact .und
    · cases h
  · exact ofVal1_rel h

def zeroA (P : Program) (t : TypeId) : Option (List AV) := (P.info? t).bind fun i => i.zero.bind fun z => ofVals z.cells.toList
def szA (P : Program) (t : TypeId) : Option Nat := (P.info? t).map (·.size)
theorem zeroA_spec {P : Program} {t : TypeId} {zs : List AV} (h : zeroA P t = some zs) : ∃ i z, P.info? t = some i ∧ i.zero = some z ∧ (∀ {V : Nm → Prop} (k : Kn V), VRels k zs z.cells.toList) ∧ (∀ v ∈ zs, one v = true) := by
  obtain ⟨i, hi, h⟩ := Option.bind_eq_some_iff.1 h
  obtain ⟨z, hz, h⟩ := Option.bind_eq_some_iff.1 h
  exact ⟨i, z, hi, hz, fun k => (ofVals_rel h).1, (ofVals_rel (k := (⟨fun _ => none, fun _ _ => none, ⟨fun _ => 0, fun _ => .nilp⟩, trivial⟩ : Kn fun _ => True)) h).2⟩
theorem szA_spec {P : Program} {t : TypeId} {s : Nat} (h : szA P t = some s) : ∃ i, P.info? t = some i ∧ i.size = s := by
  obtain ⟨i, hi, h⟩ := Option.map_eq_some_iff.1 h
  exact ⟨i, hi, h⟩
theorem run_typeInfo {P : Program} {t : TypeId} {i : TypeInfo} (h : P.info? t = some i) (w : World) : (typeInfo t).run P w = .ok i w := by simp [typeInfo, h]
theorem run_zeroValue {P : Program} {t : TypeId} {i : TypeInfo} {z : Value} (h : P.info? t = some i) (hz : i.zero = some z) (w : World) : (zeroValue t).run P w = .ok z w := by simp [zeroValue, run_typeInfo h, hz]
theorem run_sizeOf {P : Program} {t : TypeId} {i : TypeInfo} (h : P.info? t = some i) (w : World) : (sizeOf t).run P w = .ok i.size w := by simp [sizeOf, run_typeInfo h]

/-- An operation comes to this. -/
def Ok (P : Program) (k : Kn V) (σ : Heap) (w : World) (s : Sem Value) (r : AV × Heap) : Prop := ∃ k' v w', s.run P w = .ok v w' ∧ VRel k' r.1 v ∧ Step k σ w k' r.2 w'
theorem Ok.same {P : Program} {k : Kn V} {σ : Heap} {w : World} {s : Sem Value} {a : AV} {v : Value} (hR : Rel k σ w) (h : s.run P w = .ok v w) (hv : VRel k a v) : Ok P k σ w s (a, σ) := ⟨k, v, w, h, hv, Step.refl hR⟩

/-! ### New blocks -/
/-- What makes memory: the value, and the block, if there is one; its place is told. -/
def Made (k : Kn V) (σ : Heap) (w : World) (id : Nat) (k' : Kn V) (w' : World) : Option Blk → Prop
  | none => Step k σ w k' σ w'
  | some b => Fits k w id b k' w'
def MkOk (P : Program) (k : Kn V) (σ : Heap) (w : World) (id : Nat) (s : Sem Value) (r : AV × Option Blk) : Prop := ∃ k' v w', s.run P w = .ok v w' ∧ VRel k' r.1 v ∧ Made k σ w id k' w' r.2
def putM (σ : Heap) (r : AV × Option Blk) : AV × Heap := (r.1, σ ++ r.2.toList)
theorem MkOk.ok {P : Program} {k : Kn V} {σ : Heap} {w : World} (hR : Rel k σ w) {s : Sem Value} {r : AV × Option Blk} (h : MkOk P k σ w σ.length s r) : Ok P k σ w s (putM σ r) := by
  obtain ⟨k', v, w', h1, h2, h3⟩ := h
  obtain ⟨v0, b⟩ := r
  refine ⟨k', v, w', h1, h2, ?_⟩
  cases b with
  | none => simpa [putM, Made] using h3
  | some b => exact Fits.push hR h3

def newB (ty sz : Nat) (es : List (List AV)) : Blk := .row ty sz es [(0, es.length)] 1
def newA (σ : Heap) (ty sz : Nat) (es : List (List AV)) : Heap := σ ++ [newB ty sz es]
theorem newRow_ok {P : Program} {k : Kn V} {w : World} (id : Nat) (ty : TypeId) (cs : List AV) (us : Array Value) (h : VRels k cs us.toList) (h1 : ∀ v ∈ cs, one v = true) (hp : 0 < cs.length) :
    ∃ k' a, (newRow ty us).run P w = .ok a (w.alloc (.cells us ty)) ∧ VRel k' (.ptr id 0 0 0) (.pointer (some a)) ∧ Fits k w id (newB ty cs.length [cs]) k' (w.alloc (.cells us ty)) := by
  have hl : cs.length = us.size := by simpa using h.1
  refine ⟨_, ⟨w.heap.size, 0, none⟩, by simp [newRow], ?_, row_fits id ty cs.length [cs] us ty hp rfl ?_ (by simp [hl]) ?_⟩
  · have := VRel.ptr (k := k.add id 0 ⟨w.heap.size, 0, cs.length, us.size⟩) id 0 0 0 _ (Kn.add_same _ _ _ _) (Nat.zero_le _)
    simpa using this
  · intro i e he
    cases i with
    | zero => simp at he; subst he; exact ⟨rfl, h1⟩
    | succ i => simp at he
  · intro p e j v he hv
    cases p with
    | zero =>
      simp at he
      subst he
      have hj := (List.getElem?_eq_some_iff.1 hv).1
      refine ⟨us[j]'(by omega), by simp [hl ▸ hj], h.2 j v _ hv (by simp [hl ▸ hj])⟩
    | succ p => simp at he

def allocM (P : Program) (id : Nat) (t : TypeId) : Option (AV × Option Blk) :=
  match zeroA P t with
  | some (z :: zs) => some (.ptr id 0 0 0, some (newB t (z :: zs).length [z :: zs]))
  | _ => none
theorem alloc_ok {P : Program} {k : Kn V} {σ : Heap} {w : World} {id : Nat} {t : TypeId} {r : AV × Option Blk} (h : allocM P id t = some r) : MkOk P k σ w id (Instr.alloc t true (.tuple #[])) r := by
  unfold allocM at h
  split at h
  · rename_i z zs hz
    injection h with h
    subst h
    obtain ⟨i, zv, hi, hzv, hrel, h1⟩ := zeroA_spec hz
    obtain ⟨k', a, hrun, hv, hs⟩ := newRow_ok (P := P) (w := w) id t (z :: zs) zv.cells (hrel k) h1 (by simp)
    exact ⟨k', _, _, by simp [Instr.alloc, run_zeroValue hi hzv, newVar, hrun], hv, hs⟩
  · cases h

def boxM (id : Nat) (t : TypeId) (v : AV) : Option (AV × Option Blk) :=
  let cs := cellsA v
  if cs.all one && decide (0 < cs.length) then some (.ptr id 0 0 0, some (newB t cs.length [cs])) else none
theorem box_ok {P : Program} {k : Kn V} {σ : Heap} {w : World} {id : Nat} {t : TypeId} {v : AV} {u : Value} (hv : VRel k v u) {r : AV × Option Blk} (h : boxM id t v = some r) : MkOk P k σ w id (Instr.box t u) r := by
  unfold boxM at h
  simp only at h
  split at h
  · rename_i hc
    injection h with h
    subst h
    simp only [Bool.and_eq_true, List.all_eq_true, decide_eq_true_eq] at hc
    obtain ⟨k', a, hrun, hv', hs⟩ := newRow_ok (P := P) (w := w) id t (cellsA v) u.cells hv.cells hc.1 hc.2
    exact ⟨k', _, _, by simp [Instr.box, newVar, hrun], hv', hs⟩
  · cases h

/-! ### Reading -/
def aggA (P : Program) (t : TypeId) : Option Bool :=
  match P.underlying t with
  | some (.struct _) | some (.array _ _) => some true
  | some _ => some false
  | none => none
theorem run_isAgg {P : Program} {t : TypeId} {b : Bool} (h : aggA P t = some b) (w : World) : (isAgg t).run P w = .ok b w := by
  unfold aggA at h
  unfold isAgg
  cases hu : P.underlying t with
  | none => rw [hu] at h; cases h
  | some d =>
    rw [hu] at h
    cases d <;> simp at h <;> subst h <;> simp [run_underlying hu]

def lookE (ep : Nat) : List (Nat × Nat) → Option Nat
  | [] => none
  | (e, x) :: r => if e == ep then some x else lookE ep r
theorem lookE_mem {ep x : Nat} {l : List (Nat × Nat)} (h : lookE ep l = some x) : (ep, x) ∈ l := by
  induction l with
  | nil => cases h
  | cons y r ih =>
    obtain ⟨e, z⟩ := y
    simp only [lookE] at h
    split at h
    · rename_i he
      injection h with h
      have : e = ep := by simpa using he
      subst this; subst h
      exact List.mem_cons_self
    · exact List.mem_cons_of_mem _ (ih h)

/-- The cells from a place on, within its element. -/
def cellsAt (σ : Heap) (a : AV) : Option (List AV) :=
  match a with
  | .ptr id ep idx sub =>
    match σ[id]? with
    | some (.row _ _ es live _) =>
      match lookE ep live, es[idx]? with
      | some x, some e => if idx < x then some (e.drop sub) else none
      | _, _ => none
    | _ => none
  | .rptr cs => some (cs.map up)
  | .wptr cs => if cs.all one then some cs else none
  | _ => none
theorem one_up (v : PV) : one (up v) = true := by cases v <;> rfl
theorem cellsAt_spec {k : Kn V} {σ : Heap} {w : World} (hR : Rel k σ w) {a : AV} {u : Value} (ha : VRel k a u) {cs : List AV} (h : cellsAt σ a = some cs) :
    ∃ b o, u = .pointer (some ⟨b, o, none⟩) ∧ (∀ j v, cs[j]? = some v → ∃ x, w.cell? ⟨b, o + j, none⟩ = some x ∧ VRel k v x) ∧ (∀ v ∈ cs, one v = true) := by
  unfold cellsAt at h
  cases ha with
  | ptr id ep idx sub l hm hs =>
    simp only at h
    split at h
    · rename_i ty sz es live next hb
      split at h
      · rename_i x e hx he
        split at h
        · rename_i hlt
          injection h with h
          subst h
          have r := hR.row _ _ _ _ _ _ hb
          obtain ⟨l', c, fz, hm', hsz, _, _, hw, _, _, _, hc⟩ := r.loc ep x (lookE_mem hx)
          rw [hm] at hm'; injection hm' with hm'; subst hm'
          refine ⟨l.cb, (idx - l.s) * l.sz + sub, rfl, fun j v hj => ?_, fun v hv => ?_⟩
          · rw [List.getElem?_drop] at hj
            obtain ⟨u, hu, hr⟩ := hc idx e (sub + j) v hs hlt he hj
            refine ⟨u, ?_, hr⟩
            rw [cell_of_row w _ _ c ty fz hw, hsz, Nat.add_assoc]
            exact hu
          · exact (r.len idx e he).2 v (List.mem_of_mem_drop hv)
        · cases h
      · cases h
    · cases h
  | rptr ps b o c ty fz f hH hc hv =>
    simp only at h
    injection h with h
    subst h
    refine ⟨b, o, rfl, fun j v hj => ?_, fun v hv => ?_⟩
    · rw [List.getElem?_map] at hj
      obtain ⟨p, hp, rfl⟩ := Option.map_eq_some_iff.1 hj
      exact ⟨f j, by rw [cell_of_row w _ _ c ty fz (hR.H _ _ hH)]; exact hc j p hp, VRel.of_up (hv j p hp)⟩
    · obtain ⟨p, _, rfl⟩ := List.mem_map.1 hv
      exact one_up p
  | wptr ps b o c ty fz f hH hc hv =>
    simp only at h
    split at h
    · rename_i hone
      injection h with h
      subst h
      refine ⟨b, o, rfl, fun j v hj => ⟨f j, by rw [cell_of_row w _ _ c ty fz (hR.H _ _ hH)]; exact hc j v hj, hv j v hj⟩, fun v hv' => List.all_eq_true.1 hone v hv'⟩
    · cases h
  | _ => cases h

def loadA (P : Program) (σ : Heap) (t : TypeId) (a : AV) : Option AV :=
  match cellsAt σ a, aggA P t with
  | some cs, some true => match szA P t with
    | some s => if s ≤ cs.length then some (.agg (cs.take s)) else none
    | none => none
  | some (c :: _), some false => some c
  | _, _ => none
theorem load_same {P : Program} {k : Kn V} {σ : Heap} {w : World} (hR : Rel k σ w) {t : TypeId} {a : AV} {u : Value} (ha : VRel k a u) {r : AV} (h : loadA P σ t a = some r) : ∃ v, (Instr.loadAt t u).run P w = .ok v w ∧ VRel k r v := by
  unfold loadA at h
  split at h
  · rename_i cs hcs hag
    split at h
    · rename_i s hs
      split at h
      · rename_i hle
        injection h with h
        subst h
        obtain ⟨b, o, rfl, hc, _⟩ := cellsAt_spec hR ha hcs
        obtain ⟨i, hi, rfl⟩ := szA_spec hs
        have hf : ∀ j, j < i.size → ∃ x, w.cell? ((⟨b, o, none⟩ : Addr).add j) = some x ∧ ∀ v, cs[j]? = some v → VRel k v x := by
          intro j hj
          obtain ⟨x, hx, hr⟩ := hc j (cs[j]'(by omega)) (List.getElem?_eq_getElem (by omega))
          refine ⟨x, ?_, fun v hv => ?_⟩
          · have : (⟨b, o, none⟩ : Addr).add j = ⟨b, o + j, none⟩ := by unfold Addr.add; split <;> simp_all
            rw [this]; exact hx
          · rw [List.getElem?_eq_getElem (by omega)] at hv; injection hv with hv; subst hv; exact hr
        have hrun := run_loadCells (P := P) w ⟨b, o, none⟩ i.size (fun j => (w.cell? ((⟨b, o, none⟩ : Addr).add j)).getD undef) (fun j hj => by obtain ⟨x, hx, _⟩ := hf j hj; rw [hx]; rfl)
        refine ⟨.agg _, (by simp [Instr.loadAt, Instr.sureAddr, loadVar, run_isAgg hag, run_sizeOf hi, hrun]; rfl), (.agg _ _ (by simp [hle]) fun j v x hv hx => ?_)⟩
        rw [List.getElem?_take] at hv
        split at hv
        · rename_i hj
          obtain ⟨y, hy, hr⟩ := hf j hj
          simp [hj, hy] at hx
          subst hx
          exact hr v hv
        · cases hv
      · cases h
    · cases h
  · rename_i c cs hcs hag
    injection h with h
    subst h
    obtain ⟨b, o, rfl, hc, _⟩ := cellsAt_spec hR ha hcs
    obtain ⟨x, hx, hr⟩ := hc 0 c rfl
    exact ⟨_, (by simp [Instr.loadAt, Instr.sureAddr, loadVar, run_isAgg hag]; simp at hx; rw [hx]), hr⟩
  · cases h
theorem load_ok {P : Program} {k : Kn V} {σ : Heap} {w : World} (hR : Rel k σ w) {t : TypeId} {a : AV} {u : Value} (ha : VRel k a u) {r : AV} (h : loadA P σ t a = some r) : Ok P k σ w (Instr.loadAt t u) (r, σ) :=
  let ⟨_, h1, h2⟩ := load_same (P := P) hR ha h
  Ok.same hR h1 h2
end Go.Dx
