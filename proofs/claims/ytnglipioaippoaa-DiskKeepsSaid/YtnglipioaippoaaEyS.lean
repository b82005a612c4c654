/- Blocks that are told no more; calls that write through a pointer. -/
import Derived.Test.YtnglipioaippoaaEyR
namespace Go.Dx
section
variable {P : Program} {n : Nat}
theorem Env.get_mem {t : Nat} {v : AV} : ∀ {E : Env}, E.get t = some v → ∃ p ∈ E, p.2 = v
  | [], h => by simp [Env.get_nil] at h
  | (d, x) :: r, h => by
    simp only [Env.get_cons] at h
    split at h
    · injection h with h; exact ⟨(d, x), List.mem_cons_self, h⟩
    · obtain ⟨p, hp, hv⟩ := Env.get_mem h
      exact ⟨p, List.mem_cons_of_mem _ hp, hv⟩

/-- New blocks that nothing points to are told no more. -/
theorem Goes.take {c : Code} {E E' : Env} {M M1 : Heap} {x : AX} (h : Goes P n c E M x E' M1) (hE : E'.all (fun p => loV M.length p.2) = true) (hM : (M1.take M.length).all (loB M.length) = true) : Goes P n c E M x E' (M1.take M.length) := by
  intro V k w a D hR hE0 Q hQ
  refine h V k w a D hR hE0 fun k' a' w' st he => ?_
  have hlen : M.length ≤ M1.length := st.fr.len
  have tl : (M1.take M.length).length = M.length := by simp; omega
  let k2 : Kn V := ⟨k'.H, fun id ep => if id < M.length then k'.μ id ep else none, k'.val, k'.hv⟩
  have m2 : ∀ {id ep}, id < M.length → k2.μ id ep = k'.μ id ep := fun h => if_pos h
  have m2' : ∀ {id ep l}, k2.μ id ep = some l → id < M.length ∧ k'.μ id ep = some l := fun {id ep l} h => by
    have h' : (if id < M.length then k'.μ id ep else none) = some l := h
    split at h'
    · rename_i hlt; exact ⟨hlt, h'⟩
    · cases h'
  have low : ∀ {v : AV} {u : Value}, VRel k' v u → loV M.length v = true → VRel k2 v u := fun h hl => lo_rel (k := k') (k' := k2) (fun _ _ h => h) (fun id ep l hlt hm => by rw [m2 hlt]; exact hm) rfl h hl
  have look : ∀ {id : Nat} {b : Blk}, (M1.take M.length)[id]? = some b → id < M.length ∧ M1[id]? = some b := fun {id b} h => by
    rw [List.getElem?_take] at h
    split at h
    · rename_i hlt; exact ⟨hlt, h⟩
    · cases h
  have hR2 : Rel k2 (M1.take M.length) w' := by
    refine ⟨fun id ty sz es live next hb => ?_, fun id id' ep ep' l l' hm hm' hcb => st.rel.sep id id' ep ep' l l' (m2' hm).2 (m2' hm').2 hcb, st.rel.H, fun id ep l hm => ?_, fun id ty sz es live next hb => st.rel.nodup id ty sz es live next (look hb).2, fun id es hb => ?_⟩
    · obtain ⟨hid, hb1⟩ := look hb
      have r := st.rel.row id ty sz es live next hb1
      refine ⟨r.pos, r.eps, r.len, fun ep ext hl => ?_⟩
      obtain ⟨l, c, fz, hm, h1, h2, h3, h4, h5, h6, h7, h8⟩ := r.loc ep ext hl
      refine ⟨l, c, fz, by rw [m2 hid]; exact hm, h1, h2, h3, h4, h5, h6, h7, fun p e j v hp1 hp2 hpe hv => ?_⟩
      obtain ⟨u, hu, hru⟩ := h8 p e j v hp1 hp2 hpe hv
      exact ⟨u, hu, low hru (lo_row hM hb hpe hv)⟩
    · obtain ⟨hid, hm1⟩ := m2' hm
      obtain ⟨h1, _, h3⟩ := st.rel.fresh id ep l hm1
      exact ⟨h1, by rw [tl]; exact hid, fun ty sz es live next hb => h3 ty sz es live next (look hb).2⟩
    · obtain ⟨hid, hb1⟩ := look hb
      obtain ⟨l, ents, ck, hm, h1, h2, h3⟩ := st.rel.mp id es hb1
      refine ⟨l, ents, ck, by rw [m2 hid]; exact hm, h1, h2, h3.1, fun j a e ha hae => ?_⟩
      have := h3.2 j a e ha hae
      have hlo := lo_mp hM hb ha
      exact ⟨low this.1 hlo.1, low this.2 hlo.2⟩
  refine hQ k2 a' w' ⟨hR, ⟨st.le.H, fun id ep l hm => ?_, st.le.val⟩, hR2, ⟨st.fr.os, st.fr.tape, st.fr.output, st.fr.size, st.fr.block, st.fr.newH, fun id ep l hm => st.fr.newμ id ep l (m2' hm).2, fun id hi hr => ?_, by rw [tl]; exact Nat.le_refl _, fun id ep hi hr => ?_⟩⟩ ⟨he.size, fun t v hv => ?_, he.defers⟩
  · rw [m2 (hR.fresh id ep l hm).2.1]; exact st.le.μ id ep l hm
  · refine st.fr.rows id hi ?_
    rw [List.getElem?_take, if_pos hi] at hr
    exact hr
  · rw [m2 hi]; exact st.fr.hol id ep hi hr
  · obtain ⟨u, hu, hru⟩ := he.get t v hv
    obtain ⟨p, hp, rfl⟩ := Env.get_mem hv
    exact ⟨u, hu, low hru (List.all_eq_true.1 hE p hp)⟩

/-! ### Runs with any known calls -/
noncomputable def runO (P : Program) (fns : FuncId → Option FnI) (i : FnI) (ovr : CallF) (live : List Nat) (c : Code) (ρ : Env) (σ : Heap) : Option (AX × Env × Heap) :=
  (codeA P i.heapy (callW P fns ovr 3) (drawA P (modesOf fns) i.heapy (callW P fns ovr 3) i.fn.ntmps) i.fn.ntmps i.rounds i.keep c ⟨σ, ρ⟩).map (fun r => (r.1, prune live r.2.ρ, r.2.σ))
theorem goes_runO {fns : FuncId → Option FnI} (ht : Tab P fns) (hmix : P.follows .mixedOrders = true) {v : Nm} {ovr : CallF} (ho : ∀ f args σ r, ovr f args σ = some r → CallOK (fun x => x = v) P f args σ r) (hos : ∀ f args σ r, modesOf fns f ≠ 0 → ovr f args σ = some r → r.2 = σ) {i : FnI} {live : List Nat}
    {c : Code} {E ρT ρ1 E' : Env} {M σT σ1 M' : Heap} {x : AX} (run : runO P fns i ovr live c ρT σT = some (x, ρ1, σ1))
    (lE : ET (Up v) E ρT) (lM : All2 (BT (Up v)) M σT) (oE : ET (Down v) ρ1 E') (oM : All2 (BD (Down v)) σ1 M') : Goes P i.fn.ntmps c E M x E' M' := by
  have hc := callW_ok ht hmix (V := fun x => x = v) ho hos 3
  exact goes_told (fun f args σ r h => (hc f args σ r h).1) (draw_ok hmix (fun f args σ r h => (hc f args σ r h).1) fun f args σ r hm h => (hc f args σ r h).2 hm) run lE lM oE oM

/-! ### A number behind a pointer -/
/-- A block that holds one number. -/
def lrow (ty : Nat) (x : AV) : Blk := .row ty 1 [[x]] [(0, 1)] 1
theorem trVs_ups {ren : Nat → Nat} {tv : IntKind → Nat → AV} : ∀ l : List PV, trVs ren tv (l.map up) = l.map up
  | [] => rfl
  | p :: r => by simp only [List.map_cons, trVs]; rw [trVs_ups r]; cases p <;> rfl
theorem okVs_ups {n : Nat} {B0 : List Fact} : ∀ l : List PV, okVs n B0 (l.map up) = true
  | [] => rfl
  | p :: r => by simp only [List.map_cons, okVs, okVs_ups r, Bool.and_true]; cases p <;> rfl
/-- A call that turns the number behind a pointer is known wherever the number lies. -/
theorem call_at {V : Nm → Prop} {f : FuncId} {pa : List PV} {ty : Nat} {L L' : Int} {junk : Heap} (h : CallIn (fun x => x = (⟨fun _ => 0, fun _ => .nilp⟩ : Nm)) P f [.agg (pa.map up), .ptr 0 0 0 0] [lrow ty (.int .i64 L)] (.tup [], lrow ty (.int .i64 L') :: junk))
    {σ : Heap} {id : Nat} (hid : σ[id]? = some (lrow ty (.int .i64 L))) : CallIn V P f [.agg (pa.map up), .ptr id 0 0 0] σ (.tup [], σ.set id (lrow ty (.int .i64 L'))) := by
  have hlt : id < σ.length := (List.getElem?_eq_some_iff.1 hid).1
  have := ren_ok (V := V) (n := 1) (ren := fun _ => id) (tv := fun i _ => .int i 0) (B0 := []) (inv := fun a => if a = id then some 0 else none) (σ := σ) (σ' := σ.set id (lrow ty (.int .i64 L'))) h rfl rfl (fun f hf => by simp at hf)
    (fun a i => ?_) ?_ rfl rfl rfl ?_ ?_ (fun a ha => ?_) (by simp) (fun _ _ => rfl) (fun k i j u hu => by cases hu; rfl) (fun k i j => .int _ _)
  · simp only [trVs, trV, trVs_ups] at this
    exact this
  · constructor
    · intro ha
      split at ha
      · rename_i he; injection ha with ha; subst ha; subst he; exact ⟨by omega, rfl⟩
      · cases ha
    · rintro ⟨h1, h2⟩
      rw [if_pos h2.symm]; congr 1; omega
  · simp only [okVs, okV, okVs_ups, Bool.and_true]; rfl
  · intro i b hb
    rcases i with _ | i
    · have : b = lrow ty (.int .i64 L) := by simpa using hb.symm
      subst this; exact hid
    · simp at hb
  · intro i b hi hb
    have hi0 : i = 0 := by omega
    subst hi0
    have : b = lrow ty (.int .i64 L') := by simpa using hb.symm
    subst this
    rw [List.getElem?_set_self hlt]; rfl
  · split at ha
    · cases ha
    · rename_i hne
      rw [List.getElem?_set_ne (fun h => hne h.symm)]

/-- One block is told otherwise. -/
theorem Rel.blk {V : Nm → Prop} {k : Kn V} {σ : Heap} {w : World} (hR : Rel k σ w) {id ty sz next : Nat} {es es' : List (List AV)} {live : List (Nat × Nat)} (hid : σ[id]? = some (.row ty sz es live next))
    (h : All2 (All2 (fun x y => ∀ u, VRel k x u → VRel k y u)) es es') (hone : es'.all (fun e => e.all one) = true) : Rel k (σ.set id (.row ty sz es' live next)) w := by
  have hlt : id < σ.length := (List.getElem?_eq_some_iff.1 hid).1
  have look : ∀ {id2 : Nat} {b2 : Blk}, (σ.set id (Blk.row ty sz es' live next))[id2]? = some b2 → (id2 = id ∧ b2 = .row ty sz es' live next) ∨ (id2 ≠ id ∧ σ[id2]? = some b2) := by
    intro id2 b2 h
    by_cases hi : id2 = id
    · subst hi
      rw [List.getElem?_set_self hlt] at h
      injection h with h
      exact .inl ⟨rfl, h.symm⟩
    · rw [List.getElem?_set_ne (Ne.symm hi)] at h
      exact .inr ⟨hi, h⟩
  refine ⟨fun id2 ty2 sz2 es2 live2 next2 hb => ?_, hR.sep, hR.H, fun id2 ep l hm => ?_, fun id2 ty2 sz2 es2 live2 next2 hb => ?_, fun id2 es2 hb => ?_⟩
  · rcases look hb with ⟨rfl, hbb⟩ | ⟨_, hbb⟩
    · injection hbb with q1 q2 q3 q4 q5
      subst q1; subst q2; subst q3; subst q4; subst q5
      have r := hR.row _ _ _ _ _ _ hid
      refine ⟨r.pos, fun ep ext hl => by rw [← h.len]; exact r.eps ep ext hl, fun i e' he' => ?_, fun ep ext hl => ?_⟩
      · obtain ⟨e, he, hee⟩ := h.get i e' he'
        exact ⟨by rw [← hee.len]; exact (r.len i e he).1, fun y hy => List.all_eq_true.1 (List.all_eq_true.1 hone e' (List.mem_of_getElem? he')) y hy⟩
      · obtain ⟨l, c, fz, hm, h1, h2, h3, h4, h5, h6, h7, h8⟩ := r.loc ep ext hl
        refine ⟨l, c, fz, hm, h1, h2, h3, h4, h5, h6, h7, fun p e' j y hp1 hp2 he' hy => ?_⟩
        obtain ⟨e, he, hee⟩ := h.get p e' he'
        obtain ⟨x, hx, hr⟩ := hee.get j y hy
        obtain ⟨u, hu, hru⟩ := h8 p e j x hp1 hp2 he hx
        exact ⟨u, hu, hr u hru⟩
    · exact hR.row _ _ _ _ _ _ hbb
  · obtain ⟨h1, h2, h3⟩ := hR.fresh id2 ep l hm
    refine ⟨h1, by simpa using h2, fun ty2 sz2 es2 live2 next2 hb => ?_⟩
    rcases look hb with ⟨rfl, hbb⟩ | ⟨_, hbb⟩
    · injection hbb with q1 q2 q3 q4 q5
      subst q2; subst q5
      exact h3 _ _ _ _ _ hid
    · exact h3 _ _ _ _ _ hbb
  · rcases look hb with ⟨rfl, hbb⟩ | ⟨_, hbb⟩
    · injection hbb with q1 q2 q3 q4 q5
      subst q4
      exact hR.nodup _ _ _ _ _ _ hid
    · exact hR.nodup _ _ _ _ _ _ hbb
  · rcases look hb with ⟨rfl, hbb⟩ | ⟨_, hbb⟩
    · cases hbb
    · exact hR.mp _ _ hbb
theorem isRow_set {σ : Heap} {id ty sz next : Nat} {es : List (List AV)} {live : List (Nat × Nat)} {b : Blk} (hid : σ[id]? = some (.row ty sz es live next)) (hb : IsRow (some b)) (id2 : Nat) : IsRow (σ.set id b)[id2]? ↔ IsRow σ[id2]? := by
  by_cases hi : id2 = id
  · subst hi
    rw [List.getElem?_set_self (List.getElem?_eq_some_iff.1 hid).1, hid]
    exact ⟨fun _ => .inl ⟨_, _, _, _, _, rfl⟩, fun _ => hb⟩
  · rw [List.getElem?_set_ne (Ne.symm hi)]
/-- A call that turns the number behind a pointer, with told arguments and numbers. -/
theorem call_atT {v : Nm} {f : FuncId} {args argsT : List AV} {ty id : Nat} {L L' : Int} {x x' : AV} {σ : Heap} (hid : σ[id]? = some (lrow ty x)) (h : CallIn (fun y => y = v) P f args (σ.set id (lrow ty (.int .i64 L))) (.tup [], (σ.set id (lrow ty (.int .i64 L))).set id (lrow ty (.int .i64 L'))))
    (ha : All2 (Down v) argsT args) (hx : Down v x (.int .i64 L)) (hx' : Up v (.int .i64 L') x') (hone : one x' = true) : CallIn (fun y => y = v) P f argsT σ (.tup [], σ.set id (lrow ty x')) := by
  have hlt : id < σ.length := (List.getElem?_eq_some_iff.1 hid).1
  have r0 : ∀ y, IsRow (some (lrow ty y)) := fun y => .inl ⟨_, _, _, _, _, rfl⟩
  refine ⟨h.1, fun k w us hR hv => ?_⟩
  have hval : k.val = v := k.hv
  have hR1 : Rel k (σ.set id (lrow ty (.int .i64 L))) w := hR.blk hid (.cons (.cons (fun u hu => hx _ _ k k rfl rfl hval u hu) .nil) .nil) rfl
  refine Calls.mono (h.2 k w us hR1 ⟨by rw [← ha.len]; exact hv.1, fun j y u hy hu => ?_⟩) fun e w' he => ?_
  · obtain ⟨z, hz, hd⟩ := ha.get j y hy
    exact hd _ _ k k rfl rfl hval u (hv.2 j z u hz hu)
  · obtain ⟨k', u, rfl, hu, st⟩ := he
    have st : Step k (σ.set id (lrow ty (.int .i64 L))) w k' ((σ.set id (lrow ty (.int .i64 L))).set id (lrow ty (.int .i64 L'))) w' := st
    rw [List.set_set] at st
    have hid1 : (σ.set id (lrow ty (.int .i64 L')))[id]? = some (lrow ty (.int .i64 L')) := List.getElem?_set_self hlt
    have hR2 : Rel k' (σ.set id (lrow ty x')) w' := by
      have := st.rel.blk hid1 (es' := [[x']]) (.cons (.cons (fun u hu => hx' _ _ k' k' rfl rfl k'.hv u hu) .nil) .nil) (by simp [hone])
      rw [List.set_set] at this
      exact this
    have own : ∀ {b : Nat}, Owns k (σ.set id (lrow ty (.int .i64 L))) b → Owns k σ b := by
      rintro b ⟨i, ep, l, h1, h2, h3⟩
      exact ⟨i, ep, l, h1, h2, (isRow_set hid (r0 _) i).1 h3⟩
    refine ⟨k', u, rfl, hu, hR, st.le, hR2, ⟨st.fr.os, st.fr.tape, st.fr.output, st.fr.size, fun b hb hn => st.fr.block b hb fun ho => hn (own ho), fun b o ho => (st.fr.newH b o ho).imp (fun h => h) fun h => h.imp (fun h => h) own, fun i ep l hm => (st.fr.newμ i ep l hm).imp (fun h => h) fun h => h.imp (fun h => h) own, fun i hi hr => ?_, by simp, fun i ep hi hr => ?_⟩⟩
    · exact (isRow_set hid (r0 _) i).1 (st.fr.rows i (by simpa using hi) ((isRow_set hid (r0 _) i).2 ((isRow_set hid (r0 _) i).1 hr)))
    · exact st.fr.hol i ep (by simpa using hi) fun h => hr ((isRow_set hid (r0 _) i).1 h)

noncomputable def eqL (a b : Blk) : Bool := match a, b with
  | .row t s [[x]] [(0, 1)] 1, .row t' s' [[y]] [(0, 1)] 1 => Nat.beq t t' && Nat.beq s s' && eqA x y
  | _, _ => false
theorem eqL_eq {a : Blk} {ty : Nat} {y : AV} (h : eqL a (lrow ty y) = true) : a = lrow ty y := by
  unfold eqL lrow at h
  split at h
  · rename_i t s x t' s' y' heq
    simp only [Bool.and_eq_true] at h
    injection heq with q1 q2 q3 q4 q5
    subst q1; subst q2
    injection q3 with q3 _
    injection q3 with q3 _
    subst q3
    rw [Nat.eq_of_beq_eq_true h.1.1, Nat.eq_of_beq_eq_true h.1.2, eqA_eq h.2]
    rfl
  · cases h
/-- A known call that turns the number behind its pointer. -/
noncomputable def ovrN (g : FuncId) (a : AV) (ty : Nat) (x x' : AV) : CallF := fun f args σ => match Nat.beq f g, args with
  | true, [b, .ptr id 0 0 0] => match σ[id]? with
    | some c => if eqA b a && eqL c (lrow ty x) then some (.tup [], σ.set id (lrow ty x')) else none
    | none => none
  | _, _ => none
theorem ovrN_ok {v : Nm} {g : FuncId} {a : AV} {pa : List PV} {ty : Nat} {x x' : AV} {L L' : Int} {junk : Heap} (h : CallIn (fun x => x = (⟨fun _ => 0, fun _ => .nilp⟩ : Nm)) P g [.agg (pa.map up), .ptr 0 0 0 0] [lrow ty (.int .i64 L)] (.tup [], lrow ty (.int .i64 L') :: junk))
    (ha : Down v a (.agg (pa.map up))) (hx : Down v x (.int .i64 L)) (hx' : Up v (.int .i64 L') x') (hone : one x' = true) (f : FuncId) (args : List AV) (σ : Heap) (r : AV × Heap) (hr : ovrN g a ty x x' f args σ = some r) :
    CallOK (fun y => y = v) P f args σ r ∧ f = g := by
  unfold ovrN at hr
  split at hr
  · rename_i b id hf
    have hf : f = g := Nat.eq_of_beq_eq_true hf
    subst hf
    split at hr
    · rename_i c hc
      split at hr
      · rename_i he
        simp only [Bool.and_eq_true] at he
        injection hr with hr; subst hr
        rw [eqA_eq he.1]
        rw [eqL_eq he.2] at hc
        refine ⟨.inl (call_atT hc (call_at h (List.getElem?_set_self (List.getElem?_eq_some_iff.1 hc).1)) (.cons ha (.cons (Down.same rfl) .nil)) hx hx' hone), rfl⟩
      · cases hr
    · cases hr
  · cases hr
end
end Go.Dx
