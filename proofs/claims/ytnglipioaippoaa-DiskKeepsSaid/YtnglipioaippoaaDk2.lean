/- Memory of the call's own that will not turn any more is told by value. -/
import Derived.Test.YtnglipioaippoaaDk1
namespace Go.Dx
mutual
def noI (i : Nat) : AV → Bool
  | .ptr id _ _ _ => !Nat.beq id i
  | .sl id _ _ _ => !Nat.beq id i
  | .map id => !Nat.beq id i
  | .agg l => noIs i l
  | .tup l => noIs i l
  | .fn _ a b => noIs i a && noIs i b
  | .ifc _ v => noI i v
  | .mfn _ v => noI i v
  | .lsl _ _ _ _ cs => noIs i cs
  | .wptr cs => noIs i cs
  | _ => true
def noIs (i : Nat) : List AV → Bool
  | [] => true
  | v :: r => noI i v && noIs i r
end
def noIB (i : Nat) : Blk → Bool
  | .hole => true
  | .row _ _ es _ _ => es.all (noIs i)
  | .mp es => es.all fun p => noI i p.1 && noI i p.2
theorem noIs_get {i : Nat} : ∀ {l : List AV} {j : Nat} {v : AV}, noIs i l = true → l[j]? = some v → noI i v = true
  | [], j, v, _, h => by simp at h
  | x :: r, 0, v, hl, h => by
    simp at h; subst h
    simp only [noIs, Bool.and_eq_true] at hl
    exact hl.1
  | x :: r, j + 1, v, hl, h => by
    simp only [noIs, Bool.and_eq_true] at hl
    exact noIs_get hl.2 (by simpa using h)
theorem noIs_ups {i : Nat} : ∀ l : List PV, noIs i (l.map up) = true
  | [] => rfl
  | p :: r => by simp only [List.map_cons, noIs, noIs_ups r, Bool.and_true]; cases p <;> rfl
theorem noIB_ups {i ty sz nx : Nat} {live : List (Nat × Nat)} (es : List (List PV)) : noIB i (.row ty sz (es.map (·.map up)) live nx) = true := by
  simp only [noIB, List.all_eq_true]
  intro e he
  obtain ⟨e', _, rfl⟩ := List.mem_map.1 he
  exact noIs_ups e'

variable {V : Nm → Prop}
/-- A block is told by value from now on. -/
noncomputable def Kn.fz (k : Kn V) (w : World) (id cb : Nat) : Kn V := ⟨fun b => if b = cb then w.heap[b]? else k.H b, fun i e => if i = id then none else k.μ i e, k.val, k.hv⟩
section
variable {k : Kn V} {w : World} {id cb : Nat}
theorem fz_H (hcb : k.H cb = none) : ∀ b o, k.H b = some o → (k.fz w id cb).H b = some o := by
  intro b o h
  show (if b = cb then w.heap[b]? else k.H b) = some o
  by_cases hb : b = cb
  · subst hb; rw [hcb] at h; cases h
  · rw [if_neg hb]; exact h
theorem fz_μ {i e : Nat} (h : i ≠ id) : (k.fz w id cb).μ i e = k.μ i e := if_neg h
theorem fz_some {i e : Nat} {l : Loc} (h : (k.fz w id cb).μ i e = some l) : i ≠ id ∧ k.μ i e = some l := by
  have h' : (if i = id then none else k.μ i e) = some l := h
  split at h'
  · cases h'
  · rename_i hne; exact ⟨hne, h'⟩
theorem fz_v (hcb : k.H cb = none) {v : AV} {u : Value} (h : VRel k v u) : noI id v = true → VRel (k.fz w id cb) v u := by
  have hH := fz_H (w := w) (id := id) hcb
  have ne : ∀ {a b : Nat}, (!Nat.beq a b) = true → a ≠ b := fun h he => by subst he; simp [Nat.beq_refl] at h
  induction h with
  | und => intro _; exact .und
  | bool b => intro _; exact .bool b
  | int i n => intro _; exact .int i n
  | str s => intro _; exact .str s
  | nilp => intro _; exact .nilp
  | ptr i ep idx sub l hm hs => intro hl; simp only [noI] at hl; exact .ptr i ep idx sub l (by rw [fz_μ (ne hl)]; exact hm) hs
  | rptr cs b o c ty fz f hh hc hv => intro _; exact .rptr cs b o c ty fz f (hH _ _ hh) hc (fun j v hj => (hv j v hj).mono hH)
  | nils => intro _; exact .nils
  | emp a => intro _; exact .emp a
  | sl i ep off len l a cap hm hs hl ha hn => intro hlo; simp only [noI] at hlo; exact .sl i ep off len l a cap (by rw [fz_μ (ne hlo)]; exact hm) hs hl ha hn
  | ro full es u h => intro _; exact .ro full es u (h.mono hH)
  | agg cs us hl _ ih => intro hlo; simp only [noI] at hlo; exact .agg cs us hl fun j v u hv hu => ih j v u hv hu (noIs_get hlo hv)
  | tup cs us hl _ ih => intro hlo; simp only [noI] at hlo; exact .tup cs us hl fun j v u hv hu => ih j v u hv hu (noIs_get hlo hv)
  | nilm => intro _; exact .nilm
  | fn f fs cs us vs hf _ hc _ ih1 ih2 =>
    intro hlo
    simp only [noI, Bool.and_eq_true] at hlo
    exact .fn f fs cs us vs hf (fun j v u hv hu => ih1 j v u hv hu (noIs_get hlo.1 hv)) hc fun j v u hv hu => ih2 j v u hv hu (noIs_get hlo.2 hv)
  | nilf => intro _; exact .nilf
  | nili => intro _; exact .nili
  | map i l hm => intro hl; simp only [noI] at hl; exact .map i l (by rw [fz_μ (ne hl)]; exact hm)
  | ifc t v u _ ih => intro hl; simp only [noI] at hl; exact .ifc t v u (ih hl)
  | mfn m v u _ ih => intro hl; simp only [noI] at hl; exact .mfn m v u (ih hl)
  | tok B i j h => intro _; exact .tok B i j h
  | osl B j a len cap h hl => intro _; exact .osl B j a len cap h hl
  | stk E B j l s hp hE hB hl => intro _; exact .stk E B j l s hp hE hB hl
  | lsl B j n' i cs u len g hp hB hl hn hw _ ih => intro hlo; simp only [noI] at hlo; exact .lsl B j n' i cs u len g (hp.mono hH) hB hl hn (fun h => (hw h).mono hH) (fun q c hq => ih q c hq (noIs_get hlo hq))
  | wptr cs b o c ty fz g hh hc _ ih => intro hlo; simp only [noI] at hlo; exact .wptr cs b o c ty fz g (hH _ _ hh) hc (fun q c hq => ih q c hq (noIs_get hlo hq))
  | lsq T B j n' u len hp hB hT hl hn => intro _; exact .lsq T B j n' u len (hp.mono hH) hB hT hl hn

theorem fz_rel {σ : Heap} (hR : Rel k σ w) {l : Loc} (hm : k.μ id 0 = some l) (hH : k.H l.cb = none) (hno : (σ.set id .hole).all (noIB id) = true) : Rel (k.fz w id l.cb) (σ.set id .hole) w := by
  have look : ∀ {id2 : Nat} {b : Blk}, (σ.set id .hole)[id2]? = some b → b ≠ .hole → id2 ≠ id ∧ σ[id2]? = some b := by
    intro id2 b hb hne
    by_cases hi : id2 = id
    · subst hi
      rcases Nat.lt_or_ge id2 σ.length with hlt | hge
      · rw [List.getElem?_set_self hlt] at hb; injection hb with hb; exact absurd hb.symm hne
      · rw [List.getElem?_eq_none (by simpa using hge)] at hb; cases hb
    · rw [List.getElem?_set_ne (Ne.symm hi)] at hb; exact ⟨hi, hb⟩
  refine ⟨fun id2 ty sz es live next hb => ?_, fun i1 i2 e1 e2 l1 l2 h1 h2 hcb => hR.sep i1 i2 e1 e2 l1 l2 (fz_some h1).2 (fz_some h2).2 hcb, fun b o hb => ?_, fun i e l2 h2 => ?_, fun id2 ty sz es live next hb => hR.nodup id2 ty sz es live next (look hb (by simp)).2, fun id2 es hb => ?_⟩
  · obtain ⟨hne, hb1⟩ := look hb (by simp)
    have r := hR.row id2 ty sz es live next hb1
    refine ⟨r.pos, r.eps, r.len, fun ep ext hl => ?_⟩
    obtain ⟨l2, c, fz, hm2, g1, g2, g3, g4, g5, g6, g7, g8⟩ := r.loc ep ext hl
    refine ⟨l2, c, fz, by rw [fz_μ hne]; exact hm2, g1, g2, ?_, g4, g5, g6, g7, fun p e j v hp1 hp2 he hv => ?_⟩
    · show (if l2.cb = l.cb then w.heap[l2.cb]? else k.H l2.cb) = none
      rw [if_neg fun he => hne (hR.sep id2 id ep 0 l2 l hm2 hm he).1]; exact g3
    · obtain ⟨u, hu, hru⟩ := g8 p e j v hp1 hp2 he hv
      refine ⟨u, hu, fz_v hH hru ?_⟩
      have := List.all_eq_true.1 hno _ (List.mem_of_getElem? hb)
      simp only [noIB, List.all_eq_true] at this
      exact noIs_get (this e (List.mem_of_getElem? he)) hv
  · have hb' : (if b = l.cb then w.heap[b]? else k.H b) = some o := hb
    split at hb'
    · exact hb'
    · exact hR.H b o hb'
  · obtain ⟨hne, h3⟩ := fz_some h2
    obtain ⟨f1, f2, f3⟩ := hR.fresh i e l2 h3
    exact ⟨f1, by simpa using f2, fun ty sz es live next hb => f3 ty sz es live next (look hb (by simp)).2⟩
  · obtain ⟨hne, hb1⟩ := look hb (by simp)
    obtain ⟨l2, ents, ck, m1, m2, m3, m4⟩ := hR.mp id2 es hb1
    refine ⟨l2, ents, ck, by rw [fz_μ hne]; exact m1, ?_, m3, m4.1, fun j a e ha he => ?_⟩
    · show (if l2.cb = l.cb then w.heap[l2.cb]? else k.H l2.cb) = none
      rw [if_neg fun he => hne (hR.sep id2 id 0 0 l2 l m1 hm he).1]; exact m2
    · have := List.all_eq_true.1 hno _ (List.mem_of_getElem? hb)
      simp only [noIB, List.all_eq_true, Bool.and_eq_true] at this
      have hn := this a (List.mem_of_getElem? ha)
      have := m4.2 j a e ha he
      exact ⟨fz_v hH this.1 hn.1, fz_v hH this.2 hn.2⟩
theorem fz_step {k0 : Kn V} {σ0 σ : Heap} {w0 : World} (st : Step k0 σ0 w0 k σ w) (hge : σ0.length ≤ id) {l : Loc} (hm : k.μ id 0 = some l) (hH : k.H l.cb = none) (hno : (σ.set id .hole).all (noIB id) = true) : Step k0 σ0 w0 (k.fz w id l.cb) (σ.set id .hole) w := by
  have hne : ∀ {i : Nat}, i < σ0.length → i ≠ id := fun h => by omega
  refine ⟨st.rel0, ⟨fun b o h => fz_H hH b o (st.le.H b o h), fun i e l2 h => ?_, st.le.val⟩, fz_rel st.rel hm hH hno, ⟨st.fr.os, st.fr.tape, st.fr.output, st.fr.size, st.fr.block, fun b o h => ?_, fun i e l2 h => st.fr.newμ i e l2 (fz_some h).2, fun i hi hr => ?_, by simpa using st.fr.len, fun i e hi hr => ?_⟩⟩
  · rw [fz_μ (hne (st.rel0.fresh i e l2 h).2.1)]; exact st.le.μ i e l2 h
  · have h' : (if b = l.cb then w.heap[b]? else k.H b) = some o := h
    split at h'
    · rename_i hb
      subst hb
      rcases st.fr.newμ id 0 l hm with h1 | h1 | h1
      · have := (st.rel0.fresh id 0 l h1).2.1; omega
      · exact .inr (.inl h1)
      · exact .inr (.inr h1)
    · exact st.fr.newH b o h'
  · rw [List.getElem?_set_ne (Ne.symm (hne hi))] at hr; exact st.fr.rows i hi hr
  · rw [fz_μ (hne hi)]; exact st.fr.hol i e hi hr
/-- The slice, told by value. -/
theorem fz_sl {σ : Heap} (hR : Rel k σ w) {ty n nx : Nat} {es : List (List PV)} (hid : σ[id]? = some (.row ty 1 (es.map (·.map up)) [(0, n)] nx)) (hn : es.length = n) (h1 : ∀ e ∈ es, e.length = 1) (hp : 0 < n) {u : Value} (hu : VRel k (.sl id 0 0 n) u) :
    ∃ l, k.μ id 0 = some l ∧ k.H l.cb = none ∧ PRel (k.fz w id l.cb).H (.ro false es) u := by
  have r := hR.row id ty 1 _ _ nx hid
  obtain ⟨l, c, fz, hm, g1, g2, g3, g4, g5, g6, g7, g8⟩ := r.loc 0 n (by simp)
  cases hu with
  | sl _ _ _ _ l2 a cap hm2 hs2 hl ha hcap =>
    rw [hm] at hm2; injection hm2 with hm2; subst hm2
    have hs0 : l.s = 0 := by omega
    have ha' : a = ⟨l.cb, 0, none⟩ := by
      rcases ha with ha | ha
      · omega
      · rw [ha, hs0]; simp
    subst ha'
    have get : ∀ (i : Nat) (e : List PV) (j : Nat) (v : PV), es[i]? = some e → e[j]? = some v → ∃ x, c[i * 1 + j]? = some x ∧ PRel k.H v x := by
      intro i e j v hi hj
      have hi' := (List.getElem?_eq_some_iff.1 hi).1
      obtain ⟨x, hx, hr⟩ := g8 i (e.map up) j (up v) (by omega) (by omega) (by rw [List.getElem?_map, hi]; rfl) (by rw [List.getElem?_map, hj]; rfl)
      rw [hs0, Nat.sub_zero] at hx
      exact ⟨x, hx, VRel.pv hr⟩
    refine ⟨l, hm, g3, ?_⟩
    have := PRel.ro (H := (k.fz w id l.cb).H) false es ⟨l.cb, 0, none⟩ cap 1 c ty fz (fun i j => c[i * 1 + j]?.getD undef) rfl (fun _ => ?_) (by omega) (by simp) (fun i e hi => h1 e (List.mem_of_getElem? hi)) (fun i e j v hi hj => ?_) (fun i e j v hi hj => ?_)
    · rw [hn] at this; exact this
    · show (if l.cb = l.cb then w.heap[l.cb]? else k.H l.cb) = _
      rw [if_pos rfl]; exact g4
    · obtain ⟨x, hx, _⟩ := get i e j v hi hj
      simp only [Nat.zero_add]; rw [hx]; rfl
    · obtain ⟨x, hx, hr⟩ := get i e j v hi hj
      rw [hx]; exact hr.mono (fz_H g3)
end

/-- A new slice is told by value. -/
theorem Goes.freeze {P : Program} {nn : Nat} {c : Code} {E E1 E' : Env} {M M1 : Heap} {x : AX} (h : Goes P nn c E M x E1 M1) {id ty n nx : Nat} {es : List (List PV)} (hid : M1[id]? = some (.row ty 1 (es.map (·.map up)) [(0, n)] nx)) (hn : es.length = n) (h1 : ∀ e ∈ es, e.length = 1) (hp : 0 < n) (hge : M.length ≤ id)
    (hno : (M1.set id .hole).all (noIB id) = true) {s0 : Nat} (hs0 : E1.get s0 = some (.sl id 0 0 n)) (hE : ∀ s v, E'.get s = some v → (E1.get s = some v ∧ noI id v = true) ∨ (v = .ro false es ∧ s = s0)) : Goes P nn c E M x E' (M1.set id .hole) := by
  intro V k w a D hR hE0 Q hQ
  refine h V k w a D hR hE0 fun k' a' w' st he => ?_
  obtain ⟨u, hu, hru⟩ := he.get s0 _ hs0
  obtain ⟨l, hm, hH, hpr⟩ := fz_sl st.rel hid hn h1 hp hru
  refine hQ (k'.fz w' id l.cb) a' w' (fz_step st hge hm hH hno) ⟨he.size, fun s v hv => ?_, he.defers⟩
  rcases hE s v hv with ⟨h2, h3⟩ | ⟨rfl, rfl⟩
  · obtain ⟨u2, hu2, hru2⟩ := he.get s v h2
    exact ⟨u2, hu2, fz_v hH hru2 h3⟩
  · exact ⟨u, hu, .ro false es u hpr⟩

/-! ### A call that is the same wherever it stands, whose result is told by value -/
theorem call_pure {P : Program} {f : FuncId} {args : List AV} {r r2 : AV} {σ' : Heap} (h : ∀ V, CallIn V P f args [] (r, σ')) (ha : args.all pureA = true) (hs : snapR σ' snapDepth r = some r2) {V : Nm → Prop} (σ : Heap) : CallIn V P f args σ (r2, σ) := by
  classical
  refine ⟨(h V).1, fun k w us hR hv => ?_⟩
  let run : List AV → Heap → Option (AV × Heap) := fun bs s => if bs = args ∧ s = [] then some (r, σ') else none
  have hm : modeA run 1 args σ = some (r2, σ) := by
    show (if args.all pureA then (match run args [] with
      | some (r, σ') => (snapR σ' snapDepth r).map (·, σ)
      | none => none) else none) = _
    have hr : run args [] = some (r, σ') := if_pos ⟨rfl, rfl⟩
    rw [if_pos ha, hr]
    simp only [hs, Option.map_some]
  refine bare_ok (run := run) (C := fun us w R => Calls P f us w R) (fun us w R R' hC hR => Calls.mono hC hR) (fun bs s r' hr k2 w2 us2 hR2 hv2 => ?_) hm hR hv
  have hr' : (if bs = args ∧ s = [] then some (r, σ') else none) = some r' := hr
  split at hr'
  · rename_i hc
    obtain ⟨rfl, rfl⟩ := hc
    injection hr' with hr'; subst hr'
    exact (h V).2 k2 w2 us2 hR2 hv2
  · cases hr'
theorem snapP_sl {σ : Heap} {m id ep off len : Nat} {es : List (List AV)} (h : elemsA σ (.sl id ep off len) = some es) : snapP σ (m + 1) (.sl id ep off len) = (mapO (mapO (snapP σ m)) es).map (.ro false) := by
  simp only [snapP, h]
theorem mapO_ups {σ : Heap} {m : Nat} : ∀ l : List PV, (∀ p ∈ l, ∃ k n, p = .int k n) → mapO (snapP σ (m + 1)) (l.map up) = some l
  | [], _ => rfl
  | p :: r, h => by
    obtain ⟨k, n, rfl⟩ := h p List.mem_cons_self
    simp only [List.map_cons, mapO, mapO_ups r fun p hp => h p (List.mem_cons_of_mem _ hp)]
    rfl
theorem mapO_upss {σ : Heap} {m : Nat} : ∀ l : List (List PV), (∀ e ∈ l, ∀ p ∈ e, ∃ k n, p = .int k n) → mapO (mapO (snapP σ (m + 1))) (l.map (·.map up)) = some l
  | [], _ => rfl
  | e :: r, h => by
    simp only [List.map_cons, mapO, mapO_ups e (h e List.mem_cons_self), mapO_upss r fun e he => h e (List.mem_cons_of_mem _ he)]
end Go.Dx
namespace Go.Proofs.Ytnglipioaippoaa.T.Disk
open Go.Dx Go.Proofs
/-- 'Clone' of bytes that are told by value. -/
theorem clone_told {V : Nm → Prop} {σ : Heap} {f : Bool} {es : List (List PV)} (h1 : ∀ e ∈ es, e.length = 1) (hi : ∀ e ∈ es, ∀ p ∈ e, ∃ k n, p = PV.int k n) (hne : es ≠ []) (hl : es.length ≤ 1000000) : CallIn V Try.prog 41 [.ro f es] σ (.ro false es, σ) := by
  refine call_pure (fun V => clone_ro (σ := []) h1 hne hl) rfl ?_ σ
  have hel : elemsA (newA [] 5 1 (es.map (·.map up))) (.sl 0 0 0 es.length) = some (es.map (·.map up)) := by
    simp only [elemsA, newA, newB, List.nil_append, List.getElem?_cons_zero, lookE, beq_self_eq_true, if_true, Nat.zero_add, List.length_map, Nat.le_refl, List.drop_zero]
    rw [List.take_of_length_le (by simp)]
  have e : snapP (newA [] 5 1 (es.map (·.map up))) snapDepth (.sl 0 0 0 es.length) = some (.ro false es) := (snapP_sl (m := 59) hel).trans (by
    rw [mapO_upss (m := 58) es hi]; rfl)
  show (snapP (newA [] 5 1 (es.map (·.map up))) snapDepth (.sl 0 0 0 es.length)).map up = _
  rw [e]
  rfl
end Go.Proofs.Ytnglipioaippoaa.T.Disk
