/- Plain values and values that are told by names: from the one to the other; pieces of code, and what they come to, for every valuation. -/
import Derived.Test.YtnglipioaippoaaEyP
import Derived.Test.YtnglipioaippoaaEcut
namespace Go.Dx

inductive All2 {α β : Type} (R : α → β → Prop) : List α → List β → Prop
  | nil : All2 R [] []
  | cons {a : α} {b : β} {l : List α} {m : List β} (h : R a b) (t : All2 R l m) : All2 R (a :: l) (b :: m)
theorem All2.len {α β : Type} {R : α → β → Prop} {l : List α} {m : List β} (h : All2 R l m) : l.length = m.length := by
  induction h with
  | nil => rfl
  | cons _ _ ih => simp [ih]
theorem All2.get {α β : Type} {R : α → β → Prop} {l : List α} {m : List β} (h : All2 R l m) : ∀ (j : Nat) (y : β), m[j]? = some y → ∃ x, l[j]? = some x ∧ R x y := by
  induction h with
  | nil => intro j y hy; simp at hy
  | cons hab _ ih =>
    intro j y hy
    cases j with
    | zero => simp at hy; subst hy; exact ⟨_, rfl, hab⟩
    | succ j => simp at hy; obtain ⟨x, hx, hr⟩ := ih j y hy; exact ⟨x, by simpa using hx, hr⟩
theorem All2.get' {α β : Type} {R : α → β → Prop} {l : List α} {m : List β} (h : All2 R l m) : ∀ (j : Nat) (x : α), l[j]? = some x → ∃ y, m[j]? = some y ∧ R x y := by
  induction h with
  | nil => intro j y hy; simp at hy
  | cons hab _ ih =>
    intro j y hy
    cases j with
    | zero => simp at hy; subst hy; exact ⟨_, rfl, hab⟩
    | succ j => simp at hy; obtain ⟨x, hx, hr⟩ := ih j y hy; exact ⟨x, by simpa using hx, hr⟩
theorem All2.mono {α β : Type} {R S : α → β → Prop} (hRS : ∀ a b, R a b → S a b) {l : List α} {m : List β} (h : All2 R l m) : All2 S l m := by
  induction h with
  | nil => exact .nil
  | cons h _ ih => exact .cons (hRS _ _ h) ih

/-- The same, with names that mean v. -/
def Kn.nm {V : Nm → Prop} (k : Kn V) (v : Nm) : Kn (fun x => x = v) := ⟨k.H, k.μ, v, rfl⟩

/-- A plain value may be told so; what is told so is this plain value. -/
def Up (v : Nm) (x y : AV) : Prop := ∀ (V V' : Nm → Prop) (k : Kn V) (k' : Kn V'), k'.H = k.H → k'.μ = k.μ → k'.val = v → ∀ u, VRel k x u → VRel k' y u
def Down (v : Nm) (y x : AV) : Prop := ∀ (V V' : Nm → Prop) (k : Kn V) (k' : Kn V'), k'.H = k.H → k'.μ = k.μ → k.val = v → ∀ u, VRel k y u → VRel k' x u

section
variable {v : Nm}
/-- Values without names. -/
def noN : AV → Bool
  | .und | .bool _ | .int _ _ | .str _ | .nilp | .ptr _ _ _ _ | .rptr _ | .nils | .emp | .sl _ _ _ _ | .ro _ _ | .nilm | .nilf | .nili | .map _ => true
  | _ => false
theorem noN_turn {x : AV} (hx : noN x = true) {V V' : Nm → Prop} (k : Kn V) (k' : Kn V') (hH : k'.H = k.H) (hμ : k'.μ = k.μ) (u : Value) (h : VRel k x u) : VRel k' x u := by
  cases h with
  | und => exact .und
  | bool b => exact .bool b
  | int i n => exact .int i n
  | str s => exact .str s
  | nilp => exact .nilp
  | ptr id ep idx sub l hm hs => exact .ptr id ep idx sub l (by rw [hμ]; exact hm) hs
  | rptr cs b o c ty fz f h1 hc hv => exact .rptr cs b o c ty fz f (by rw [hH]; exact h1) hc (by rw [hH]; exact hv)
  | nils => exact .nils
  | emp a => exact .emp a
  | sl id ep off len l a cap hm hs hl ha hn => exact .sl id ep off len l a cap (by rw [hμ]; exact hm) hs hl ha hn
  | ro full es u h => exact .ro full es u (by rw [hH]; exact h)
  | nilm => exact .nilm
  | nilf => exact .nilf
  | nili => exact .nili
  | map id l hm => exact .map id l (by rw [hμ]; exact hm)
  | _ => cases hx
theorem Up.same {x : AV} (hx : noN x = true) : Up v x x := fun _ _ k k' hH hμ _ u h => noN_turn hx k k' hH hμ u h
theorem Down.same {x : AV} (hx : noN x = true) : Down v x x := fun _ _ k k' hH hμ _ u h => noN_turn hx k k' hH hμ u h
theorem noN_up (p : PV) : noN (up p) = true := by cases p <;> rfl
theorem Up.tok {B : List Fact} (hB : Valid v B) (i : IntKind) (j : Nat) {n : Int} (hn : v j = n) : Up v (.int i n) (.tok B i j) := by
  intro V V' k k' hH hμ hv u h
  cases h
  have := VRel.tok (k := k') B i j (by rw [hv]; exact hB)
  rw [hv, hn] at this
  exact this
theorem Down.tok {B : List Fact} (i : IntKind) (j : Nat) {n : Int} (hn : v j = n) : Down v (.tok B i j) (.int i n) := by
  intro V V' k k' hH hμ hv u h
  cases h
  rw [hv, hn]
  exact .int i n
theorem Up.stk {E : List (Nat × Option Nat × Bool)} {B : List Fact} (hE : ValidT v.p E) (hB : Valid v B) (j l : Nat) {s : ByteArray} (hs : v.p j = .str s) (hl : v l = (s.size : Int)) : Up v (.str s) (.stk E B j l) := by
  intro V V' k k' hH hμ hv u h
  cases h
  exact .stk E B j l s (by rw [hv]; exact hs) (by rw [hv]; exact hE) (by rw [hv]; exact hB) (by rw [hv]; exact hl.symm)
theorem Down.stk {E : List (Nat × Option Nat × Bool)} {B : List Fact} (j l : Nat) {s : ByteArray} (hs : v.p j = .str s) : Down v (.stk E B j l) (.str s) := by
  intro V V' k k' hH hμ hv u h
  cases h with
  | stk _ _ _ _ s' hp _ _ _ =>
    rw [hv, hs] at hp
    injection hp with hp; subst hp
    exact .str s
theorem VRel.pv {V : Nm → Prop} {k : Kn V} {p : PV} {u : Value} (h : VRel k (up p) u) : PRel k.H p u := by
  cases p with
  | bool b => cases h; exact .bool b
  | int i n => cases h; exact .int i n
  | str s => cases h; exact .str s
  | nilp => cases h; exact .nilp
  | nils => cases h; exact .nils
  | emp => cases h; exact .emp _
  | ro f es => cases h with | ro _ _ _ h => exact h
  | nilm => cases h; exact .nilm
  | nilf => cases h; exact .nilf
  | nili => cases h; exact .nili
theorem Down.lsl {B : List Fact} (j n : Nat) (i : IV) (cs : List AV) {p : PV} (hp : v.p j = p) : Down v (.lsl B j n i cs) (up p) := by
  intro V V' k k' hH hμ hv u h
  cases h with
  | lsl _ _ _ _ _ _ len g h _ _ _ _ _ =>
    rw [hv, hp] at h
    exact VRel.of_up (by rw [hH]; exact h)
theorem Up.lst {B : List Fact} (hB : Valid v B) (j n : Nat) (i : IV) {p : PV} {len : Nat} (hp : v.p j = p) (hl : lenP p = some len) (hn : v n = (len : Int)) : Up v (up p) (.lsl B j n i []) := by
  intro V V' k k' hH hμ hv u h
  exact .lsl B j n i [] u len (fun _ => undef) (by rw [hv, hp, hH]; exact h.pv) (by rw [hv]; exact hB) (by rw [hv, hp]; exact hl) (by rw [hv]; exact hn.symm) (fun h => absurd rfl h) (fun q c hq => by simp at hq)
/-- A list, of which one element is told. -/
theorem Up.lsl {B : List Fact} (hB : Valid v B) (j n : Nat) (i : IV) {f : Bool} {es : List (List PV)} {m : Nat} {e : List PV} {cs : List AV} (hp : v.p j = .ro f es) (hn : v n = (es.length : Int)) (hi : i.val v = (m : Nat)) (he : es[m]? = some e)
    (hcs : All2 (fun p c => Up v (up p) c) e cs) : Up v (.ro f es) (.lsl B j n i cs) := by
  intro V V' k k' hH hμ hv u h
  have hpr : PRel k'.H (.ro f es) u := by rw [hH]; exact VRel.pv (p := .ro f es) h
  cases hpr with
  | ro _ _ a cap sz c ty fz g hs hh hl hf hz hc hvv =>
    have hm : m < es.length := (List.getElem?_eq_some_iff.1 he).1
    have hne : es ≠ [] := by intro h0; subst h0; simp at hm
    have hez := hz m e he
    refine .lsl B j n i cs _ es.length (g m) (by rw [hv, hp]; exact VRel.pv (p := .ro f es) (noN_turn rfl k k' hH hμ _ h)) (by rw [hv]; exact hB) (by rw [hv, hp]; rfl) (by rw [hv]; exact hn.symm) (fun _ => ?_) (fun q x hq => ?_)
    · refine ⟨a, es.length, cap, c, ty, fz, m, rfl, hs, hh hne, by rw [hv]; exact hi, hm, fun q hq => ?_⟩
      rw [← hcs.len, hez] at hq ⊢
      exact hc m e q _ he (List.getElem?_eq_getElem (by omega))
    · obtain ⟨p, hp', hu⟩ := hcs.get q x hq
      exact hu _ _ k k' hH hμ hv _ (VRel.of_up (by rw [← hH]; exact hvv m e q p he hp'))
theorem Up.agg {xs ys : List AV} (h : All2 (Up v) xs ys) : Up v (.agg xs) (.agg ys) := by
  intro V V' k k' hH hμ hv u hu
  cases hu with
  | agg _ us hl hc => exact .agg ys us (by rw [← h.len]; exact hl) fun j y u hy hu => by obtain ⟨x, hx, hr⟩ := h.get j y hy; exact hr _ _ k k' hH hμ hv u (hc j x u hx hu)
theorem Down.agg {xs ys : List AV} (h : All2 (Down v) xs ys) : Down v (.agg xs) (.agg ys) := by
  intro V V' k k' hH hμ hv u hu
  cases hu with
  | agg _ us hl hc => exact .agg ys us (by rw [← h.len]; exact hl) fun j y u hy hu => by obtain ⟨x, hx, hr⟩ := h.get j y hy; exact hr _ _ k k' hH hμ hv u (hc j x u hx hu)
end

/-! ### Memory -/
inductive BT (R : AV → AV → Prop) : Blk → Blk → Prop
  | hole : BT R .hole .hole
  | row {ty sz : Nat} {es es' : List (List AV)} {live : List (Nat × Nat)} {next : Nat} (h : All2 (All2 R) es es') (h1 : es'.all (fun e => e.all one) = true) : BT R (.row ty sz es live next) (.row ty sz es' live next)
/-- Some blocks are told no more. -/
inductive BD (R : AV → AV → Prop) : Blk → Blk → Prop
  | drop (b : Blk) : BD R b .hole
  | keep {b b' : Blk} (h : BT R b b') : BD R b b'

theorem Rel.turn {V V' : Nm → Prop} {k : Kn V} {k' : Kn V'} {σ σ' : Heap} {w : World} (hR : Rel k σ w) (hH : k'.H = k.H) (hμ : k'.μ = k.μ) (h : All2 (BD (fun x y => ∀ u, VRel k x u → VRel k' y u)) σ σ') : Rel k' σ' w := by
  have look : ∀ {id ty sz next : Nat} {es' : List (List AV)} {live : List (Nat × Nat)}, σ'[id]? = some (.row ty sz es' live next) → ∃ es, σ[id]? = some (.row ty sz es live next) ∧ All2 (All2 (fun x y => ∀ u, VRel k x u → VRel k' y u)) es es' ∧ es'.all (fun e => e.all one) = true := by
    intro id ty sz next es' live hb
    obtain ⟨b, hb1, hb2⟩ := h.get id _ hb
    cases hb2 with
    | keep hk => cases hk with | row h1 h2 => exact ⟨_, hb1, h1, h2⟩
  have nomp : ∀ {id : Nat} {es : List (AV × AV)}, σ'[id]? = some (.mp es) → False := by
    intro id es hb
    obtain ⟨b, hb1, hb2⟩ := h.get id _ hb
    cases hb2 with
    | keep hk => cases hk
  refine ⟨fun id ty sz es' live next hb => ?_, by rw [hμ]; exact hR.sep, by rw [hH]; exact hR.H, fun id ep l hm => ?_, fun id ty sz es' live next hb => ?_, fun id es hb => (nomp hb).elim⟩
  · obtain ⟨es, hb1, hes, hone⟩ := look hb
    have r := hR.row id ty sz es live next hb1
    refine ⟨r.pos, fun ep ext hl => by rw [← hes.len]; exact r.eps ep ext hl, fun i e' he' => ?_, fun ep ext hl => ?_⟩
    · obtain ⟨e, he, hee⟩ := hes.get i e' he'
      refine ⟨by rw [← hee.len]; exact (r.len i e he).1, fun y hy => ?_⟩
      exact List.all_eq_true.1 (List.all_eq_true.1 hone e' (List.mem_of_getElem? he')) y hy
    · obtain ⟨l, c, fz, hm, h1, h2, h3, h4, h5, h6, h7, h8⟩ := r.loc ep ext hl
      refine ⟨l, c, fz, by rw [hμ]; exact hm, h1, h2, by rw [hH]; exact h3, h4, h5, h6, h7, fun p e' j y hp1 hp2 he' hy => ?_⟩
      obtain ⟨e, he, hee⟩ := hes.get p e' he'
      obtain ⟨x, hx, hr⟩ := hee.get j y hy
      obtain ⟨u, hu, hru⟩ := h8 p e j x hp1 hp2 he hx
      exact ⟨u, hu, hr u hru⟩
  · rw [hμ] at hm
    obtain ⟨h1, h2, h3⟩ := hR.fresh id ep l hm
    exact ⟨h1, by rw [← h.len]; exact h2, fun ty sz es' live next hb => by obtain ⟨es, hb1, _⟩ := look hb; exact h3 ty sz es live next hb1⟩
  · obtain ⟨es, hb1, _⟩ := look hb
    exact hR.nodup id ty sz es live next hb1

theorem BT.isRow {R : AV → AV → Prop} {b b' : Blk} (h : BT R b b') : IsRow (some b) ↔ IsRow (some b') := by
  cases h with
  | hole => exact Iff.rfl
  | row h h1 => exact ⟨fun _ => .inl ⟨_, _, _, _, _, rfl⟩, fun _ => .inl ⟨_, _, _, _, _, rfl⟩⟩
theorem isRow_all2 {R : AV → AV → Prop} {σ σ' : Heap} (h : All2 (BT R) σ σ') (id : Nat) : IsRow σ[id]? ↔ IsRow σ'[id]? := by
  cases hb : σ'[id]? with
  | some b' =>
    obtain ⟨b, h1, h2⟩ := h.get id _ hb
    rw [h1]; exact h2.isRow
  | none =>
    have : σ[id]? = none := by
      rw [List.getElem?_eq_none_iff] at hb ⊢
      rw [h.len]; exact hb
    rw [this]
theorem isRow_down {R : AV → AV → Prop} {σ σ' : Heap} (h : All2 (BD R) σ σ') (id : Nat) (hr : IsRow σ'[id]?) : IsRow σ[id]? := by
  cases hb : σ'[id]? with
  | some b' =>
    obtain ⟨b, h1, h2⟩ := h.get id _ hb
    rw [hb] at hr
    rw [h1]
    cases h2 with
    | drop => rcases hr with ⟨_, _, _, _, _, hr⟩ | ⟨_, hr⟩ <;> cases hr
    | keep hk => exact hk.isRow.2 hr
  | none => rw [hb] at hr; rcases hr with ⟨_, _, _, _, _, hr⟩ | ⟨_, hr⟩ <;> cases hr

theorem Step.turn {V V' : Nm → Prop} {k : Kn V} {kv : Kn V'} {M σT M' σ1 : Heap} {w w1 : World} {k1 : Kn V'} {R : AV → AV → Prop} (hR : Rel k M w) (hH : kv.H = k.H) (hμ : kv.μ = k.μ) (hl : All2 (BT R) M σT) (hst : Step kv σT w k1 σ1 w1)
    (ho : All2 (BD (fun y x => ∀ u, VRel k1 y u → VRel (⟨k1.H, k1.μ, k.val, k.hv⟩ : Kn V) x u)) σ1 M') : Step k M w ⟨k1.H, k1.μ, k.val, k.hv⟩ M' w1 := by
  have own : ∀ {b : Nat}, Owns kv σT b → Owns k M b := by
    rintro b ⟨id, ep, l, h1, h2, h3⟩
    exact ⟨id, ep, l, by rw [← hμ]; exact h1, h2, (isRow_all2 hl id).2 h3⟩
  refine ⟨hR, ⟨fun b o h => hst.le.H b o (by rw [hH]; exact h), fun id ep l h => hst.le.μ id ep l (by rw [hμ]; exact h), rfl⟩, Rel.turn hst.rel rfl rfl ho, ⟨hst.fr.os, hst.fr.tape, hst.fr.output, hst.fr.size, fun b hb hn => hst.fr.block b hb fun h => hn (own h), fun b o h => ?_, fun id ep l h => ?_, fun id hi hr => ?_, ?_, fun id ep hi hr => ?_⟩⟩
  · rcases hst.fr.newH b o h with h | h | h
    · exact .inl (by rw [← hH]; exact h)
    · exact .inr (.inl h)
    · exact .inr (.inr (own h))
  · rcases hst.fr.newμ id ep l h with h | h | h
    · exact .inl (by rw [← hμ]; exact h)
    · exact .inr (.inl h)
    · exact .inr (.inr (own h))
  · exact (isRow_all2 hl id).2 (hst.fr.rows id (by rw [← hl.len]; exact hi) (isRow_down ho id hr))
  · have := hst.fr.len; rw [← ho.len, hl.len]; exact this
  · show k1.μ id ep = _
    rw [hst.fr.hol id ep (by rw [← hl.len]; exact hi) (fun h => hr ((isRow_all2 hl id).2 h)), hμ]

/-! ### Pieces of code -/
/-- From such slots and memory a piece of code comes to such slots and memory, whatever the names mean. -/
def Goes (P : Program) (n : Nat) (c : Code) (E : Env) (M : Heap) (x : AX) (E' : Env) (M' : Heap) : Prop :=
  ∀ (V : Nm → Prop) (k : Kn V) (w : World) (a : Act) (D : List Deferred), Rel k M w → EnvR k n D E a → ∀ {Q : Exit → Act → World → Prop}, (∀ k' a' w', Step k M w k' M' w' → EnvR k' n D E' a' → Q x.exit a' w') → c.wp P Q a w
/-- The same of a loop, from its next round on. -/
def GoesF (P : Program) (n : Nat) (c : Code) (E : Env) (M : Heap) (x : AX) (E' : Env) (M' : Heap) : Prop :=
  ∀ (V : Nm → Prop) (k : Kn V) (w : World) (a : Act) (D : List Deferred), Rel k M w → EnvR k n D E a → ∀ {Q : Exit → Act → World → Prop}, (∀ k' a' w', Step k M w k' M' w' → EnvR k' n D E' a' → Q x.exit a' w') → LoopFrom P c Q a w

section
variable {P : Program} {n : Nat}
theorem Goes.seq {c d : Code} {E E1 E2 : Env} {M M1 M2 : Heap} {x : AX} (h : Goes P n c E M .nrm E1 M1) (h' : Goes P n d E1 M1 x E2 M2) : Goes P n (.seq c d) E M x E2 M2 :=
  fun V k w a D hR hE {_} hQ => wp_seq (h V k w a D hR hE fun k1 a1 w1 s1 e1 => h' V k1 w1 a1 D s1.rel e1 fun k2 a2 w2 s2 e2 => hQ k2 a2 w2 (s1.trans s2) e2)
theorem Goes.seqX {c d : Code} {E E1 : Env} {M M1 : Heap} {x : AX} (h : Goes P n c E M x E1 M1) (hx : x ≠ .nrm) : Goes P n (.seq c d) E M x E1 M1 :=
  fun V k w a D hR hE {_} hQ => wp_seq (h V k w a D hR hE fun k1 a1 w1 s1 e1 => by
    cases x with
    | nrm => exact absurd rfl hx
    | ext i => exact hQ k1 a1 w1 s1 e1
    | ret => exact hQ k1 a1 w1 s1 e1)
theorem Goes.block {c : Code} {E E1 : Env} {M M1 : Heap} {id : Nat} (h : Goes P n c E M (.ext id) E1 M1) : Goes P n (.block id c) E M .nrm E1 M1 :=
  fun V k w a D hR hE {Q} hQ => wp_block (h V k w a D hR hE fun k1 a1 w1 s1 e1 => by
    show Exit.inBlock id Q (.exit id) a1 w1
    simp only [Exit.inBlock, if_true]
    exact hQ k1 a1 w1 s1 e1)
theorem Goes.blockR {c : Code} {E E1 : Env} {M M1 : Heap} {id : Nat} (h : Goes P n c E M .ret E1 M1) : Goes P n (.block id c) E M .ret E1 M1 :=
  fun V k w a D hR hE {_} hQ => wp_block (h V k w a D hR hE fun k1 a1 w1 s1 e1 => hQ k1 a1 w1 s1 e1)
theorem Goes.loop {c : Code} {E E1 : Env} {M M1 : Heap} {x : AX} (h : GoesF P n c E M x E1 M1) : Goes P n (.loop c) E M x E1 M1 :=
  fun V k w a D hR hE {_} hQ => wp_of_from (h V k w a D hR hE hQ)
theorem GoesF.more {c : Code} {E E1 E2 : Env} {M M1 M2 : Heap} {x : AX} (h : Goes P n c E M .nrm E1 M1) (h' : GoesF P n c E1 M1 x E2 M2) : GoesF P n c E M x E2 M2 :=
  fun V k w a D hR hE {_} hQ => loop_round (h V k w a D hR hE fun k1 a1 w1 s1 e1 => h' V k1 w1 a1 D s1.rel e1 fun k2 a2 w2 s2 e2 => hQ k2 a2 w2 (s1.trans s2) e2)
theorem GoesF.last {c : Code} {E E1 : Env} {M M1 : Heap} {x : AX} (h : Goes P n c E M x E1 M1) (hx : x ≠ .nrm) : GoesF P n c E M x E1 M1 :=
  fun V k w a D hR hE {_} hQ => loop_round (h V k w a D hR hE fun k1 a1 w1 s1 e1 => by
    cases x with
    | nrm => exact absurd rfl hx
    | ext i => exact hQ k1 a1 w1 s1 e1
    | ret => exact hQ k1 a1 w1 s1 e1)

/-- Slots, one by one. -/
def ET (R : AV → AV → Prop) : Env → Env → Prop := All2 fun p q => p.1 = q.1 ∧ R p.2 q.2
theorem ET.get {R : AV → AV → Prop} {E E' : Env} (h : ET R E E') : ∀ (t : Nat) (y : AV), E'.get t = some y → ∃ x, E.get t = some x ∧ R x y := by
  unfold ET at h
  induction h with
  | nil => intro t y hy; simp [Env.get_nil] at hy
  | cons hab _ ih =>
    rename_i a b l m _
    intro t y hy
    obtain ⟨a1, a2⟩ := a
    obtain ⟨b1, b2⟩ := b
    obtain ⟨h1, h2⟩ := hab
    simp only at h1 h2
    subst h1
    simp only [Env.get_cons] at hy ⊢
    split at hy
    · rename_i hc
      injection hy with hy; subst hy
      exact ⟨a2, by simp [hc], h2⟩
    · rename_i hc
      obtain ⟨x, hx, hr⟩ := ih t y hy
      exact ⟨x, by simp [hc]; exact hx, hr⟩

theorem goes_told {v : Nm} {heapy : Bool} {call : CallF} {draw : DrawF} {fuel : Nat} {keep live : List Nat} (hc : ∀ f args σ r, call f args σ = some r → CallOK (fun x => x = v) P f args σ r) (hd : DrawOK (fun x => x = v) P draw n)
    {c : Code} {E ρT ρ1 E' : Env} {M σT σ1 M' : Heap} {x : AX} (run : (codeA P heapy call draw n fuel keep c ⟨σT, ρT⟩).map (fun r => (r.1, prune live r.2.ρ, r.2.σ)) = some (x, ρ1, σ1))
    (lE : ET (Up v) E ρT) (lM : All2 (BT (Up v)) M σT) (oE : ET (Down v) ρ1 E') (oM : All2 (BD (Down v)) σ1 M') : Goes P n c E M x E' M' := by
  intro V k w a D hR hE Q hQ
  obtain ⟨⟨x', s'⟩, h1, h2⟩ := Option.map_eq_some_iff.1 run
  simp only [Prod.mk.injEq] at h2
  obtain ⟨rfl, hρ, hσ⟩ := h2
  have hRT : Rel (k.nm v) σT w := Rel.turn hR rfl rfl (lM.mono fun b b' h => .keep (by
    cases h with
    | hole => exact .hole
    | row h1 h2 => exact .row (h1.mono fun _ _ h => h.mono fun _ _ h u => h _ _ k (k.nm v) rfl rfl rfl u) h2))
  have hET : EnvR (k.nm v) n D ρT a := ⟨hE.size, fun t y hy => by
    obtain ⟨x, hx, hr⟩ := lE.get t y hy
    obtain ⟨u, hu, hru⟩ := hE.get t x hx
    exact ⟨u, hu, hr _ _ k (k.nm v) rfl rfl rfl u hru⟩, hE.defers⟩
  refine code_ok hc hd h1 hRT hET fun k1 a1 w1 st he => ?_
  have hval : k1.val = v := k1.hv
  refine hQ ⟨k1.H, k1.μ, k.val, k.hv⟩ a1 w1 (Step.turn hR rfl rfl lM st ?_) ⟨he.size, fun t x hx => ?_, he.defers⟩
  · rw [hσ]
    exact oM.mono fun b b' h => by
      cases h with
      | drop => exact .drop _
      | keep h => exact .keep (by
          cases h with
          | hole => exact .hole
          | row h1 h2 => exact .row (h1.mono fun _ _ h => h.mono fun _ _ h u => h _ _ k1 (⟨k1.H, k1.μ, k.val, k.hv⟩ : Kn V) rfl rfl hval u) h2)
  · obtain ⟨y, hy, hr⟩ := oE.get t x hx
    rw [← hρ] at hy
    obtain ⟨u, hu, hru⟩ := he.get t y (prune_get hy)
    exact ⟨u, hu, hr _ _ k1 (⟨k1.H, k1.μ, k.val, k.hv⟩ : Kn V) rfl rfl hval u hru⟩

/-- A whole function. -/
theorem callIn_goes {f : FuncId} {i : FnI} {c : Code} (hf : P.funcs[f]? = some i.fn) (hname : (i.fn.name == "runtime.NumGoroutine") = false) (hb : i.fn.body = some c) {args : List AV} (hn : args.length ≤ i.fn.ntmps) {σ σ' : Heap} {x : AX} {E' : Env} {r : AV}
    (h : Goes P i.fn.ntmps c (initE 0 args) σ x E' σ') (he : endA P i (some (x, ⟨σ', E'⟩)) = some (r, σ')) {V : Nm → Prop} : CallIn V P f args σ (r, σ') := by
  refine ⟨⟨i.fn, hf, hname, by rw [hb]; rfl⟩, fun k w us hR hv => calls_of_wp hf hb ?_⟩
  simp only [endA] at he
  split at he
  · rename_i hx
    obtain ⟨vs, hvs, hr⟩ := Option.map_eq_some_iff.1 he
    injection hr with hr _
    subst hr
    refine h V k w _ [] hR (init_ok hv hn) fun k1 a1 w1 h1 he1 => ?_
    obtain ⟨u, h2, h3⟩ := results_ok (fn := i.fn) h1.rel he1 hvs
    cases x with
    | nrm => exact ⟨he1.defers, u, h2, k1, u, rfl, h3, h1⟩
    | ret => exact ⟨he1.defers, u, h2, k1, u, rfl, h3, h1⟩
    | ext id => cases hx
  · cases he

/-! ### Known calls -/
/-- Calls that are known, whatever the memory. -/
noncomputable def ovrL : List (FuncId × List AV × AV) → CallF
  | [], _, _, _ => none
  | (g, as, r) :: l, f, args, σ => if Nat.beq f g && eqAs args as then some (r, σ) else ovrL l f args σ
theorem ovrL_ok {V : Nm → Prop} : ∀ {l : List (FuncId × List AV × AV)}, (∀ x ∈ l, ∀ σ, CallOK V P x.1 x.2.1 σ (x.2.2, σ)) → ∀ f args σ r, ovrL l f args σ = some r → CallOK V P f args σ r ∧ r.2 = σ
  | [], _, f, args, σ, r, h => by cases h
  | (g, as, r0) :: l, hl, f, args, σ, r, h => by
    simp only [ovrL] at h
    split at h
    · rename_i hc
      simp only [Bool.and_eq_true] at hc
      injection h with h; subst h
      rw [Nat.eq_of_beq_eq_true hc.1, eqAs_eq hc.2]
      exact ⟨hl _ List.mem_cons_self σ, rfl⟩
    · exact ovrL_ok (fun x hx => hl x (List.mem_cons_of_mem _ hx)) f args σ r h
/-- A call whose arguments are plain values, known in an empty memory, is known in every one. -/
theorem call_any {V : Nm → Prop} {f : FuncId} {args : List AV} {r : AV} {σ' : Heap} (h : CallIn V P f args [] (r, σ')) (ha : loVs 0 args = true) (hr : loV 0 r = true) (σ : Heap) : CallIn V P f args σ (r, σ) := by
  have := local_ok h (n := 0) rfl ha rfl hr (by simp) σ
  simpa using this
/-- A call with plain arguments is known with told ones. -/
theorem call_told {v : Nm} {f : FuncId} {args argsT : List AV} {r rT : AV} {σ : Heap} (h : CallIn (fun x => x = v) P f args σ (r, σ)) (ha : All2 (Down v) argsT args) (hr : Up v r rT) : CallIn (fun x => x = v) P f argsT σ (rT, σ) := by
  refine ⟨h.1, fun k w us hR hv => ?_⟩
  have hval : k.val = v := k.hv
  refine Calls.mono (h.2 k w us hR ⟨by rw [← ha.len]; exact hv.1, fun j x u hx hu => ?_⟩) fun e w' he => ?_
  · obtain ⟨y, hy, hd⟩ := ha.get j x hx
    exact hd _ _ k k rfl rfl hval u (hv.2 j y u hy hu)
  · obtain ⟨k', u, rfl, hu, hst⟩ := he
    exact ⟨k', u, rfl, hr _ _ k' k' rfl rfl k'.hv u hu, hst⟩

/-- Shapes of code. -/
def fstS : Code → Code
  | .seq x _ => x
  | c => c
def sndS : Code → Code
  | .seq _ y => y
  | c => c
def inB : Code → Code
  | .block _ c => c
  | c => c
def inL : Code → Code
  | .loop c => c
  | c => c
end
end Go.Dx
