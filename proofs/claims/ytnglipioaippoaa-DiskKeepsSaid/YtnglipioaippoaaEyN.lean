/- A call told in a small memory of its own holds in a greater one, where blocks have other numbers and tokens are numbers. -/
import Derived.Test.YtnglipioaippoaaEyM
namespace Go.Dx
variable {V : Nm → Prop}
section
variable (n : Nat) (ren : Nat → Nat) (tv : IntKind → Nat → AV) (B0 : List Fact)
mutual
def trV : AV → AV
  | .ptr id ep i s => .ptr (ren id) ep i s
  | .sl id ep o l => .sl (ren id) ep o l
  | .map id => .map (ren id)
  | .agg l => .agg (trVs l)
  | .tup l => .tup (trVs l)
  | .fn f a b => .fn f (trVs a) (trVs b)
  | .ifc t x => .ifc t (trV x)
  | .mfn m x => .mfn m (trV x)
  | .tok _ k j => tv k j
  | x => x
def trVs : List AV → List AV
  | [] => []
  | x :: r => trV x :: trVs r
end
mutual
def okV : AV → Bool
  | .ptr id _ _ _ => Nat.blt id n
  | .sl id _ _ _ => Nat.blt id n
  | .map id => Nat.blt id n
  | .agg l => okVs l
  | .tup l => okVs l
  | .fn _ a b => okVs a && okVs b
  | .ifc _ x => okV x
  | .mfn _ x => okV x
  | .tok B _ _ => decide (B = B0)
  | .osl _ _ => false
  | .stk _ _ _ _ => false
  | .lsl _ _ _ _ _ => false
  | .wptr _ => false
  | .lsq _ _ _ _ => false
  | _ => true
def okVs : List AV → Bool
  | [] => true
  | x :: r => okV x && okVs r
end
def trB : Blk → Blk
  | .hole => .hole
  | .row ty sz es live next => .row ty sz (es.map (trVs ren tv)) live next
  | .mp es => .mp (es.map fun p => (trV ren tv p.1, trV ren tv p.2))
def okB : Blk → Bool
  | .hole => false
  | .row _ _ es _ _ => es.all (okVs n B0)
  | .mp es => es.all fun p => okV n B0 p.1 && okV n B0 p.2
end

section
variable {P : Program} {n : Nat} {ren : Nat → Nat} {tv : IntKind → Nat → AV} {v : Nm} {B0 : List Fact}
theorem trVs_get : ∀ {l : List AV} (j : Nat), (trVs ren tv l)[j]? = (l[j]?).map (trV ren tv)
  | [], j => by simp [trVs]
  | x :: r, 0 => by simp [trVs]
  | x :: r, j + 1 => by simp only [trVs, List.getElem?_cons_succ]; exact trVs_get j
theorem trVs_length : ∀ {l : List AV}, (trVs ren tv l).length = l.length
  | [] => rfl
  | x :: r => by simp only [trVs, List.length_cons, trVs_length]
theorem okVs_get : ∀ {l : List AV} {j : Nat} {x : AV}, okVs n B0 l = true → l[j]? = some x → okV n B0 x = true
  | [], j, x, _, h => by simp at h
  | y :: r, 0, x, hl, h => by
    simp at h; subst h
    simp only [okVs, Bool.and_eq_true] at hl
    exact hl.1
  | y :: r, j + 1, x, hl, h => by
    simp only [okVs, Bool.and_eq_true] at hl
    exact okVs_get hl.2 (by simpa using h)
theorem blt_lt {a b : Nat} (h : Nat.blt a b = true) : a < b := Nat.lt_of_succ_le (Nat.le_of_ble_eq_true h)

mutual
theorem tr_to {V0 : Nm → Prop} {k : Kn V} {k0 : Kn V0} (hH : ∀ b o, k.H b = some o → k0.H b = some o) (hμ : ∀ id ep l, id < n → k.μ (ren id) ep = some l → k0.μ id ep = some l) (hval : k0.val = v) (hB : Valid v B0) (hto : ∀ i j u, VRel k (tv i j) u → u = .int i (v j)) : ∀ (x : AV) {u : Value}, okV n B0 x = true → VRel k (trV ren tv x) u → VRel k0 x u
  | .und, u, _, h => by simp only [trV] at h; cases h; exact .und
  | .bool b, u, _, h => by simp only [trV] at h; cases h; exact .bool b
  | .int i m, u, _, h => by simp only [trV] at h; cases h; exact .int i m
  | .str s, u, _, h => by simp only [trV] at h; cases h; exact .str s
  | .nilp, u, _, h => by simp only [trV] at h; cases h; exact .nilp
  | .ptr id ep idx sub, u, ho, h => by
    simp only [trV] at h; simp only [okV] at ho
    cases h with | ptr _ _ _ _ l hm hs => exact .ptr id ep idx sub l (hμ _ _ _ (blt_lt ho) hm) hs
  | .rptr cs, u, _, h => by
    simp only [trV] at h
    cases h with | rptr _ b o c ty fz f hh hc hv => exact .rptr cs b o c ty fz f (hH _ _ hh) hc (fun j v hj => (hv j v hj).mono hH)
  | .nils, u, _, h => by simp only [trV] at h; cases h; exact .nils
  | .emp, u, _, h => by simp only [trV] at h; cases h with | emp a => exact .emp a
  | .sl id ep off len, u, ho, h => by
    simp only [trV] at h; simp only [okV] at ho
    cases h with | sl _ _ _ _ l a cap hm hs hl ha hn => exact .sl id ep off len l a cap (hμ _ _ _ (blt_lt ho) hm) hs hl ha hn
  | .ro full es, u, _, h => by simp only [trV] at h; cases h with | ro _ _ _ hp => exact .ro full es _ (hp.mono hH)
  | .agg cs, u, ho, h => by
    simp only [trV] at h; simp only [okV] at ho
    cases h with | agg _ us hl hc => exact .agg cs us (by rw [← hl, trVs_length]) fun j x y hx hy => trs_to hH hμ hval hB hto cs ho j x y hx (hc j _ y (by rw [trVs_get, hx]; rfl) hy)
  | .tup cs, u, ho, h => by
    simp only [trV] at h; simp only [okV] at ho
    cases h with | tup _ us hl hc => exact .tup cs us (by rw [← hl, trVs_length]) fun j x y hx hy => trs_to hH hμ hval hB hto cs ho j x y hx (hc j _ y (by rw [trVs_get, hx]; rfl) hy)
  | .nilm, u, _, h => by simp only [trV] at h; cases h; exact .nilm
  | .map id, u, ho, h => by
    simp only [trV] at h; simp only [okV] at ho
    cases h with | map _ l hm => exact .map id l (hμ _ _ _ (blt_lt ho) hm)
  | .fn f a b, u, ho, h => by
    simp only [trV] at h; simp only [okV, Bool.and_eq_true] at ho
    cases h with | fn _ _ _ us vs h1 h2 h3 h4 =>
      exact .fn f a b us vs (by rw [← h1, trVs_length]) (fun j x y hx hy => trs_to hH hμ hval hB hto a ho.1 j x y hx (h2 j _ y (by rw [trVs_get, hx]; rfl) hy)) (by rw [← h3, trVs_length]) (fun j x y hx hy => trs_to hH hμ hval hB hto b ho.2 j x y hx (h4 j _ y (by rw [trVs_get, hx]; rfl) hy))
  | .nilf, u, _, h => by simp only [trV] at h; cases h; exact .nilf
  | .nili, u, _, h => by simp only [trV] at h; cases h; exact .nili
  | .ifc t x, u, ho, h => by
    simp only [trV] at h; simp only [okV] at ho
    cases h with | ifc _ _ y h1 => exact .ifc t x y (tr_to hH hμ hval hB hto x ho h1)
  | .mfn m x, u, ho, h => by
    simp only [trV] at h; simp only [okV] at ho
    cases h with | mfn _ _ y h1 => exact .mfn m x y (tr_to hH hμ hval hB hto x ho h1)
  | .tok B i j, u, ho, h => by
    simp only [trV] at h; simp only [okV, decide_eq_true_eq] at ho
    subst ho
    rw [hto i j u h, ← hval]
    exact .tok B i j (by rw [hval]; exact hB)
  | .osl B j, u, ho, _ => by cases ho
  | .stk _ _ _ _, u, ho, _ => by cases ho
  | .lsl _ _ _ _ _, u, ho, _ => by cases ho
  | .wptr _, u, ho, _ => by cases ho
  | .lsq _ _ _ _, u, ho, _ => by cases ho
theorem trs_to {V0 : Nm → Prop} {k : Kn V} {k0 : Kn V0} (hH : ∀ b o, k.H b = some o → k0.H b = some o) (hμ : ∀ id ep l, id < n → k.μ (ren id) ep = some l → k0.μ id ep = some l) (hval : k0.val = v) (hB : Valid v B0) (hto : ∀ i j u, VRel k (tv i j) u → u = .int i (v j)) : ∀ (l : List AV), okVs n B0 l = true → ∀ (j : Nat) (x : AV) (u : Value), l[j]? = some x → VRel k (trV ren tv x) u → VRel k0 x u
  | [], _, j, x, u, hx, _ => by simp at hx
  | y :: r, ho, 0, x, u, hx, h => by
    simp at hx; subst hx
    simp only [okVs, Bool.and_eq_true] at ho
    exact tr_to hH hμ hval hB hto y ho.1 h
  | y :: r, ho, j + 1, x, u, hx, h => by
    simp only [okVs, Bool.and_eq_true] at ho
    exact trs_to hH hμ hval hB hto r ho.2 j x u (by simpa using hx) h
end

theorem tr_from {V0 : Nm → Prop} {k1 : Kn V0} {k2 : Kn V} (hH : ∀ b o, k1.H b = some o → k2.H b = some o) (hμ : ∀ id ep l, id < n → k1.μ id ep = some l → k2.μ (ren id) ep = some l) (hval : k1.val = v) (hfrom : ∀ i j, VRel k2 (tv i j) (.int i (v j))) {x : AV} {u : Value} (h : VRel k1 x u) : okV n B0 x = true → VRel k2 (trV ren tv x) u := by
  induction h with
  | und => intro _; exact .und
  | bool b => intro _; exact .bool b
  | int i m => intro _; exact .int i m
  | str s => intro _; exact .str s
  | nilp => intro _; exact .nilp
  | ptr id ep idx sub l hm hs => intro ho; simp only [okV] at ho; simp only [trV]; exact .ptr _ ep idx sub l (hμ _ _ _ (blt_lt ho) hm) hs
  | rptr cs b o c ty fz f hh hc hv => intro _; simp only [trV]; exact .rptr cs b o c ty fz f (hH _ _ hh) hc (fun j v hj => (hv j v hj).mono hH)
  | nils => intro _; exact .nils
  | emp a => intro _; exact .emp a
  | sl id ep off len l a cap hm hs hl ha hn => intro ho; simp only [okV] at ho; simp only [trV]; exact .sl _ ep off len l a cap (hμ _ _ _ (blt_lt ho) hm) hs hl ha hn
  | ro full es u h => intro _; simp only [trV]; exact .ro full es u (h.mono hH)
  | agg cs us hl _ ih =>
    intro ho; simp only [okV] at ho; simp only [trV]
    refine .agg _ us (by rw [trVs_length]; exact hl) fun j x y hx hy => ?_
    rw [trVs_get] at hx
    obtain ⟨x', hx', rfl⟩ := Option.map_eq_some_iff.1 hx
    exact ih j x' y hx' hy (okVs_get ho hx')
  | tup cs us hl _ ih =>
    intro ho; simp only [okV] at ho; simp only [trV]
    refine .tup _ us (by rw [trVs_length]; exact hl) fun j x y hx hy => ?_
    rw [trVs_get] at hx
    obtain ⟨x', hx', rfl⟩ := Option.map_eq_some_iff.1 hx
    exact ih j x' y hx' hy (okVs_get ho hx')
  | nilm => intro _; exact .nilm
  | fn f fs cs us vs hf _ hc _ ih1 ih2 =>
    intro ho; simp only [okV, Bool.and_eq_true] at ho; simp only [trV]
    refine .fn f _ _ us vs (by rw [trVs_length]; exact hf) (fun j x y hx hy => ?_) (by rw [trVs_length]; exact hc) (fun j x y hx hy => ?_)
    · rw [trVs_get] at hx
      obtain ⟨x', hx', rfl⟩ := Option.map_eq_some_iff.1 hx
      exact ih1 j x' y hx' hy (okVs_get ho.1 hx')
    · rw [trVs_get] at hx
      obtain ⟨x', hx', rfl⟩ := Option.map_eq_some_iff.1 hx
      exact ih2 j x' y hx' hy (okVs_get ho.2 hx')
  | nilf => intro _; exact .nilf
  | nili => intro _; exact .nili
  | map id l hm => intro ho; simp only [okV] at ho; simp only [trV]; exact .map _ l (hμ _ _ _ (blt_lt ho) hm)
  | ifc t x u _ ih => intro ho; simp only [okV] at ho; simp only [trV]; exact .ifc t _ u (ih ho)
  | mfn m x u _ ih => intro ho; simp only [okV] at ho; simp only [trV]; exact .mfn m _ u (ih ho)
  | tok B i j h => intro _; simp only [trV]; rw [hval]; exact hfrom i j
  | osl B j a len cap h hl => intro ho; cases ho
  | stk => intro ho; cases ho
  | lsl => intro ho; cases ho
  | wptr => intro ho; cases ho
  | lsq => intro ho; cases ho

theorem ok_row {σ : Heap} (h : σ.all (okB n B0) = true) {id : Nat} {ty sz next : Nat} {es : List (List AV)} {live : List (Nat × Nat)} (hb : σ[id]? = some (.row ty sz es live next)) {p j : Nat} {e : List AV} {x : AV} (he : es[p]? = some e) (hx : e[j]? = some x) : okV n B0 x = true := by
  have h1 := List.all_eq_true.1 h _ (List.mem_of_getElem? hb)
  simp only [okB] at h1
  exact okVs_get (List.all_eq_true.1 h1 e (List.mem_of_getElem? he)) hx
theorem ok_mp {σ : Heap} (h : σ.all (okB n B0) = true) {id : Nat} {es : List (AV × AV)} (hb : σ[id]? = some (.mp es)) {p : Nat} {e : AV × AV} (he : es[p]? = some e) : okV n B0 e.1 = true ∧ okV n B0 e.2 = true := by
  have h1 := List.all_eq_true.1 h _ (List.mem_of_getElem? hb)
  simp only [okB] at h1
  have := List.all_eq_true.1 h1 e (List.mem_of_getElem? he)
  simpa using this
theorem isRow_tr {b : Blk} : IsRow (some (trB ren tv b)) ↔ IsRow (some b) := by
  cases b with
  | hole => simp [trB]
  | row ty sz es live next => exact ⟨fun _ => .inl ⟨_, _, _, _, _, rfl⟩, fun _ => .inl ⟨_, _, _, _, _, rfl⟩⟩
  | mp es => exact ⟨fun _ => .inr ⟨_, rfl⟩, fun _ => .inr ⟨_, rfl⟩⟩
end
end Go.Dx
