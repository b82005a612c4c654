/- Known calls of 'put' and 'Clone'; lists of pieces. -/
import Derived.Test.YtnglipioaippoaaDk2
namespace Go.Dx
/-! ### Lists of pieces -/
def seqs : List Code → Code → Code
  | [], d => d
  | c :: r, d => .seq c (seqs r d)
/-- Pieces one behind the other, whatever stands behind. -/
def GoesL (P : Program) (n : Nat) (cs : List Code) (E : Env) (M : Heap) (E' : Env) (M' : Heap) : Prop :=
  ∀ (V : Nm → Prop) (k : Kn V) (w : World) (a : Act) (D : List Deferred), Rel k M w → EnvR k n D E a → ∀ (d : Code) (Q : Exit → Act → World → Prop), (∀ k' a' w', Step k M w k' M' w' → EnvR k' n D E' a' → d.wp P Q a' w') → (seqs cs d).wp P Q a w
section
variable {P : Program} {n : Nat}
theorem GoesL.nil {E : Env} {M : Heap} : GoesL P n [] E M E M := fun V k w a D hR hE d Q h => h k a w (Step.refl hR) hE
theorem GoesL.then {cs : List Code} {d : Code} {E E1 E2 : Env} {M M1 M2 : Heap} {x : AX} (h : GoesL P n cs E M E1 M1) (h' : Goes P n d E1 M1 x E2 M2) : Goes P n (seqs cs d) E M x E2 M2 :=
  fun V k w a D hR hE Q hQ => h V k w a D hR hE d Q fun k1 a1 w1 s1 e1 => h' V k1 w1 a1 D s1.rel e1 fun k2 a2 w2 s2 e2 => hQ k2 a2 w2 (s1.trans s2) e2
theorem seqs_append : ∀ (cs ds : List Code) (d : Code), seqs (cs ++ ds) d = seqs cs (seqs ds d)
  | [], _, _ => rfl
  | c :: r, ds, d => by simp only [List.cons_append, seqs, seqs_append r ds d]
theorem GoesL.append {cs ds : List Code} {E E1 E2 : Env} {M M1 M2 : Heap} (h : GoesL P n cs E M E1 M1) (h' : GoesL P n ds E1 M1 E2 M2) : GoesL P n (cs ++ ds) E M E2 M2 :=
  fun V k w a D hR hE d Q hQ => by
    rw [seqs_append]
    exact h V k w a D hR hE _ Q fun k1 a1 w1 s1 e1 => h' V k1 w1 a1 D s1.rel e1 d Q fun k2 a2 w2 s2 e2 => hQ k2 a2 w2 (s1.trans s2) e2
theorem GoesL.freeze {cs : List Code} {E E1 E' : Env} {M M1 : Heap} (h : GoesL P n cs E M E1 M1) {id ty m nx : Nat} {es : List (List PV)} (hid : M1[id]? = some (.row ty 1 (es.map (·.map up)) [(0, m)] nx)) (hn : es.length = m) (h1 : ∀ e ∈ es, e.length = 1) (hp : 0 < m) (hge : M.length ≤ id)
    (hno : (M1.set id .hole).all (noIB id) = true) {s0 : Nat} (hs0 : E1.get s0 = some (.sl id 0 0 m)) (hE : ∀ s v, E'.get s = some v → (E1.get s = some v ∧ noI id v = true) ∨ (v = .ro false es ∧ s = s0)) : GoesL P n cs E M E' (M1.set id .hole) := by
  intro V k w a D hR hE0 d Q hQ
  refine h V k w a D hR hE0 d Q fun k' a' w' st he => ?_
  obtain ⟨u, hu, hru⟩ := he.get s0 _ hs0
  obtain ⟨l, hm, hH, hpr⟩ := fz_sl st.rel hid hn h1 hp hru
  refine hQ (k'.fz w' id l.cb) a' w' (fz_step st hge hm hH hno) ⟨he.size, fun s v hv => ?_, he.defers⟩
  rcases hE s v hv with ⟨h2, h3⟩ | ⟨rfl, rfl⟩
  · obtain ⟨u2, hu2, hru2⟩ := he.get s v h2
    exact ⟨u2, hu2, fz_v hH hru2 h3⟩
  · exact ⟨u, hu, .ro false es u hpr⟩
theorem runs_ok {V : Nm → Prop} {D : List Deferred} {heapy : Bool} {call : CallF} {draw : DrawF} {fuel : Nat} {keep : List Nat} (hc : ∀ f args σ r, call f args σ = some r → CallOK V P f args σ r) (hd : DrawOK V P draw n) :
    ∀ {cs : List Code} {s s' : St} {k : Kn V} {w : World} {a : Act}, runs P heapy call draw n fuel keep cs s = some (.nrm, s') → Rel k s.σ w → EnvR k n D s.ρ a → ∀ {d : Code} {Q : Exit → Act → World → Prop},
      (∀ k' a' w', Step k s.σ w k' s'.σ w' → EnvR k' n D s'.ρ a' → d.wp P Q a' w') → (seqs cs d).wp P Q a w
  | [], s, s', k, w, a, h, hR, hE, d, Q, hQ => by
    injection h with h; injection h with _ h; subst h
    exact hQ k a w (Step.refl hR) hE
  | c :: r, s, s', k, w, a, h, hR, hE, d, Q, hQ => by
    simp only [runs] at h
    split at h
    · rename_i s1 hs1
      exact wp_seq (code_ok hc hd hs1 hR hE fun k1 a1 w1 h1 he1 => runs_ok hc hd h h1.rel he1 fun k2 a2 w2 h2 he2 => hQ k2 a2 w2 (h1.trans h2) he2)
    · rename_i hne
      exact absurd h (hne s')
noncomputable def runL (P : Program) (fns : FuncId → Option FnI) (i : FnI) (ovr : CallF) (live : List Nat) (cs : List Code) (ρ : Env) (σ : Heap) : Option (AX × Env × Heap) :=
  (runs P i.heapy (callW P fns ovr 4) (drawA P (modesOf fns) i.heapy (callW P fns ovr 4) i.fn.ntmps) i.fn.ntmps i.rounds i.keep cs ⟨σ, ρ⟩).map (fun r => (r.1, prune live r.2.ρ, r.2.σ))
theorem goesL_run {fns : FuncId → Option FnI} (ht : Tab P fns) (hmix : P.follows .mixedOrders = true) {v : Nm} {ovr : CallF} (ho : ∀ f args σ r, ovr f args σ = some r → CallOK (fun x => x = v) P f args σ r) (hos : ∀ f args σ r, modesOf fns f ≠ 0 → ovr f args σ = some r → r.2 = σ) {i : FnI} {live : List Nat}
    {cs : List Code} {E ρT ρ1 E' : Env} {M σT σ1 M' : Heap} (run : runL P fns i ovr live cs ρT σT = some (.nrm, ρ1, σ1))
    (lE : ET (Up v) E ρT) (lM : All2 (BT (Up v)) M σT) (oE : ET (Down v) ρ1 E') (oM : All2 (BD (Down v)) σ1 M') : GoesL P i.fn.ntmps cs E M E' M' := by
  have hc := callW_ok ht hmix (V := fun x => x = v) ho hos 4
  intro V k w a D hR hE d Q hQ
  obtain ⟨⟨x', s'⟩, h1, h2⟩ := Option.map_eq_some_iff.1 run
  simp only [Prod.mk.injEq] at h2
  obtain ⟨rfl, hρ, hσ⟩ := h2
  have hRT : Rel (k.nm v) σT w := Rel.turn hR rfl rfl (lM.mono fun b b' h => .keep (by
    cases h with
    | hole => exact .hole
    | row h1 h2 => exact .row (h1.mono fun _ _ h => h.mono fun _ _ h u => h _ _ k (k.nm v) rfl rfl rfl u) h2))
  have hET : EnvR (k.nm v) i.fn.ntmps D ρT a := ⟨hE.size, fun t y hy => by
    obtain ⟨x, hx, hr⟩ := lE.get t y hy
    obtain ⟨u, hu, hru⟩ := hE.get t x hx
    exact ⟨u, hu, hr _ _ k (k.nm v) rfl rfl rfl u hru⟩, hE.defers⟩
  refine runs_ok (fun f args σ r h => (hc f args σ r h).1) (draw_ok hmix (fun f args σ r h => (hc f args σ r h).1) fun f args σ r hm h => (hc f args σ r h).2 hm) h1 hRT hET fun k1 a1 w1 st he => ?_
  have hval : k1.val = v := k1.hv
  refine hQ ⟨k1.H, k1.μ, k.val, k.hv⟩ a1 w1 (Step.turn hR rfl rfl lM st ?_) ⟨he.size, fun t x hx => ?_, he.defers⟩
  · rw [hσ]
    exact oM.mono fun b b' h => by
      cases h with
      | drop => exact .drop _
      | keep h => exact .keep (by
          cases h with
          | hole => exact .hole
          | row h1 h2 => exact .row (h1.mono fun _ _ h => h.mono fun _ _ h u => h _ _ k1 (⟨k1.H, k1.μ, k.val, k.hv⟩ : Kn V) rfl rfl hval u) h2)
  · obtain ⟨y, hy, hr⟩ := oE.get t x hx
    rw [← hρ] at hy
    obtain ⟨u, hu, hru⟩ := he.get t y (prune_get hy)
    exact ⟨u, hu, hr _ _ k1 (⟨k1.H, k1.μ, k.val, k.hv⟩ : Kn V) rfl rfl hval u hru⟩
theorem Up.lsq {v : Nm} {T : List (Nat × IV × Nat × Nat)} {B : List Fact} (hB : Valid v B) (hT : ValidP v T) (j n : Nat) {p : PV} {len : Nat} (hp : v.p j = p) (hl : lenP p = some len) (hn : v n = (len : Int)) : Up v (up p) (.lsq T B j n) := by
  intro V V' k k' hH hμ hv u h
  exact .lsq T B j n u len (by rw [hv, hp, hH]; exact h.pv) (by rw [hv]; exact hB) (by rw [hv]; exact hT) (by rw [hv, hp]; exact hl) (by rw [hv]; exact hn.symm)
theorem Down.lsq {v : Nm} {T : List (Nat × IV × Nat × Nat)} {B : List Fact} (j n : Nat) {p : PV} (hp : v.p j = p) : Down v (.lsq T B j n) (up p) := by
  intro V V' k k' hH hμ hv u h
  cases h with
  | lsq _ _ _ _ _ len h _ _ _ _ =>
    rw [hv, hp] at h
    exact VRel.of_up (by rw [hH]; exact h)
end
end Go.Dx
namespace Go.Proofs.Ytnglipioaippoaa.T.Disk
open Go.Dx Go.Proofs
/-! ### Known calls -/
noncomputable def lookX (xs : List (AV × Nat × Nat)) (N : Nat) (a : AV) : Option Nat := match a with
  | .int .i64 (.ofNat j) => cond (Nat.ble j N) (some j) none
  | a => match xs with
    | [] => none
    | (b, m, x) :: r => if eqA a b && Nat.beq m N then some x else lookX r N a
def elemsP : PV → List (List AV)
  | .ro _ es => es.map (·.map up)
  | _ => []
noncomputable def lookT' (ss : List (AV × PV)) (s : AV) : Option PV := match ss with
  | [] => none
  | (b, p) :: r => if eqA s b then some p else lookT' r s
noncomputable def ovrPut (xs : List (AV × Nat × Nat)) (ss : List (AV × PV)) : CallF := fun f args σ => match Nat.beq f 42, args with
  | true, [.ptr D 0 0 sub, a, s] => match σ[D]? with
    | some (.row _ _ [cs] live _) => match lookE 0 live, cs.drop sub with
      | some (_ + 1), .sl A 0 0 N :: _ => match σ[A]? with
        | some (.row 5 1 es [(0, N')] nx) => cond (Nat.beq N N') (match lookX xs N a with
          | some x => (match s with
            | .sl B 0 0 L => match σ[B]? with
              | some (.row 5 1 es' [(0, L')] _) => cond (Nat.beq L L') (some (.tup [], σ.set A (bytes nx (puts es ((es'.drop 0).take L) x N) N))) none
              | _ => none
            | s => match lookT' ss s with
              | some p => some (.tup [], σ.set A (bytes nx (puts es (elemsP p) x N) N))
              | none => none)
          | none => none) none
        | _ => none
      | _, _ => none
    | _ => none
  | _, _ => none
noncomputable def ovrClone (cl : List (AV × AV)) : CallF := fun f args σ => match Nat.beq f 41, args with
  | true, [s] => match s with
    | .sl A 0 0 N => match σ[A]? with
      | some (.row 5 1 es [(0, N')] _) => cond (Nat.beq N N' && Nat.blt 0 N && Nat.ble N 1000000) (some (.sl σ.length 0 0 N, newA σ 5 1 ((es.drop 0).take N))) none
      | _ => none
    | s => lookCl cl s σ
  | _, _ => none
where lookCl : List (AV × AV) → AV → Heap → Option (AV × Heap)
  | [], _, _ => none
  | (b, r) :: l, s, σ => if eqA s b then some (r, σ) else lookCl l s σ
def cloneP : PV → PV
  | .ro _ [] => .emp
  | .ro _ es => .ro false es
  | p => p
/-- Bytes. -/
def IsB (p : PV) : Prop := p = .nils ∨ p = .emp ∨ ∃ f es, p = .ro f es ∧ (∀ e ∈ es, e.length = 1) ∧ (∀ e ∈ es, ∀ q ∈ e, ∃ k n, q = PV.int k n) ∧ es.length ≤ 1000000
theorem IsB.len1 {p : PV} (h : IsB p) : (elemsP p).all (·.length == 1) = true := by
  rcases h with rfl | rfl | ⟨f, es, rfl, h, _⟩
  · rfl
  · rfl
  · rw [List.all_eq_true]; intro e he; obtain ⟨e', he', rfl⟩ := List.mem_map.1 he; simp [h e' he']
theorem elemsA_up {σ : Heap} {p : PV} (h : IsB p) : elemsA σ (up p) = some (elemsP p) := by
  rcases h with rfl | rfl | ⟨f, es, rfl, _⟩ <;> rfl

theorem lookX_ok {v : Nm} {N x : Nat} {a : AV} : ∀ {xs : List (AV × Nat × Nat)}, (∀ e ∈ xs, Down v e.1 (.int .i64 e.2.2) ∧ e.2.2 ≤ e.2.1) → lookX xs N a = some x → Down v a (.int .i64 x) ∧ x ≤ N
  | [], hx, h => by
    unfold lookX at h
    split at h
    · rename_i j
      cases hb : Nat.ble j N with
      | true => rw [hb] at h; injection h with h; subst h; exact ⟨Down.same rfl, Nat.le_of_ble_eq_true hb⟩
      | false => rw [hb] at h; cases h
    · cases h
  | (b, m, y) :: r, hx, h => by
    unfold lookX at h
    split at h
    · rename_i j
      cases hb : Nat.ble j N with
      | true => rw [hb] at h; injection h with h; subst h; exact ⟨Down.same rfl, Nat.le_of_ble_eq_true hb⟩
      | false => rw [hb] at h; cases h
    · simp only at h
      split at h
      · rename_i hc
        simp only [Bool.and_eq_true] at hc
        injection h with h; subst h
        have := hx _ List.mem_cons_self
        rw [eqA_eq hc.1, ← Nat.eq_of_beq_eq_true hc.2]
        exact this
      · exact lookX_ok (fun e he => hx e (List.mem_cons_of_mem _ he)) h
theorem lookT'_ok {v : Nm} {s : AV} {p : PV} : ∀ {ss : List (AV × PV)}, (∀ e ∈ ss, Down v e.1 (up e.2) ∧ IsB e.2) → lookT' ss s = some p → Down v s (up p) ∧ IsB p
  | [], _, h => by cases h
  | (b, q) :: r, hs, h => by
    unfold lookT' at h
    split at h
    · rename_i hc
      injection h with h; subst h
      rw [eqA_eq hc]
      exact hs _ List.mem_cons_self
    · exact lookT'_ok (fun e he => hs e (List.mem_cons_of_mem _ he)) h
theorem fn42 : ∃ fn, Try.prog.funcs[42]? = some fn ∧ (fn.name == "runtime.NumGoroutine") = false ∧ fn.body.isSome = true := ⟨i42.fn, by kernel_rfl, by kernel_rfl, by kernel_rfl⟩
theorem fn41 : ∃ fn, Try.prog.funcs[41]? = some fn ∧ (fn.name == "runtime.NumGoroutine") = false ∧ fn.body.isSome = true := ⟨i41.fn, by kernel_rfl, by kernel_rfl, by kernel_rfl⟩
theorem ovrPut_ok {v : Nm} {xs : List (AV × Nat × Nat)} {ss : List (AV × PV)} (hx : ∀ e ∈ xs, Down v e.1 (.int .i64 e.2.2) ∧ e.2.2 ≤ e.2.1) (hs : ∀ e ∈ ss, Down v e.1 (up e.2) ∧ IsB e.2) (f : FuncId) (args : List AV) (σ : Heap) (r : AV × Heap) (h : ovrPut xs ss f args σ = some r) :
    CallOK (fun y => y = v) Try.prog f args σ r ∧ f = 42 := by
  unfold ovrPut at h
  split at h
  · rename_i D sub a s hf
    have hf : f = 42 := Nat.eq_of_beq_eq_true hf
    subst hf
    split at h
    · rename_i tyD szD cs live nD hD
      split at h
      · rename_i xD A N rest hl hcs
        split at h
        · rename_i es N' nx hA
          cases hN : Nat.beq N N' with
          | false => rw [hN] at h; cases h
          | true =>
            rw [hN] at h
            simp only [cond_true] at h
            have hNN := Nat.eq_of_beq_eq_true hN
            subst hNN
            split at h
            · rename_i x hlx
              obtain ⟨dx, hxN⟩ := lookX_ok hx hlx
              split at h
              · rename_i B L
                split at h
                · rename_i es' L' nB hB
                  cases hL : Nat.beq L L' with
                  | false => rw [hL] at h; cases h
                  | true =>
                    rw [hL] at h
                    simp only [cond_true] at h
                    have hLL := Nat.eq_of_beq_eq_true hL
                    subst hLL
                    injection h with h; subst h
                    refine ⟨.inl ⟨fn42, fun k w us hR hv => ?_⟩, rfl⟩
                    have h1 : ((es'.drop 0).take L).all (·.length == 1) = true := by
                      rw [List.all_eq_true]
                      intro e he
                      have hm := List.mem_of_mem_take he
                      rw [List.drop_zero] at hm
                      obtain ⟨j, hj⟩ := List.getElem?_of_mem hm
                      have := ((hR.row B 5 1 _ _ _ hB).len j e hj).1
                      simp [this]
                    have hns : elemsA σ (.sl B 0 0 L) = some ((es'.drop 0).take L) := by
                      simp only [elemsA, hB, show lookE 0 [(0, L)] = some L from rfl, Nat.zero_add, Nat.le_refl, if_true]
                    have hc := put_call (V := fun y => y = v) hD hl (Nat.succ_pos _) hcs hA hxN hns h1
                    refine Calls.mono (hc.2 k w us hR ⟨hv.1, fun j y u hy hu => ?_⟩) fun e w' he => he
                    rcases j with _ | _ | _ | j
                    · simp at hy; subst hy; exact hv.2 0 _ u rfl hu
                    · simp at hy; subst hy; exact dx _ _ k k rfl rfl k.hv u (hv.2 1 _ u rfl hu)
                    · simp at hy; subst hy; exact hv.2 2 _ u rfl hu
                    · simp at hy
                · cases h
              · split at h
                · rename_i p hp
                  obtain ⟨ds, hIB⟩ := lookT'_ok hs hp
                  injection h with h; subst h
                  have hc := put_call (V := fun y => y = v) hD hl (Nat.succ_pos _) hcs hA hxN (elemsA_up hIB) hIB.len1
                  refine ⟨.inl ⟨fn42, fun k w us hR hv => ?_⟩, rfl⟩
                  refine Calls.mono (hc.2 k w us hR ⟨hv.1, fun j y u hy hu => ?_⟩) fun e w' he => he
                  rcases j with _ | _ | _ | j
                  · simp at hy; subst hy; exact hv.2 0 _ u rfl hu
                  · simp at hy; subst hy; exact dx _ _ k k rfl rfl k.hv u (hv.2 1 _ u rfl hu)
                  · simp at hy; subst hy; exact ds _ _ k k rfl rfl k.hv u (hv.2 2 _ u rfl hu)
                  · simp at hy
                · cases h
            · cases h
        · cases h
      · cases h
    · cases h
  · cases h
theorem clone_any {V : Nm → Prop} {σ : Heap} {p : PV} (h : IsB p) : CallIn V Try.prog 41 [up p] σ (up (cloneP p), σ) := by
  have closed : ∀ {x r : AV}, codeA Try.prog false (fun _ _ _ => none) (fun _ _ => none) 8 i41.rounds i41.keep c41 ⟨[], initE 0 [x]⟩ ≠ none → (endA Try.prog i41 (codeA Try.prog false (fun _ _ _ => none) (fun _ _ => none) 8 i41.rounds i41.keep c41 ⟨[], initE 0 [x]⟩)) = some (r, []) → loVs 0 [x] = true → loV 0 r = true → CallIn V Try.prog 41 [x] σ (r, σ) := by
    intro x r hne he hx hr
    cases hc : codeA Try.prog false (fun _ _ _ => none) (fun _ _ => none) 8 i41.rounds i41.keep c41 ⟨[], initE 0 [x]⟩ with
    | none => exact absurd hc hne
    | some y =>
      obtain ⟨X, s'⟩ := y
      rw [hc] at he
      have hσ : s'.σ = [] := by
        simp only [endA] at he
        split at he
        · obtain ⟨vs, _, h2⟩ := Option.map_eq_some_iff.1 he
          injection h2 with _ h2
        · cases he
      have := callIn_goes (V := V) (f := 41) (i := i41) (c := c41) (by kernel_rfl) (by kernel_rfl) (by kernel_rfl) (args := [x]) (Nat.le_of_ble_eq_true (by kernel_rfl)) (σ := []) (σ' := []) (x := X) (E' := s'.ρ) (r := r) (by have := goes_plain (n := 8) hc; rw [hσ] at this; exact this) (by rw [← he]; cases s'; simp only at hσ; subst hσ; rfl)
      exact call_any this hx hr σ
  rcases h with rfl | rfl | ⟨f, es, rfl, h1, h2, h3⟩
  · exact closed (x := .nils) (r := .nils) (by rw [show codeA Try.prog false (fun _ _ _ => none) (fun _ _ => none) 8 i41.rounds i41.keep c41 ⟨[], initE 0 [.nils]⟩ = some (.ret, ⟨[], [(2, .nils), (4, .bool true), (3, .nils), (2, .nils), (0, .nils)]⟩) by kernel_rfl]; simp) (by kernel_rfl) rfl rfl
  · exact closed (x := .emp) (r := .emp) (by rw [show codeA Try.prog false (fun _ _ _ => none) (fun _ _ => none) 8 i41.rounds i41.keep c41 ⟨[], initE 0 [.emp]⟩ = some (.ret, ⟨[], [(2, .emp), (7, .emp), (6, .emp), (5, .emp), (4, .bool false), (3, .emp), (2, .nils), (0, .emp)]⟩) by kernel_rfl]; simp) (by kernel_rfl) rfl rfl
  · cases es with
    | nil => exact closed (x := .ro f []) (r := .emp) (by rw [show codeA Try.prog false (fun _ _ _ => none) (fun _ _ => none) 8 i41.rounds i41.keep c41 ⟨[], initE 0 [.ro f []]⟩ = some (.ret, ⟨[], [(2, .emp), (7, .emp), (6, .ro f []), (5, .emp), (4, .bool false), (3, .ro f []), (2, .nils), (0, .ro f [])]⟩) by kernel_rfl]; simp) (by kernel_rfl) rfl rfl
    | cons e r => exact clone_told h1 h2 (by simp) h3
theorem lookCl_ok {v : Nm} {s : AV} {σ : Heap} {r : AV × Heap} : ∀ {cl : List (AV × AV)}, (∀ e ∈ cl, ∃ p, IsB p ∧ Down v e.1 (up p) ∧ Up v (up (cloneP p)) e.2) → ovrClone.lookCl cl s σ = some r → CallIn (fun y => y = v) Try.prog 41 [s] σ r
  | [], _, h => by cases h
  | (b, q) :: l, hc, h => by
    simp only [ovrClone.lookCl] at h
    split at h
    · rename_i he
      injection h with h; subst h
      rw [eqA_eq he]
      obtain ⟨p, h1, h2, h3⟩ := hc _ List.mem_cons_self
      exact call_told (clone_any h1) (.cons h2 .nil) h3
    · exact lookCl_ok (fun e he => hc e (List.mem_cons_of_mem _ he)) h
theorem ovrClone_ok {v : Nm} {cl : List (AV × AV)} (hc : ∀ e ∈ cl, ∃ p, IsB p ∧ Down v e.1 (up p) ∧ Up v (up (cloneP p)) e.2) (f : FuncId) (args : List AV) (σ : Heap) (r : AV × Heap) (h : ovrClone cl f args σ = some r) : CallOK (fun y => y = v) Try.prog f args σ r ∧ f = 41 := by
  unfold ovrClone at h
  split at h
  · rename_i s hf
    have hf : f = 41 := Nat.eq_of_beq_eq_true hf
    subst hf
    split at h
    · rename_i A N
      split at h
      · rename_i es N' nx hA
        cases hN : (Nat.beq N N' && Nat.blt 0 N && Nat.ble N 1000000) with
        | false => rw [hN] at h; cases h
        | true =>
          rw [hN] at h
          injection h with h; subst h
          simp only [Bool.and_eq_true] at hN
          have hNN := Nat.eq_of_beq_eq_true hN.1.1
          subst hNN
          have hp := blt_lt hN.1.2
          have hle := Nat.le_of_ble_eq_true hN.2
          refine ⟨.inl ⟨fn41, fun k w us hR hv => ?_⟩, rfl⟩
          have rr := hR.row A 5 1 _ _ _ hA
          have hlen : N ≤ es.length := (rr.eps 0 N (by simp)).2
          have h1 : ((es.drop 0).take N).all (·.length == 1) = true := by
            rw [List.all_eq_true]
            intro e he
            have hm := List.mem_of_mem_take he
            rw [List.drop_zero] at hm
            obtain ⟨j, hj⟩ := List.getElem?_of_mem hm
            have := (rr.len j e hj).1
            simp [this]
          exact (clone_own (V := fun y => y = v) hA h1 (by simp; omega) hp hle).2 k w us hR hv
      · cases h
    · exact ⟨.inl (lookCl_ok hc h), rfl⟩
  · cases h
end Go.Proofs.Ytnglipioaippoaa.T.Disk
