/- Regions that draw their order, whole; calls, with them. -/
import Derived.Test.YtnglipioaippoaaEyI
namespace Go.Dx
variable {V : Nm → Prop}

noncomputable def countM : List Oper → Nat
  | [] => 0
  | o :: r => if isM o.op then countM r + 1 else countM r
noncomputable def allS (_ : Nat) : Bool := true

noncomputable def drawA (P : Program) (modeOf : FuncId → Nat) (heapy : Bool) (call : CallF) (n : Nat) (ops : Array Oper) (s : St) : Option St :=
  match masksA ops.toList [] with
  | none => none
  | some ms =>
    match drawOps P heapy call modeOf n ops s.ρ (reA (keysA s.ρ) 0 ops.toList ms) (s.σ.length + countM ops.toList) 0 ops.toList ms ⟨[], [], s.σ.length, 0, ⟨0, 0, s.σ ++ List.replicate (countM ops.toList) .hole⟩, []⟩ with
    | none => none
    | some T => some ⟨T.cur.at T.mrecs allS, recE T.recs allS ++ s.ρ⟩

section
variable {P : Program} {heapy : Bool} {call : CallF} {modeOf : FuncId → Nat} {n : Nat} {D : List Deferred} {all : Array Oper} {ms : List Nat} {ρ0 : Env} {base top : Nat} {re : List (Nat × Nat × Nat)}

theorem drawOps_good (hA : AncOK all.toList ms) (hre : ∀ t v, ρ0.get t = some v → ∀ (j : Nat) oj mj, all[j]? = some oj → oj.dst = some t → ms[j]? = some mj → (t, j, mj) ∈ re) :
    ∀ {l : List Oper} {m : List Nat} {i : Nat} {T T' : DT}, l = all.toList.drop i → m = ms.drop i → i ≤ all.size → T.Good P heapy call modeOf n all ms ρ0 base top i → drawOps P heapy call modeOf n all ρ0 re top i l m T = some T' → T'.Good P heapy call modeOf n all ms ρ0 base top all.size
  | [], m, i, T, T', hl, hm, hi, G, h => by
    simp only [drawOps] at h; injection h with h; subst h
    have := congrArg List.length hl
    simp at this
    have : i = all.size := by omega
    subst this; exact G
  | o :: r, [], i, T, T', hl, hm, hi, G, h => by
    have h1 := congrArg List.length hl
    have h2 := congrArg List.length hm
    have h3 := hA.len
    simp at h1 h2 h3
    omega
  | o :: r, mk :: m, i, T, T', hl, hm, hi, G, h => by
    simp only [drawOps] at h
    split at h
    · rename_i T1 hT1
      have ho : all[i]? = some o := by
        have := congrArg (·[0]?) hl
        simp at this
        exact this.symm
      have hmk : ms[i]? = some mk := by
        have := congrArg (·[0]?) hm
        simp at this
        exact this.symm
      have hlt : i < all.size := by
        rcases Nat.lt_or_ge i all.size with h | h
        · exact h
        · rw [Array.getElem?_eq_none h] at ho; cases ho
      refine drawOps_good hA hre ?_ ?_ hlt (drawOp_good hA G hre ho hmk hT1) h
      · have := congrArg List.tail hl
        rw [List.tail_drop] at this
        exact this
      · have := congrArg List.tail hm
        rw [List.tail_drop] at this
        exact this
    · cases h

theorem drawOp_mem {T T' : DT} {i mask : Nat} {o : Oper} (h : drawOp P heapy call modeOf n all ρ0 re top i mask o T = some T') {c : Core} (hc : c ∈ T.cur :: T.old) : c ∈ T'.cur :: T'.old := by
  unfold drawOp at h
  simp only [opF_eq] at h
  split at h
  · split at h
    · injection h with h; subst h; exact hc
    · split at h
      · split at h
        · injection h with h; subst h; exact hc
        · cases h
      · split at h
        · split at h
          · split at h
            · split at h
              · injection h with h; subst h; exact List.mem_cons_of_mem _ hc
              · cases h
            · cases h
          · cases h
        · split at h
          · split at h
            · injection h with h; subst h; exact hc
            · cases h
          · cases h
    · cases h
  · cases h
theorem drawOps_mem : ∀ {l : List Oper} {m : List Nat} {i : Nat} {T T' : DT}, drawOps P heapy call modeOf n all ρ0 re top i l m T = some T' → ∀ {c : Core}, c ∈ T.cur :: T.old → c ∈ T'.cur :: T'.old
  | [], m, i, T, T', h, c, hc => by simp only [drawOps] at h; injection h with h; subst h; exact hc
  | o :: r, [], i, T, T', h, c, hc => by simp only [drawOps] at h; injection h with h; subst h; exact hc
  | o :: r, mk :: m, i, T, T', h, c, hc => by
    simp only [drawOps] at h
    split at h
    · rename_i T1 hT1
      exact drawOps_mem h (drawOp_mem hT1 hc)
    · cases h

theorem good0 {c : Nat} (h : Heap) : DT.Good P heapy call modeOf n all ms ρ0 base (base + c) 0 ⟨[], [], base, 0, ⟨0, 0, h⟩, []⟩ := by
  refine ⟨fun r hr => ?_, fun j hj => ?_, fun r hr => ?_, fun r hr => ?_, fun r hr => ?_, fun r hr => ?_, fun r hr => ?_, fun r hr => ?_, fun r hr => ?_, fun r hr => ?_, fun r hr => ?_, fun r hr => ?_, fun r hr => ?_, fun r hr => ?_, fun r hr => ?_, fun r hr => ?_, fun c hc e he => ?_, fun e => ?_, fun c hc c' hc' _ => ?_, ⟨Nat.le_refl _, Nat.le_add_right _ _⟩⟩
  · simp at hr
  · omega
  · simp at hr
  · simp at hr
  · simp at hr
  · simp at hr
  · simp at hr
  · simp at hr
  · simp at hr
  · simp at hr
  · simp at hr
  · simp at hr
  · simp at hr
  · simp at hr
  · simp at hr
  · simp at hr
  · simp at hc; subst hc; exact he
  · simp
  · simp at hc hc'; rw [hc, hc']

/-! ### Orders, one by one -/
noncomputable def unl (all : Array Oper) (listed : Array Bool) : Nat := ((List.range all.size).filter fun i => !listed.getD i true).length
noncomputable def seenS (listed : Array Bool) (j : Nat) : Bool := listed.getD j false

theorem ready_mem {listed : Array Bool} {i : Nat} (h : i ∈ Region.ready .any all listed) : i < all.size ∧ listed.getD i true = false ∧ ∃ o, all[i]? = some o ∧ ∀ e ∈ o.after.toList, Region.binds .any e = true → listed.getD e.on false = true := by
  unfold Region.ready at h
  rw [List.mem_filter, List.mem_range, Bool.and_eq_true] at h
  obtain ⟨h1, h2, h3⟩ := h
  refine ⟨h1, by simpa using h2, ?_⟩
  rw [Array.getElem?_eq_getElem h1] at h3 ⊢
  refine ⟨_, rfl, fun e he hb => ?_⟩
  simp only [Option.map_some, Option.getD_some, Array.all_eq_true'] at h3
  have := h3 e (by simpa using he)
  simpa [hb] using this
theorem mem_ready {listed : Array Bool} {i : Nat} {o : Oper} (h1 : i < all.size) (h2 : listed.getD i true = false) (ho : all[i]? = some o) (h3 : ∀ e ∈ o.after.toList, Region.binds .any e = true → listed.getD e.on false = true) : i ∈ Region.ready .any all listed := by
  unfold Region.ready
  rw [List.mem_filter, List.mem_range, Bool.and_eq_true]
  refine ⟨h1, by simp [h2], ?_⟩
  rw [ho]
  simp only [Option.map_some, Option.getD_some, Array.all_eq_true']
  intro e he
  cases hb : Region.binds .any e with
  | false => rfl
  | true => simpa using h3 e (by simpa using he) hb

theorem all_listed (hA : AncOK all.toList ms) {listed : Array Bool} (hs : listed.size = all.size) (h : Region.ready .any all listed = []) : ∀ i, i < all.size → listed.getD i false = true := by
  intro i
  induction i using Nat.strongRecOn with
  | _ i ih =>
    intro hi
    cases hb : listed.getD i false with
    | true => rfl
    | false =>
      have hb' : listed.getD i true = false := by
        have : i < listed.size := by omega
        simp [Array.getD, this] at hb ⊢
        exact hb
      have ho : all[i]? = some all[i] := Array.getElem?_eq_getElem hi
      have := mem_ready hi hb' ho fun e he hbe => ?_
      · rw [h] at this; simp at this
      · have hlt := hA.edge i _ e (by simp) he hbe
        exact ih e.on hlt (by omega)

theorem filter_lt {l : List Nat} {p q : Nat → Bool} {i : Nat} (hpq : ∀ x, p x = true → q x = true) (hi : i ∈ l) (hq : q i = true) (hp : p i = false) : (l.filter p).length < (l.filter q).length := by
  induction l with
  | nil => simp at hi
  | cons x r ih =>
    have hle : (r.filter p).length ≤ (r.filter q).length := by
      clear ih hi
      induction r with
      | nil => simp
      | cons y s ih =>
        simp only [List.filter_cons]
        split
        · rename_i hy; rw [if_pos (hpq y hy)]; simp; omega
        · split
          · simp; omega
          · exact ih
    simp only [List.filter_cons]
    rcases List.mem_cons.1 hi with rfl | hi
    · rw [hp, hq]; simp; omega
    · have := ih hi
      split
      · rename_i hx; rw [if_pos (hpq x hx)]; simp; omega
      · split
        · simp; omega
        · exact this

theorem any_ok {T : DT} {k0 : Kn V} {σ0 : Heap} {w0 : World} (hA : AncOK all.toList ms) (G : T.Good P heapy call modeOf n all ms ρ0 σ0.length top all.size) (hc : ∀ f args σ r, call f args σ = some r → CallOK V P f args σ r) (hm : ∀ f args σ r, modeOf f ≠ 0 → call f args σ = some r → r.2 = σ)
    {Q : Exit → Act → World → Prop} (hQ : ∀ S c k a w, (∀ i, i < all.size → S i = true) → Inv n D ρ0 k0 σ0 w0 T S c k a w → Q .normal a w) :
    ∀ (fuel : Nat) (listed : Array Bool) (a : Act) (w : World), listed.size = all.size → unl all listed ≤ fuel → (∃ c k, Inv n D ρ0 k0 σ0 w0 T (seenS listed) c k a w) → wpAny P .any all Q fuel listed a w := by
  have done : ∀ (listed : Array Bool) (a : Act) (w : World), listed.size = all.size → (∃ c k, Inv n D ρ0 k0 σ0 w0 T (seenS listed) c k a w) → Region.ready .any all listed = [] → Q .normal a w := by
    rintro listed a w hs ⟨c, k, I⟩ hr
    exact hQ _ c k a w (all_listed hA hs hr) I
  intro fuel
  induction fuel with
  | zero =>
    intro listed a w hs hu I
    have hr : Region.ready .any all listed = [] := by
      cases hr : Region.ready .any all listed with
      | nil => rfl
      | cons i rest =>
        obtain ⟨h1, h2, _⟩ := ready_mem (i := i) (by rw [hr]; exact List.mem_cons_self)
        have : i ∈ (List.range all.size).filter fun i => !listed.getD i true := List.mem_filter.2 ⟨List.mem_range.2 h1, by simp [h2]⟩
        unfold unl at hu
        have h3 := List.length_pos_of_mem this
        omega
    exact ⟨hr, done listed a w hs I hr⟩
  | succ fuel ih =>
    intro listed a w hs hu I
    refine ⟨done listed a w hs I, fun i hi => ?_⟩
    obtain ⟨h1, h2, o, ho, h3⟩ := ready_mem hi
    obtain ⟨c, k, I⟩ := I
    obtain ⟨r, hr, rfl⟩ := G.has i h1
    have hsz : r.i < listed.size := by omega
    have hS : seenS listed r.i = false := by
      unfold seenS
      simp [Array.getD, hsz] at h2 ⊢
      exact h2
    obtain ⟨g1, g2, _⟩ := G.op r hr
    have hms : ∀ j, r.mask.testBit j = true → seenS listed j = true := by
      intro j hj
      obtain ⟨e, he, hb, h4⟩ := hA.anc r.i r.o r.mask j (by simpa using g1) g2 hj
      have he' := h3 e (by rw [g1] at ho; injection ho with ho; subst ho; exact he) hb
      rcases h4 with rfl | ⟨b, hbm, hbj⟩
      · exact he'
      · have hlt := hA.edge r.i r.o e (by simpa using g1) he hb
        obtain ⟨q, hq, hqi⟩ := G.has e.on (by omega)
        have hqm := (G.op q hq).2.1
        rw [hqi, hbm] at hqm
        injection hqm with hqm
        exact I.down q hq (by rw [hqi]; exact he') j (by rw [← hqm]; exact hbj)
    have hup : seenS (listed.setIfInBounds r.i true) = upd (seenS listed) r.i := by
      funext j
      unfold seenS upd
      simp only [Array.getD_eq_getD_getElem?, Array.getElem?_setIfInBounds]
      by_cases hj : r.i = j
      · subst hj; simp [hsz]
      · simp [hj, Ne.symm hj]
    refine wpOp_mono (fun a' w' hI => ih _ a' w' (by simpa using hs) ?_ (by rw [hup]; exact hI)) (inv_step G hc hm I hr hS hms)
    have : unl all (listed.setIfInBounds r.i true) < unl all listed := by
      unfold unl
      refine filter_lt (i := r.i) (fun x hx => ?_) (List.mem_range.2 h1) (by simp [h2]) (by simp [Array.getD_eq_getD_getElem?, hsz])
      simp only [Array.getD_eq_getD_getElem?, Array.getElem?_setIfInBounds] at hx ⊢
      by_cases hj : r.i = x
      · subst hj; simp [hsz] at hx
      · simpa [hj] using hx
    omega
end

theorem holes_ok {k : Kn V} {σ : Heap} {w : World} (hR : Rel k σ w) (m : Nat) : Rel k (σ ++ List.replicate m .hole) w := by
  induction m with
  | zero => simpa using hR
  | succ m ih =>
    rw [List.replicate_succ', ← List.append_assoc]
    exact ih.hole

theorem draw_ok {P : Program} (hmix : P.follows .mixedOrders = true) {heapy : Bool} {call : CallF} {modeOf : FuncId → Nat} {n : Nat} (hc : ∀ f args σ r, call f args σ = some r → CallOK V P f args σ r) (hm : ∀ f args σ r, modeOf f ≠ 0 → call f args σ = some r → r.2 = σ) : DrawOK V P (drawA P modeOf heapy call n) n := by
  intro ops s s' id k w D a h hR hE Q hQ
  unfold drawA at h
  split at h
  · cases h
  · rename_i ms hms
    split at h
    · cases h
    · rename_i T hT
      injection h with h; subst h
      have hA : AncOK ops.toList ms := by
        have := masks_spec (pre := []) hms ⟨rfl, fun i o e h => by simp at h, fun i o a j h => by simp at h, fun i a j h => by simp at h⟩
        simpa using this
      have G := drawOps_good hA (base := s.σ.length) (fun t v ht j oj mj h1 h2 h3 => by
        have := re_spec (keys_spec ht) (i0 := 0) (l := ops.toList) (ms := ms) (j := j) (by simpa using h1) h3 h2
        simpa using this) (i := 0) rfl rfl (Nat.zero_le _) (good0 _) hT
      have htop := G.nid
      refine wp_region_any hmix (any_ok (D := D) (k0 := k) (w0 := w) hA G hc hm ?_ ops.size _ a _ (by simp) ?_ ?_)
      · intro S c k' a' w' hall I
        have hSr : ∀ r ∈ T.recs, S r.i = true := fun r hr => hall _ (G.lt r hr)
        have hcur : c = T.cur := by
          refine G.emU c I.mem T.cur (List.mem_cons_self) (Nat.eq_of_testBit_eq fun e => ?_)
          rw [Bool.eq_iff_iff, I.em e, G.emE e]
          constructor
          · rintro ⟨_, h⟩; exact h
          · rintro ⟨q, hq, h1, rfl⟩; exact ⟨hSr q hq, q, hq, h1, rfl⟩
        subst hcur
        have hat : T.cur.at T.mrecs allS = T.cur.at T.mrecs S := by
          have hx : ∀ x ∈ T.mrecs, S x.1 = true := by
            intro x hx
            obtain ⟨q, hq, _, h2, _⟩ := G.m1 x hx
            rw [← h2]; exact hSr q hq
          unfold Core.at
          generalize T.cur.σ = h at *
          generalize T.mrecs = m at hx
          induction m with
          | nil => rfl
          | cons x rest ih =>
            obtain ⟨j, id, b⟩ := x
            have h1 := hx _ List.mem_cons_self
            simp only at h1
            simp only [fill, h1, allS, Bool.true_and]
            have := ih fun x hx' => hx x (List.mem_cons_of_mem _ hx')
            simp only [allS, Bool.true_and] at this
            rw [this]
        refine hQ k' a' w' (by simp only; rw [hat]; exact I.st) ⟨I.size, fun t v hv => ?_, I.defers⟩
        rcases get_append hv with h | ⟨h1, h2⟩
        · obtain ⟨q, hq, _, h2, rfl⟩ := recE_mem (get_mem h)
          exact I.vals q hq (hSr q hq) t h2
        · refine I.base t v h2 fun r hr _ hd => ?_
          exact get_none h1 _ (mem_recE hr rfl hd)
      · unfold unl
        exact Nat.le_trans (List.length_filter_le _ _) (by simp)
      · have hS0 : seenS (Array.replicate ops.size false) = fun _ => false := by
          funext j
          simp only [seenS, Array.getD_eq_getD_getElem?, Array.getElem?_replicate]
          split <;> rfl
        rw [hS0]
        have c0mem : (⟨0, 0, s.σ ++ List.replicate (countM ops.toList) .hole⟩ : Core) ∈ T.cur :: T.old := drawOps_mem hT List.mem_cons_self
        refine ⟨⟨0, 0, s.σ ++ List.replicate (countM ops.toList) .hole⟩, k, c0mem, fun e => by simp, fun j hj => by simp at hj, fun r hr h => by simp at h, ?_, ?_, ?_, ?_, hE.size, hE.defers, fun r hr h => by simp at h, fun t v ht _ => hE.get t v ht⟩
        · have hf : ∀ (m : List (Nat × Nat × Blk)) (h : Heap), fill (fun _ => false) m h = h := by
            intro m h
            induction m with
            | nil => rfl
            | cons x rest ih => simp only [fill, Bool.false_eq_true, if_false]; exact ih
          have : (⟨0, 0, s.σ ++ List.replicate (countM ops.toList) .hole⟩ : Core).at T.mrecs (fun _ => false) = s.σ ++ List.replicate (countM ops.toList) .hole := by
            unfold Core.at
            simp only [Bool.false_and]
            exact hf _ _
          rw [this]
          exact ⟨hR, .refl k, (holes_ok hR _).drew, ⟨rfl, rfl, rfl, Nat.le_refl _, fun _ _ _ => rfl, fun _ _ h => .inl h, fun _ _ _ h => .inl h, fun id hi hr => by rwa [List.getElem?_append_left hi] at hr, by simp, fun _ _ _ _ => rfl⟩⟩
        · simp; omega
        · intro r hr hk _
          obtain ⟨_, h2, h3⟩ := G.k2 r hr hk
          rw [List.getElem?_append_right h2, List.getElem?_replicate, if_pos (by omega)]
        · intro r hr hk _ ep
          obtain ⟨_, h2, h3⟩ := G.k2 r hr hk
          exact hR.none_of _ _ h2
noncomputable def modesOf (fns : FuncId → Option FnI) (f : FuncId) : Nat := match fns f with
  | some i => i.mode
  | none => 0
theorem modeA_same {run : List AV → Heap → Option (AV × Heap)} {mode : Nat} {args : List AV} {σ : Heap} {r : AV × Heap} (hm : mode ≠ 0) (h : modeA run mode args σ = some r) : r.2 = σ := by
  unfold modeA at h
  split at h
  · exact absurd rfl hm
  · split at h
    · split at h
      · obtain ⟨x, _, rfl⟩ := Option.map_eq_some_iff.1 h; rfl
      · cases h
    · cases h
  · split at h
    · split at h
      · split at h
        · injection h with h; subst h; rfl
        · cases h
      · cases h
    · cases h

/-- Calls, reckoned. -/
noncomputable def reck (P : Program) (fns : FuncId → Option FnI) : Nat → CallF := callA P fns (drawA P (modesOf fns))
theorem reck_ok {P : Program} {fns : FuncId → Option FnI} (ht : Tab P fns) (hmix : P.follows .mixedOrders = true) (m : Nat) (f : FuncId) (args : List AV) (σ : Heap) (r : AV × Heap) (h : reck P fns m f args σ = some r) : CallOK V P f args σ r := by
  refine (call_ok ht (fun heapy m n hc => draw_ok hmix hc fun f args σ r hf hr => ?_) m).1 f args σ r h
  cases m with
  | zero => simp [callA] at hr
  | succ m =>
    simp only [callA] at hr
    unfold modesOf at hf
    split at hr
    · cases hr
    · rename_i i hi
      rw [hi] at hf
      split at hr
      · split at hr
        · obtain ⟨v, _, rfl⟩ := Option.map_eq_some_iff.1 hr; rfl
        · cases hr
      · exact modeA_same hf hr
end Go.Dx
