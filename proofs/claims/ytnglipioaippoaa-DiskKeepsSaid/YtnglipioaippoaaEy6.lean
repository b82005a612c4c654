/- Lengths, append, copy, make, literals, slices of slices. -/
import Derived.Test.YtnglipioaippoaaEy5
namespace Go.Dx
variable {V : Nm → Prop}

/-! ### Flat lists -/
theorem flat_get {α : Type} {sz : Nat} : ∀ {es : List (List α)}, (∀ e ∈ es, e.length = sz) → ∀ {i j : Nat}, j < sz → es.flatten[i * sz + j]? = (es[i]?).bind (·[j]?)
  | [], _, i, j, _ => by simp
  | e :: es, h, 0, j, hj => by
    have he := h e List.mem_cons_self
    simp [List.getElem?_append_left (show j < e.length by omega)]
  | e :: es, h, i + 1, j, hj => by
    have he := h e List.mem_cons_self
    have := flat_get (es := es) (fun x hx => h x (List.mem_cons_of_mem _ hx)) (i := i) hj
    rw [List.flatten_cons, List.getElem?_append_right (by rw [Nat.succ_mul]; omega)]
    rw [show (i + 1) * sz + j - e.length = i * sz + j by rw [Nat.succ_mul]; omega, this]
    simp
theorem flat_len {α : Type} {sz : Nat} : ∀ {es : List (List α)}, (∀ e ∈ es, e.length = sz) → es.flatten.length = es.length * sz
  | [], _ => by simp
  | e :: es, h => by
    have he := h e List.mem_cons_self
    rw [List.flatten_cons, List.length_append, flat_len (fun x hx => h x (List.mem_cons_of_mem _ hx)), he, List.length_cons, Nat.succ_mul]
    omega
theorem flat_rel {k : Kn V} {sz : Nat} {es : List (List AV)} {us : List Value} (hp : 0 < sz) (hl : us.length = es.length * sz) (h : ∀ e ∈ es, e.length = sz)
    (hr : ∀ (i : Nat) (e : List AV) (j : Nat) (v : AV), es[i]? = some e → e[j]? = some v → ∃ u, us[i * sz + j]? = some u ∧ VRel k v u) : VRels k es.flatten us := by
  refine ⟨by rw [flat_len h, hl], fun m v u hv hu => ?_⟩
  have hm : m / sz * sz + m % sz = m := by rw [Nat.mul_comm]; exact Nat.div_add_mod m sz
  rw [← hm, flat_get h (Nat.mod_lt _ hp)] at hv
  obtain ⟨e, he, hv⟩ := Option.bind_eq_some_iff.1 hv
  obtain ⟨u', hu', hr'⟩ := hr _ _ _ _ he hv
  rw [hm, hu] at hu'
  injection hu' with hu'
  subst hu'
  exact hr'
theorem flat_back {k : Kn V} {sz : Nat} {es : List (List AV)} {us : List Value} (hr : VRels k es.flatten us) (h : ∀ e ∈ es, e.length = sz) {i : Nat} {e : List AV} {j : Nat} {v : AV} (he : es[i]? = some e) (hv : e[j]? = some v) :
    ∃ u, us[i * sz + j]? = some u ∧ VRel k v u := by
  have hj : j < sz := by rw [← h e (List.mem_of_getElem? he)]; exact (List.getElem?_eq_some_iff.1 hv).1
  have hf : es.flatten[i * sz + j]? = some v := by rw [flat_get h hj, he]; exact hv
  have hlt := (List.getElem?_eq_some_iff.1 hf).1
  have hu : us[i * sz + j]? = some (us[i * sz + j]'(by rw [← hr.1]; exact hlt)) := List.getElem?_eq_getElem (by rw [← hr.1]; exact hlt)
  exact ⟨_, hu, hr.2 _ _ _ hf hu⟩

/-! ### What a slice or string holds -/
def elemsA (σ : Heap) : AV → Option (List (List AV))
  | .sl id ep off len =>
    match σ[id]? with
    | some (.row _ _ es live _) => match lookE ep live with
      | some x => if off + len ≤ x then some ((es.drop off).take len) else none
      | none => none
    | _ => none
  | .ro _ es => some (es.map (·.map up))
  | .nils => some []
  | .emp => some []
  | .str s => some (s.data.toList.map fun b => [.int .u8 b.toNat])
  | _ => none

/-- What the machine reads where a slice or a string stands. -/
structure Holds (P : Program) (k : Kn V) (w : World) (u : Value) (es : List (List AV)) (sz : Nat) : Prop where
  len : ∀ W, (Builtin.lenOf u).run P W = .ok es.length W
  cells : ∀ m, m ≤ es.length → ∃ us : List Value, us.length = m * sz ∧ VRels k (es.take m).flatten us ∧ (∀ v ∈ us, v.oneCell' = true) ∧ ∀ W : World, W.heap = w.heap → (Builtin.firstCells sz m u).run P W = .ok us.toArray W

theorem cell_of_heap {w W : World} (h : W.heap = w.heap) (a : Addr) : W.cell? a = w.cell? a := by unfold World.cell?; rw [h]

theorem holds_of {P : Program} {k : Kn V} {w : World} {a : Addr} {len cap sz : Nat} {es : List (List AV)} (hp : 0 < sz) (hl : es.length = len) (hz : ∀ e ∈ es, e.length = sz) (ho : ∀ e ∈ es, ∀ v ∈ e, one v = true)
    (hc : ∀ (i : Nat) (e : List AV) (j : Nat) (v : AV), es[i]? = some e → e[j]? = some v → ∃ u, w.cell? (a.add (i * sz + j)) = some u ∧ VRel k v u) : Holds P k w (.slice (some a) len cap) es sz := by
  refine ⟨fun W => by simp [Builtin.lenOf, hl], fun m hm => ?_⟩
  have hcell : ∀ j, j < m * sz → ∃ u, w.cell? (a.add j) = some u ∧ u.oneCell' = true := by
    intro j hj
    have hi : j / sz < m := (Nat.div_lt_iff_lt_mul hp).2 hj
    have hil : j / sz < es.length := by omega
    have hjl : j % sz < es[j / sz].length := by rw [hz _ (List.getElem_mem hil)]; exact Nat.mod_lt _ hp
    obtain ⟨u, hu, hr⟩ := hc (j / sz) _ (j % sz) _ (List.getElem?_eq_getElem hil) (List.getElem?_eq_getElem hjl)
    rw [show j / sz * sz + j % sz = j by rw [Nat.mul_comm]; exact Nat.div_add_mod j sz] at hu
    exact ⟨u, hu, hr.one (ho _ (List.getElem_mem hil) _ (List.getElem_mem hjl))⟩
  refine ⟨(List.range (m * sz)).map fun j => (w.cell? (a.add j)).getD undef, by simp, flat_rel hp (by simp [hm]) (fun e he => hz e (List.mem_of_mem_take he)) (fun i e j v he hv => ?_), fun v hv => ?_, fun W hW => ?_⟩
  · rw [List.getElem?_take] at he
    split at he
    · rename_i hi
      obtain ⟨u, hu, hr⟩ := hc i e j v he hv
      have hj : j < sz := by rw [← hz e (List.mem_of_getElem? he)]; exact (List.getElem?_eq_some_iff.1 hv).1
      have hlt : i * sz + j < m * sz := by
        have : (i + 1) * sz ≤ m * sz := Nat.mul_le_mul_right _ hi
        rw [Nat.succ_mul] at this; omega
      exact ⟨u, by simp [hlt, hu], hr⟩
    · cases he
  · obtain ⟨j, hj, rfl⟩ := List.mem_map.1 hv
    obtain ⟨u, hu, h1⟩ := hcell j (List.mem_range.1 hj)
    rw [hu]; exact h1
  · have := run_loadCells (P := P) W a (m * sz) (fun j => (w.cell? (a.add j)).getD undef) (fun j hj => by rw [cell_of_heap hW]; obtain ⟨u, hu, _⟩ := hcell j hj; rw [hu]; rfl)
    simpa [Builtin.firstCells] using this

theorem one_ups {es : List (List PV)} : ∀ e ∈ es.map (·.map up), ∀ v ∈ e, one v = true := by
  intro e he v hv
  obtain ⟨e', _, rfl⟩ := List.mem_map.1 he
  obtain ⟨p, _, rfl⟩ := List.mem_map.1 hv
  exact one_up p

theorem elems_spec {P : Program} {k : Kn V} {σ : Heap} {w : World} (hR : Rel k σ w) {x : AV} {u : Value} (hx : VRel k x u) {es : List (List AV)} (h : elemsA σ x = some es) {sz : Nat} (hp : 0 < sz) (hz : ∀ e ∈ es, e.length = sz) :
    Holds P k w u es sz ∧ ∀ e ∈ es, ∀ v ∈ e, one v = true := by
  have nil_holds : ∀ {u : Value}, (∀ W, (Builtin.lenOf u).run P W = .ok 0 W) → (∀ W, (Builtin.firstCells sz 0 u).run P W = .ok #[] W) → Holds P k w u [] sz := fun h1 h2 =>
    ⟨h1, fun m hm => ⟨[], (by simp at hm; simp [hm]), ⟨(by simp at hm; simp [hm]), fun j v u hv hu => (by simp at hu)⟩, (fun v hv => (by cases hv)), fun W _ => (by simp at hm; subst hm; exact h2 W)⟩⟩
  unfold elemsA at h
  cases hx with
  | sl id ep off len l a cap hm hs hl ha hn =>
    simp only at h
    split at h
    · rename_i ty sz' es' live next hb
      split at h
      · rename_i x hx
        split at h
        · rename_i hle
          injection h with h; subst h
          have r := hR.row _ _ _ _ _ _ hb
          obtain ⟨l', c, fz, hm', hsz, hls, _, hw, hcs, _, hext, hcell⟩ := r.loc ep x (lookE_mem hx)
          rw [hm] at hm'; injection hm' with hm'; subst hm'
          have hxl := (r.eps ep x (lookE_mem hx)).2
          have hlen : ((es'.drop off).take len).length = len := by simp; omega
          have hone : ∀ e ∈ (es'.drop off).take len, ∀ v ∈ e, one v = true := fun e he => by
            obtain ⟨i, hi⟩ := List.getElem?_of_mem (List.mem_of_mem_drop (List.mem_of_mem_take he))
            exact (r.len i e hi).2
          refine ⟨?_, hone⟩
          rcases Nat.eq_zero_or_pos len with h0 | h0
          · subst h0
            have he : (es'.drop off).take 0 = [] := rfl
            rw [he]
            exact nil_holds (fun W => by simp [Builtin.lenOf]) (fun W => by simp [Builtin.firstCells, loadCells, loadCellsFrom])
          · have haa : a = ⟨l.cb, (off - l.s) * l.sz, none⟩ := by rcases ha with ha | ha; omega; exact ha
            -- the size of an element is the row's
            have hszz : sz' = sz := by
              have hmem : es'[off]'(by omega) ∈ (es'.drop off).take len := by
                apply List.mem_iff_getElem?.2
                exact ⟨0, by rw [List.getElem?_take, if_pos h0, List.getElem?_drop]; simp [show off < es'.length by omega]⟩
              rw [← hz _ hmem]
              exact (r.len off _ (List.getElem?_eq_getElem (by omega))).1.symm
            subst hszz
            refine holds_of hp hlen hz hone fun i e j v he hv => ?_
            rw [List.getElem?_take] at he
            split at he
            · rename_i hi
              rw [List.getElem?_drop] at he
              obtain ⟨u, hu, hr⟩ := hcell (off + i) e j v (by omega) (by omega) he hv
              refine ⟨u, ?_, hr⟩
              rw [haa, add_plain, cell_of_row w _ _ c ty fz hw, ← hu, hsz]
              congr 1
              rw [show off + i - l.s = (off - l.s) + i by omega, Nat.add_mul]
              omega
            · cases he
        · cases h
      · cases h
    · cases h
  | ro full es' u hp' =>
    simp only at h
    injection h with h; subst h
    refine ⟨?_, one_ups⟩
    cases hp' with
    | ro _ _ a cap sz' c ty fz f hs hH hl hf hz' hcell hv =>
    rcases es' with _ | ⟨e0, es'⟩
    · exact nil_holds (fun W => by simp [Builtin.lenOf]) (fun W => by simp [Builtin.firstCells, loadCells, loadCellsFrom])
    · have hszz : sz' = sz := by
        have h1 := hz' 0 e0 rfl
        have h2 := hz (e0.map up) (by simp)
        simp at h2; omega
      subst hszz
      refine holds_of hp (by simp) hz one_ups fun i e j v he hv' => ?_
      rw [List.getElem?_map] at he
      obtain ⟨e', he', rfl⟩ := Option.map_eq_some_iff.1 he
      rw [List.getElem?_map] at hv'
      obtain ⟨v', hv2, rfl⟩ := Option.map_eq_some_iff.1 hv'
      have haa : a = ⟨a.block, a.off, none⟩ := by cases a; simp at hs; subst hs; rfl
      refine ⟨f i j, ?_, VRel.of_up (hv i e' j v' he' hv2)⟩
      rw [haa, add_plain, cell_of_row w _ _ c ty fz (hR.H _ _ (hH (by simp)))]
      exact hcell i e' j v' he' hv2
  | nils =>
    simp only at h; injection h with h; subst h
    exact ⟨nil_holds (fun W => by simp [Builtin.lenOf]) (fun W => by simp [Builtin.firstCells]), fun e he => (by cases he)⟩
  | emp a =>
    simp only at h; injection h with h; subst h
    exact ⟨nil_holds (fun W => by simp [Builtin.lenOf]) (fun W => by simp [Builtin.firstCells, loadCells, loadCellsFrom]), fun e he => (by cases he)⟩
  | str s =>
    simp only at h; injection h with h; subst h
    have hone : ∀ e ∈ s.data.toList.map (fun b => [AV.int .u8 b.toNat]), ∀ v ∈ e, one v = true := by
      intro e he v hv
      obtain ⟨b, _, rfl⟩ := List.mem_map.1 he
      simp at hv; subst hv; rfl
    refine ⟨⟨fun W => by simp [Builtin.lenOf], fun m hm => ?_⟩, hone⟩
    have hm' : m ≤ s.data.toList.length := by simpa using hm
    rcases Nat.eq_zero_or_pos m with h0 | h0
    · subst h0
      exact ⟨[], (by simp), ⟨(by simp), fun j v u hv hu => (by simp at hu)⟩, (fun v hv => (by cases hv)), fun W _ => (by simp [Builtin.firstCells])⟩
    · have hsz1 : sz = 1 := by
        have := hz [AV.int .u8 (s.data.toList[0]'(by omega)).toNat] (List.mem_map.2 ⟨_, List.getElem_mem _, rfl⟩)
        simpa using this.symm
      subst hsz1
      refine ⟨(s.data.toList.take m).map fun b => Value.int .u8 b.toNat, by rw [List.length_map, List.length_take]; omega, flat_rel (by omega) (by rw [List.length_map, List.length_take, List.length_take, List.length_map]; omega) (fun e he => hz e (List.mem_of_mem_take he)) (fun i e j v he hv => ?_), fun v hv => ?_, fun W _ => ?_⟩
      · rw [List.getElem?_take] at he
        split at he
        · rename_i hi
          rw [List.getElem?_map] at he
          obtain ⟨b, hb, rfl⟩ := Option.map_eq_some_iff.1 he
          cases j with
          | zero =>
            simp at hv; subst hv
            refine ⟨.int .u8 b.toNat, ?_, .int _ _⟩
            rw [Nat.mul_one, Nat.add_zero, List.getElem?_map, List.getElem?_take, if_pos hi, hb]; rfl
          | succ j => simp at hv
        · cases he
      · obtain ⟨b, _, rfl⟩ := List.mem_map.1 hv; rfl
      · simp only [Builtin.firstCells, Sem.run_pure]
        congr 1
        apply Array.ext'
        simp [ByteArray.data_extract]
  | _ => cases h
end Go.Dx
