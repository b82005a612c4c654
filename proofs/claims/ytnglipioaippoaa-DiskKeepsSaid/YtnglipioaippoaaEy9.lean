/- Literals of structs, arrays and slices; make; copy. -/
import Derived.Test.YtnglipioaippoaaEy8
namespace Go.Dx
variable {V : Nm → Prop}

/-! ### Pure values back -/
def down : AV → Option PV
  | .bool b => some (.bool b)
  | .int k n => some (.int k n)
  | .str s => some (.str s)
  | .nilp => some .nilp
  | .nils => some .nils
  | .emp => some .emp
  | .ro f es => some (.ro f es)
  | .nilm => some .nilm
  | .nilf => some .nilf
  | .nili => some .nili
  | _ => none
def downs : List AV → Option (List PV)
  | [] => some []
  | v :: r => match down v, downs r with
    | some a, some b => some (a :: b)
    | _, _ => none
def downss : List (List AV) → Option (List (List PV))
  | [] => some []
  | v :: r => match downs v, downss r with
    | some a, some b => some (a :: b)
    | _, _ => none
theorem down_rel {k : Kn V} {v : AV} {p : PV} {u : Value} (hd : down v = some p) (h : VRel k v u) : PRel k.H p u := by
  unfold down at hd
  cases h <;> simp at hd <;> subst hd <;> first | (constructor; done) | skip
  rename_i h
  exact h
theorem downs_get {cs : List AV} {ps : List PV} (h : downs cs = some ps) : ps.length = cs.length ∧ ∀ (j : Nat) (p : PV), ps[j]? = some p → ∃ v, cs[j]? = some v ∧ down v = some p := by
  induction cs generalizing ps with
  | nil => simp only [downs] at h; injection h with h; subst h; exact ⟨rfl, fun j p hp => by simp at hp⟩
  | cons v r ih =>
    simp only [downs] at h
    split at h
    · rename_i a b ha hb
      injection h with h; subst h
      obtain ⟨h1, h2⟩ := ih hb
      refine ⟨by simp [h1], fun j p hp => ?_⟩
      cases j with
      | zero => simp at hp; subst hp; exact ⟨v, rfl, ha⟩
      | succ j => simp at hp; obtain ⟨v', hv', hd⟩ := h2 j p hp; exact ⟨v', by simpa using hv', hd⟩
    · cases h
theorem downss_get {es : List (List AV)} {ps : List (List PV)} (h : downss es = some ps) : ps.length = es.length ∧ ∀ (j : Nat) (p : List PV), ps[j]? = some p → ∃ v, es[j]? = some v ∧ downs v = some p := by
  induction es generalizing ps with
  | nil => simp only [downss] at h; injection h with h; subst h; exact ⟨rfl, fun j p hp => by simp at hp⟩
  | cons v r ih =>
    simp only [downss] at h
    split at h
    · rename_i a b ha hb
      injection h with h; subst h
      obtain ⟨h1, h2⟩ := ih hb
      refine ⟨by simp [h1], fun j p hp => ?_⟩
      cases j with
      | zero => simp at hp; subst hp; exact ⟨v, rfl, ha⟩
      | succ j => simp at hp; obtain ⟨v', hv', hd⟩ := h2 j p hp; exact ⟨v', by simpa using hv', hd⟩
    · cases h

section
variable {P : Program} {k : Kn V} {σ : Heap} {w : World}

/-! ### Filling -/
def fillA (place : Nat → Option (Nat × Nat)) : List AV → List (Nat × AV) → Option (List AV)
  | cells, [] => some cells
  | cells, (i, v) :: rest =>
    match place i with
    | none => none
    | some (off, size) =>
      if ((cellsA v).length == size) && decide (off + size ≤ cells.length) && (cellsA v).all one then fillA place (putA cells off (cellsA v)) rest else none

theorem foldl_put (off : Nat) : ∀ (vs : List Value) (n : Nat) (cells : Array Value), off + n + vs.length ≤ cells.size →
    ((vs.zipIdx n).foldl (fun (cs : Array Value) (x : Value × Nat) => cs.setIfInBounds (off + x.2) x.1) cells).size = cells.size ∧
    ∀ m, ((vs.zipIdx n).foldl (fun (cs : Array Value) (x : Value × Nat) => cs.setIfInBounds (off + x.2) x.1) cells)[m]? = if off + n ≤ m ∧ m < off + n + vs.length then vs[m - (off + n)]? else cells[m]?
  | [], n, cells, _ => ⟨rfl, fun m => by rw [if_neg (by simp only [List.length_nil]; omega)]; rfl⟩
  | v :: vs, n, cells, h => by
    simp only [List.length_cons] at h
    obtain ⟨h1, h2⟩ := foldl_put off vs (n + 1) (cells.setIfInBounds (off + n) v) (by simp; omega)
    simp only [List.zipIdx_cons, List.foldl_cons]
    refine ⟨by rw [h1]; simp, fun m => ?_⟩
    rw [h2 m]
    simp only [List.length_cons]
    by_cases hm : m = off + n
    · subst hm
      rw [if_neg (by omega), if_pos (by omega)]
      simp [show off + n < cells.size by omega]
    · by_cases hr : off + (n + 1) ≤ m ∧ m < off + (n + 1) + vs.length
      · rw [if_pos hr, if_pos (by omega), show m - (off + n) = (m - (off + (n + 1))) + 1 by omega, List.getElem?_cons_succ]
      · rw [if_neg hr, if_neg (by omega), Array.getElem?_setIfInBounds_ne (by omega)]

theorem fill_ok {place : Nat → Option (Nat × Nat)} : ∀ {parts : List (Nat × AV)} {uparts : List (Nat × Value)} {cs r : List AV} {us : Array Value}, VRels k cs us.toList →
    parts.length = uparts.length → (∀ (j : Nat) (i : Nat) (v : AV) (i' : Nat) (u : Value), parts[j]? = some (i, v) → uparts[j]? = some (i', u) → i = i' ∧ VRel k v u) → (∀ v ∈ cs, one v = true) → fillA place cs parts = some r →
    ∃ us', Instr.fill place us uparts = some us' ∧ VRels k r us'.toList ∧ us'.size = us.size ∧ (∀ v ∈ r, one v = true)
  | [], uparts, cs, r, us, hr, hl, _, ho, h => by
    have : uparts = [] := List.eq_nil_of_length_eq_zero (by simpa using hl.symm)
    subst this
    simp only [fillA] at h
    injection h with h; subst h
    exact ⟨us, rfl, hr, rfl, ho⟩
  | (i, v) :: rest, uparts, cs, r, us, hr, hl, hp, ho, h => by
    rcases uparts with _ | ⟨⟨i', u⟩, urest⟩
    · simp at hl
    obtain ⟨rfl, hv⟩ := hp 0 i v i' u rfl rfl
    simp only [fillA] at h
    cases hpl : place i with
    | none => rw [hpl] at h; cases h
    | some os =>
      obtain ⟨off, size⟩ := os
      rw [hpl] at h
      simp only at h
      split at h
      · rename_i hc
        simp only [Bool.and_eq_true, beq_iff_eq, decide_eq_true_eq, List.all_eq_true] at hc
        obtain ⟨⟨hcl, hle⟩, hone⟩ := hc
        have hcv := hv.cells
        have hus : u.cells.size = size := by have := hcv.1; simp at this; omega
        have hcsz : cs.length = us.size := by simpa using hr.1
        obtain ⟨hf1, hf2⟩ := foldl_put off u.cells.toList 0 us (by simp; omega)
        have hput : VRels k (putA cs off (cellsA v)) ((u.cells.toList.zipIdx 0).foldl (fun (cs : Array Value) (x : Value × Nat) => cs.setIfInBounds (off + x.2) x.1) us).toList := by
          refine ⟨(putA_len (by omega)).trans (hcsz.trans (hf1.symm.trans Array.length_toList.symm)), fun m x y hx hy => ?_⟩
          rw [Array.getElem?_toList, hf2 m] at hy
          by_cases hm : off ≤ m ∧ m < off + size
          · rw [if_pos (by simp; omega)] at hy
            obtain ⟨m', rfl⟩ : ∃ m', m = off + m' := ⟨m - off, by omega⟩
            rw [putA_in (by omega) (by omega)] at hx
            exact hcv.2 m' x y hx (by rw [← hy]; congr 1; omega)
          · rw [if_neg (by simp; omega)] at hy
            rw [putA_out (by omega) (by omega)] at hx
            exact hr.2 m x y hx (by simpa using hy)
        have ho' : ∀ x ∈ putA cs off (cellsA v), one x = true := by
          intro x hx
          simp only [putA, List.mem_append] at hx
          rcases hx with hx | hx | hx
          · exact ho x (List.mem_of_mem_take hx)
          · exact hone x hx
          · exact ho x (List.mem_of_mem_drop hx)
        obtain ⟨us', h1, h2, h3, h4⟩ := fill_ok hput (by simpa using hl) (fun j a b c d h1 h2 => hp (j + 1) a b c d (by simpa using h1) (by simpa using h2)) ho' h
        refine ⟨us', ?_, h2, by rw [h3, hf1], h4⟩
        simp only [Instr.fill, hpl]
        rw [if_neg (by simp; omega)]
        rw [← h1, ← Array.foldl_toList, Array.toList_zipIdx]
      · cases h

/-- Parts of a literal. -/
structure Parts (k : Kn V) (ps : List (Nat × AV)) (us : List (Nat × Value)) : Prop where
  len : ps.length = us.length
  rel : ∀ (j : Nat) (i : Nat) (v : AV) (i' : Nat) (u : Value), ps[j]? = some (i, v) → us[j]? = some (i', u) → i = i' ∧ VRel k v u

def placesA (P : Program) (fs : Array Field) : Option (List (Nat × Nat)) := fs.toList.mapM fun f => (P.info? f.type).map fun i => (f.offset, i.size)
def buildA (P : Program) (t : TypeId) (parts : List (Nat × AV)) : Option AV :=
  match zeroA P t with
  | some z => match P.underlying t with
    | some (.struct fs) => match placesA P fs with
      | some pl => (fillA (fun i => pl[i]?) z parts).map .agg
      | none => none
    | some (.array _ e) => match szA P e with
      | some s => (fillA (fun i => some (i * s, s)) z parts).map .agg
      | none => none
    | _ => none
  | none => none
theorem build_ok (hR : Rel k σ w) {t : TypeId} {ps : List (Nat × AV)} {us : Array (Nat × Value)} (hp : Parts k ps us.toList) {r : AV} (h : buildA P t ps = some r) : Ok P k σ w (Instr.build t us) (r, σ) := by
  unfold buildA at h
  split at h
  · rename_i z hz
    obtain ⟨it, zv, hi, hzv, hzr, hz1⟩ := zeroA_spec hz
    split at h
    · rename_i fs hu
      split at h
      · rename_i pl hpl
        obtain ⟨cs, hf, rfl⟩ := Option.map_eq_some_iff.1 h
        obtain ⟨us', h1, h2, h3, _⟩ := fill_ok (hzr k) hp.len hp.rel hz1 hf
        refine Ok.same hR (run_build (P := P) w t us us' ?_) (.agg _ _ (by simpa using h2.1) fun j v u hv hu => h2.2 j v u hv (by simpa using hu))
        unfold Program.built
        simp only [hi, hu, hzv]
        unfold placesA at hpl
        rw [hpl]
        simpa using h1
      · cases h
    · rename_i n e hu
      split at h
      · rename_i s hs
        obtain ⟨ie, hie, rfl⟩ := szA_spec hs
        obtain ⟨cs, hf, rfl⟩ := Option.map_eq_some_iff.1 h
        obtain ⟨us', h1, h2, h3, _⟩ := fill_ok (hzr k) hp.len hp.rel hz1 hf
        refine Ok.same hR (run_build (P := P) w t us us' ?_) (.agg _ _ (by simpa using h2.1) fun j v u hv hu => h2.2 j v u hv (by simpa using hu))
        unfold Program.built
        simp only [hi, hu, hzv, hie]
        exact h1
      · cases h
    · cases h
  · cases h

/-! ### A slice literal, make -/
def chunk (sz : Nat) : Nat → List AV → List (List AV)
  | 0, _ => []
  | n + 1, l => l.take sz :: chunk sz n (l.drop sz)
theorem chunk_spec {sz : Nat} : ∀ {n : Nat} {l : List AV}, l.length = n * sz → (chunk sz n l).flatten = l ∧ (chunk sz n l).length = n ∧ ∀ e ∈ chunk sz n l, e.length = sz
  | 0, l, h => ⟨by simp at h; simp [chunk, h], rfl, fun e he => by cases he⟩
  | n + 1, l, h => by
    rw [Nat.succ_mul] at h
    obtain ⟨h1, h2, h3⟩ := chunk_spec (sz := sz) (n := n) (l := l.drop sz) (by simp; omega)
    refine ⟨by simp [chunk, h1], by simp [chunk, h2], fun e he => ?_⟩
    rcases List.mem_cons.1 he with rfl | he
    · simp; omega
    · exact h3 e he

theorem zeros_rel {z : Value} {zs : List AV} (hz : VRels k zs z.cells.toList) (hp : 0 < zs.length) (n : Nat) :
    VRels k (List.replicate n zs).flatten ((Array.range (n * zs.length)).map (z.cells[· % z.cells.size]!)).toList := by
  have hsz : zs.length = z.cells.size := by simpa using hz.1
  refine flat_rel hp (by simp) (fun e he => by rw [(List.mem_replicate.1 he).2]) fun i e j v he hv => ?_
  have hin : i < n := by have := (List.getElem?_eq_some_iff.1 he).1; simpa using this
  rw [List.getElem?_replicate, if_pos hin] at he
  injection he with he; subst he
  have hj := (List.getElem?_eq_some_iff.1 hv).1
  have hlt : i * zs.length + j < n * zs.length := by
    have : (i + 1) * zs.length ≤ n * zs.length := Nat.mul_le_mul_right _ hin
    rw [Nat.succ_mul] at this; omega
  have hmod : (i * zs.length + j) % z.cells.size = j := by
    rw [← hsz, Nat.mul_comm, Nat.mul_add_mod]; exact Nat.mod_eq_of_lt hj
  have hjz : j < z.cells.size := by omega
  refine ⟨z.cells[j], ?_, hz.2 j v _ hv (by simp [hjz])⟩
  simp [hlt, hmod, hjz]

/-- A block that stays as it is. -/
def Kn.pin (k : Kn V) (b : Nat) (o : Obj) : Kn V := ⟨fun c => if c = b then some o else k.H c, k.μ, k.val, k.hv⟩
theorem Rel.pinned (hR : Rel k σ w) (o : Obj) : Step k σ w (k.pin w.heap.size o) σ (w.alloc o) := by
  have old : ∀ b, b < w.heap.size → (w.alloc o).heap[b]? = w.heap[b]? := fun b hb => by
    show (w.heap.push _)[b]? = _
    rw [Array.getElem?_push, if_neg (by omega)]
  have hlt : ∀ b o', k.H b = some o' → b < w.heap.size := fun b o' h => (Array.getElem?_eq_some_iff.1 (hR.H b o' h)).1
  have hle : k.Le (k.pin w.heap.size o) := ⟨fun b o' h => by
    have := hlt b o' h
    simp only [Kn.pin]; rw [if_neg (by omega)]; exact h, fun _ _ _ h => h, rfl⟩
  refine ⟨hR, hle, ⟨fun id ty sz es live next hb => ?_, hR.sep, fun b o' h => ?_, fun id ep l hm => ?_, hR.nodup, fun id es hb => let ⟨l, ents, ck, m1, m2, m3, m4⟩ := hR.mp id es hb; ⟨l, ents, ck, m1, (by simp only [Kn.pin]; rw [if_neg (by have := hR.lt m1; omega)]; exact m2), (by rw [old _ (hR.lt m1)]; exact m3), m4.mono hle⟩⟩, ⟨rfl, rfl, rfl, by simp, fun b hb _ => old b hb, fun b o' h => ?_, fun id ep l h => .inl h, fun _ _ h => h, Nat.le_refl _, fun _ _ _ _ => rfl⟩⟩
  · have r := hR.row id ty sz es live next hb
    refine ⟨r.pos, r.eps, r.len, fun ep ext hl => ?_⟩
    obtain ⟨l, c, fz, hm, h1, h2, h3, h4, h5, h6, h7, h8⟩ := r.loc ep ext hl
    have := hR.lt hm
    refine ⟨l, c, fz, hm, h1, h2, by simp only [Kn.pin]; rw [if_neg (by omega)]; exact h3, by rw [old _ this]; exact h4, h5, h6, h7, fun p e j v hp1 hp2 he hv => ?_⟩
    obtain ⟨u, hu, hr⟩ := h8 p e j v hp1 hp2 he hv
    exact ⟨u, hu, hr.mono hle⟩
  · simp only [Kn.pin] at h
    split at h
    · rename_i hb
      injection h with h; subst h; subst hb
      exact Array.getElem?_push_size
    · rw [old b (hlt b o' h)]; exact hR.H b o' h
  · obtain ⟨h1, h2⟩ := hR.fresh id ep l hm
    exact ⟨by simp; omega, h2⟩
  · simp only [Kn.pin] at h
    split at h
    · exact .inr (.inl (by omega))
    · exact .inl h

def buildSliceM (P : Program) (heapy : Bool) (id : Nat) (t : TypeId) (n : Nat) (parts : List (Nat × AV)) : Option (AV × Option Blk) :=
  match P.underlying t with
  | some (.slice e) =>
    match zeroA P e, szA P e with
    | some z, some s =>
      if (z.length == s) && decide (0 < s) && decide (n * s ≤ 16777216) then
        (if n == 0 then (if parts.isEmpty then some (.emp, none) else none) else
        match fillA (fun i => some (i * s, s)) (List.replicate n z).flatten parts with
        | some l =>
          match (if heapy then none else downss (chunk s n l)) with
          | some ps => some (.ro true ps, none)
          | none => some (.sl id 0 0 n, some (newB e s (chunk s n l)))
        | none => none)
      else none
    | _, _ => none
  | _ => none
theorem buildSlice_ok (hR : Rel k σ w) {heapy : Bool} {id : Nat} {t : TypeId} {n : Nat} {ps : List (Nat × AV)} {us : Array (Nat × Value)} (hp : Parts k ps us.toList) {r : AV × Option Blk} (h : buildSliceM P heapy id t n ps = some r) :
    MkOk P k σ w id (Instr.buildSlice t n us) r := by
  unfold buildSliceM at h
  split at h
  · rename_i e hu
    split at h
    · rename_i z s hz hs
      obtain ⟨it, zv, hi, hzv, hzr, hz1⟩ := zeroA_spec hz
      obtain ⟨it', hi', hsz⟩ := szA_spec hs
      rw [hi] at hi'; injection hi' with hi'; subst hi'
      split at h
      · rename_i hc
        simp only [Bool.and_eq_true, beq_iff_eq, decide_eq_true_eq] at hc
        obtain ⟨⟨hzl, hp0⟩, hlim⟩ := hc
        split at h
        · rename_i hn0
          split at h
          · rename_i hpe
            injection h with h; subst h
            obtain rfl : n = 0 := by simpa using hn0
            have : ps = [] := by simpa using hpe
            subst this
            have hue : us.toList = [] := List.eq_nil_of_length_eq_zero (by have := hp.len; simpa using this.symm)
            refine ⟨k.pin w.heap.size (.cells #[] e), .slice (some ⟨w.heap.size, 0, none⟩) 0 0, w.alloc (.cells #[] e), ?_, .emp _, hR.pinned _⟩
            simp [Instr.buildSlice, run_underlying hu, run_sizeOf hi, hue, Instr.fill, newRow]
            congr 2
            apply Array.ext'
            simp
          · cases h
        · rename_i hn0
          have hnp : 0 < n := by simp at hn0; omega
          split at h
          · rename_i l hl
            have hzrel := zeros_rel (hzr k) (by omega) n
            have hone : ∀ v ∈ (List.replicate n z).flatten, one v = true := by
              intro v hv
              obtain ⟨x, hx, hv⟩ := List.mem_flatten.1 hv
              rw [(List.mem_replicate.1 hx).2] at hv
              exact hz1 v hv
            obtain ⟨us', h1, h2, h3, h4⟩ := fill_ok (us := (Array.range (n * z.length)).map (zv.cells[· % zv.cells.size]!)) hzrel hp.len hp.rel hone hl
            have hll : l.length = n * s := by
              have q1 : l.length = us'.size := by simpa using h2.1
              rw [q1, h3]; simp [hzl]
            obtain ⟨c1, c2, c3⟩ := chunk_spec hll
            have hrun : (Instr.buildSlice t n us).run P w = .ok (.slice (some ⟨w.heap.size, 0, none⟩) n n) (w.alloc (.cells us' e)) := by
              have e1 : ¬ (16777216 < n * it.size) := by rw [hsz]; omega
              have e2 : ¬ (n * it.size = 0) := by rw [hsz]; exact Nat.ne_of_gt (Nat.mul_pos hnp hp0)
              have hzl' : z.length = it.size := by omega
              rw [hzl'] at h1
              have e3 : Instr.fill (fun i => some (i * it.size, it.size)) ((Array.range (n * it.size)).map (zv.cells[· % zv.cells.size]!)) us.toList = some us' := by rw [← h1, hsz]
              simp only [Instr.buildSlice, Sem.run_bind, run_underlying hu, run_sizeOf hi, Result.andThen_ok]
              simp only [Nat.reducePow, gt_iff_lt, e1, if_false, e2, Sem.run_bind, Sem.run_pure, run_zeroValue hi hzv, Result.andThen_ok, e3]
              simp [newRow]
            have hcell : ∀ (i : Nat) (x : List AV) (j : Nat) (v : AV), (chunk s n l)[i]? = some x → x[j]? = some v → ∃ u, us'[i * s + j]? = some u ∧ VRel k v u := by
              intro i x j v hx hv
              obtain ⟨u, hu, hr⟩ := flat_back (us := us'.toList) (by rw [c1]; exact h2) c3 hx hv
              exact ⟨u, by simpa using hu, hr⟩
            split at h
            · rename_i pss hpss
              injection h with h; subst h
              have hpss' : downss (chunk s n l) = some pss := by
                split at hpss
                · cases hpss
                · exact hpss
              obtain ⟨d1, d2⟩ := downss_get hpss'
              have hst := hR.pinned (.cells us' e)
              refine ⟨_, _, _, hrun, ?_, hst⟩
              have hget : ∀ (i : Nat) (x : List PV) (j : Nat) (p : PV), pss[i]? = some x → x[j]? = some p → ∃ u, us'[i * s + j]? = some u ∧ PRel k.H p u := by
                intro i x j p hx hp'
                obtain ⟨y, hy, hdy⟩ := d2 i x hx
                obtain ⟨q, hq, hdq⟩ := (downs_get hdy).2 j p hp'
                obtain ⟨u, hu, hr⟩ := hcell i y j q hy hq
                exact ⟨u, hu, down_rel hdq hr⟩
              have hl' : pss.length = n := by rw [d1, c2]
              have := PRel.ro (H := (k.pin w.heap.size (.cells us' e)).H) true pss ⟨w.heap.size, 0, none⟩ n s us' e (0, 0) (fun i j => us'[i * s + j]?.getD undef) rfl (fun _ => by simp [Kn.pin]) (by omega) (fun _ => hl'.symm)
                (fun i x hx => by obtain ⟨y, hy, hdy⟩ := d2 i x hx; rw [(downs_get hdy).1]; exact c3 y (List.mem_of_getElem? hy))
                (fun i x j p hx hp' => by obtain ⟨u, hu, _⟩ := hget i x j p hx hp'; simp [hu]) (fun i x j p hx hp' => by obtain ⟨u, hu, hr⟩ := hget i x j p hx hp'; simp [hu]; exact hr.mono hst.le.H)
              rw [hl'] at this
              exact .ro _ _ _ this
            · injection h with h; subst h
              have hst := row_fits (k := k) (w := w) id e s (chunk s n l) us' e hp0 rfl (fun i x hx => ⟨c3 x (List.mem_of_getElem? hx), fun v hv => h4 v (by rw [← c1]; exact List.mem_flatten.2 ⟨x, List.mem_of_getElem? hx, hv⟩)⟩)
                (by rw [c2, h3]; simp [hzl]) hcell
              refine ⟨_, _, _, hrun, ?_, hst⟩
              refine .sl _ _ _ _ _ _ n (Kn.add_same _ _ _ _) (Nat.le_refl _) (Nat.le_refl _) (.inr (by simp)) ?_
              simp [h3, hzl]
          · cases h
      · cases h
    · cases h
  · cases h
end
end Go.Dx
