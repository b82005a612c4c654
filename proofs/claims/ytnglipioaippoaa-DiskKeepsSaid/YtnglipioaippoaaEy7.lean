/- append. -/
import Derived.Test.YtnglipioaippoaaEy6
namespace Go.Dx
variable {V : Nm → Prop}
section
variable {P : Program} {k : Kn V} {σ : Heap} {w : World}

theorem grownCap_ge (w : World) (need old : Nat) (e : TypeId) : need ≤ grownCap w need old e := by
  unfold grownCap Question.cut
  simp

theorem run_append_grows' {st xt ty e : TypeId} {inf : TypeInfo} {z : Value} (hst : P.underlying st = some (.slice e)) (hxt : (∃ e', P.underlying xt = some (.slice e')) ∨ P.underlying xt = some .string)
    (hi : P.info? e = some inf) (hz : inf.zero = some z) {b : Option Addr} {sLen sCap n : Nat} {x : Value} (hlen : ∀ W, (Builtin.lenOf x).run P W = .ok n W) {olds news : List Value}
    (hold : ∀ W : World, W.heap = w.heap → (Builtin.firstCells inf.size sLen (.slice b sLen sCap)).run P W = .ok olds.toArray W) (hnew : ∀ W : World, W.heap = w.heap → (Builtin.firstCells inf.size n x).run P W = .ok news.toArray W)
    (hg : sCap < sLen + n) (h63 : sLen + n ≤ 9223372036854775807) (hfit : (sLen + n) * inf.bytes ≤ 140737488355328) :
    (Builtin.append_ #[st, xt] ty #[.slice b sLen sCap, x]).run P w = .ok (.slice (some ⟨w.heap.size, 0, none⟩) (sLen + n) (grownCap w (sLen + n) sCap e))
      (w.drew.alloc (.cells (olds ++ (news ++ (Builtin.zeroCells z.cells (grownCap w (sLen + n) sCap e - (sLen + n))).toList)).toArray e)) := by
  have h1 : ¬ (sLen + n ≤ sCap) := by omega
  have h2 : ¬ (9223372036854775807 < ((sLen : Int) + (n : Int))) := by omega
  have h3 : ¬ (281474976710656 < Builtin.nextslicecap (sLen + n) sCap * inf.bytes) := by have := growslice_fits hg hfit; omega
  have h4 := hold w.drew rfl
  have h5 := hnew w.drew rfl
  rcases hxt with ⟨e', hxt⟩ | hxt <;>
  · simp [Builtin.append_, run_underlying hst, run_underlying hxt, sizeOf, typeInfo, zeroValue, hi, hz, hlen, h1, h2, h3, Question.forced, h4, h5, newRow, grownCap]
    congr 2
    apply Array.ext'
    simp

theorem run_append_in' {st xt ty e : TypeId} {inf : TypeInfo} (hst : P.underlying st = some (.slice e)) (hxt : (∃ e', P.underlying xt = some (.slice e')) ∨ P.underlying xt = some .string)
    (hi : P.info? e = some inf) {a : Addr} {sLen sCap n : Nat} {x : Value} (hlen : ∀ W, (Builtin.lenOf x).run P W = .ok n W) {news : List Value}
    (hnew : (Builtin.firstCells inf.size n x).run P w = .ok news.toArray w) (hg : sLen + n ≤ sCap) {w' : World} (hrun : (storeCells (a.add (sLen * inf.size)) news).run P w = .ok () w') :
    (Builtin.append_ #[st, xt] ty #[.slice (some a) sLen sCap, x]).run P w = .ok (.slice (some a) (sLen + n) sCap) w' := by
  rcases hxt with ⟨e', hxt⟩ | hxt <;>
  · simp [Builtin.append_, run_underlying hst, run_underlying hxt, sizeOf, typeInfo, hi, hlen, hg, hnew, hrun]

theorem run_append_zero {st xt ty e : TypeId} {inf : TypeInfo} (hst : P.underlying st = some (.slice e)) (hxt : (∃ e', P.underlying xt = some (.slice e')) ∨ P.underlying xt = some .string)
    (hi : P.info? e = some inf) {b : Option Addr} {sLen sCap : Nat} {x : Value} (hlen : ∀ W, (Builtin.lenOf x).run P W = .ok 0 W)
    (hnew : (Builtin.firstCells inf.size 0 x).run P w = .ok #[] w) (hg : sLen ≤ sCap) :
    (Builtin.append_ #[st, xt] ty #[.slice b sLen sCap, x]).run P w = .ok (.slice b sLen sCap) w := by
  rcases hxt with ⟨e', hxt⟩ | hxt <;>
  · cases b <;> simp [Builtin.append_, run_underlying hst, run_underlying hxt, sizeOf, typeInfo, hi, hlen, hg, hnew, storeCells]

def shortE (m : Nat) (l : List (Nat × Nat)) : List (Nat × Nat) := l.filter fun p => decide (p.2 ≤ m)
theorem mem_shortE {m e x : Nat} {l : List (Nat × Nat)} (h : (e, x) ∈ shortE m l) : (e, x) ∈ l ∧ x ≤ m := by simpa [shortE, List.mem_filter] using h

def capBytes : Nat := 1099511627776

def isSeq (P : Program) (t : TypeId) : Bool :=
  match P.underlying t with
  | some (.slice _) | some .string => true
  | _ => false

def appendTo (σ : Heap) (e : TypeId) (sz bytes : Nat) (s : AV) (news : List (List AV)) : Option (AV × Heap) :=
  match s with
  | .nils => some (.sl σ.length 0 0 news.length, newA σ e sz news)
  | .emp => some (.sl σ.length 0 0 news.length, newA σ e sz news)
  | .ro true es =>
    let olds := es.map (·.map up)
    if olds.all (·.length == sz) && decide ((es.length + news.length) * bytes ≤ capBytes) && decide (es.length + news.length ≤ capBytes) then
      some (.sl σ.length 0 0 (es.length + news.length), newA σ e sz (olds ++ news)) else none
  | .sl id ep off len =>
    match σ[id]? with
    | some (.row ty sz' es live next) =>
      match lookE ep live with
      | some x => if (ty == e) && (sz' == sz) && decide (off + len ≤ x) && decide ((len + news.length) * bytes ≤ capBytes) && decide (len + news.length ≤ capBytes) then
          some (.sl id next off (len + news.length), σ.set id (.row ty sz (es.take (off + len) ++ news) ((next, off + len + news.length) :: shortE (off + len) live) (next + 1))) else none
      | none => none
    | _ => none
  | _ => none

def appendA (P : Program) (σ : Heap) (st xt : TypeId) (s x : AV) : Option (AV × Heap) :=
  match P.underlying st with
  | some (.slice e) =>
    match P.info? e, zeroA P e, elemsA σ x with
    | some inf, some zs, some news =>
      if isSeq P xt && (zs.length == inf.size) && news.all (·.length == inf.size) && decide (0 < inf.size) && decide (news.length * inf.bytes ≤ capBytes) && decide (news.length ≤ capBytes) then
        (if news.isEmpty then (match s with | .nils | .emp | .ro _ _ | .sl _ _ _ _ => some (s, σ) | _ => none) else appendTo σ e inf.size inf.bytes s news) else none
    | _, _, _ => none
  | _ => none

/-- A new row out of what is there and what is new. -/
theorem fresh_row (hR : Rel k σ w) {e : TypeId} {sz cap n : Nat} {es : List (List AV)} {us : List Value} (rest : List Value) (hp : 0 < sz) (hz : ∀ x ∈ es, x.length = sz) (ho : ∀ x ∈ es, ∀ v ∈ x, one v = true)
    (hr : VRels k es.flatten us) (_hn : es.length = n) (hc : n ≤ cap) (hrest : (us ++ rest).length = cap * sz) :
    ∃ k', VRel k' (.sl σ.length 0 0 n) (.slice (some ⟨w.heap.size, 0, none⟩) n cap) ∧ Step k σ w k' (newA σ e sz es) (w.drew.alloc (.cells (us ++ rest).toArray e)) := by
  have hul : us.length = es.length * sz := by rw [← hr.1, flat_len hz]
  have hs := (hR.drew).push e sz es (us ++ rest).toArray hp (fun i x hx => ⟨hz x (List.mem_of_getElem? hx), ho x (List.mem_of_getElem? hx)⟩) (by simp; omega) (fun p x j v hx hv => by
    obtain ⟨u, hu, hr'⟩ := flat_back hr hz hx hv
    refine ⟨u, ?_, hr'⟩
    have := (List.getElem?_eq_some_iff.1 hu).1
    simp [List.getElem?_append_left this, hu])
  refine ⟨_, ?_, (Step.drew hR).trans hs⟩
  refine .sl _ _ _ _ ⟨w.heap.size, 0, sz, (us ++ rest).toArray.size⟩ _ cap (Kn.add_same _ _ _ _) (Nat.le_refl _) hc (.inr (by simp)) ?_
  simp only [Nat.sub_zero, Nat.zero_add, List.size_toArray]
  omega

theorem VRels.append {k : Kn V} {a b : List AV} {us vs : List Value} (h : VRels k a us) (h' : VRels k b vs) : VRels k (a ++ b) (us ++ vs) := by
  refine ⟨by simp [h.1, h'.1], fun j v u hv hu => ?_⟩
  rcases Nat.lt_or_ge j a.length with hj | hj
  · rw [List.getElem?_append_left hj] at hv
    rw [List.getElem?_append_left (by rw [← h.1]; exact hj)] at hu
    exact h.2 j v u hv hu
  · rw [List.getElem?_append_right hj] at hv
    rw [List.getElem?_append_right (by rw [← h.1]; exact hj), ← h.1] at hu
    exact h'.2 _ v u hv hu

theorem append_ok (hR : Rel k σ w) {st xt ty : TypeId} {s x : AV} {us ux : Value} (hs : VRel k s us) (hx : VRel k x ux) {r : AV × Heap} (h : appendA P σ st xt s x = some r) :
    Ok P k σ w (Builtin.append_ #[st, xt] ty #[us, ux]) r := by
  unfold appendA at h
  split at h
  · rename_i e hst
    split at h
    · rename_i inf zs news hi hzs hnews
      split at h
      · rename_i hc
        simp only [Bool.and_eq_true, List.all_eq_true, beq_iff_eq, decide_eq_true_eq] at hc
        obtain ⟨⟨⟨⟨⟨hseq, hzsl⟩, hnl⟩, hp⟩, hnb⟩, hnc⟩ := hc
        have hxt : (∃ e', P.underlying xt = some (.slice e')) ∨ P.underlying xt = some .string := by
          unfold isSeq at hseq
          split at hseq
          · exact .inl ⟨_, ‹_›⟩
          · exact .inr ‹_›
          · cases hseq
        obtain ⟨inf', z, hi', hz, hzr, _⟩ := zeroA_spec hzs
        rw [hi] at hi'; injection hi' with hi'; subst hi'
        have hzl : z.cells.size = inf.size := by have := (hzr k).1; simp at this; omega
        obtain ⟨hH, hone⟩ := elems_spec (P := P) hR hx hnews hp hnl
        obtain ⟨nu, hnul, hnur, hnu1, hnurun⟩ := hH.cells news.length (Nat.le_refl _)
        rw [List.take_length] at hnur
        split at h
        · rename_i hemp
          have hn0 : news = [] := by simpa using hemp
          subst hn0
          have hnu0 : nu = [] := List.eq_nil_of_length_eq_zero (by simpa using hnul)
          subst hnu0
          split at h
          · injection h with h; subst h
            cases hs
            exact Ok.same hR (run_append_zero hst hxt hi hH.len (hnurun w rfl) (Nat.le_refl _)) .nils
          · injection h with h; subst h
            cases hs with
            | emp a => exact Ok.same hR (run_append_zero hst hxt hi hH.len (hnurun w rfl) (Nat.le_refl _)) (.emp a)
          · injection h with h; subst h
            cases hs with
            | ro full es u hp' =>
            have hp2 := hp'
            cases hp' with
            | ro _ _ a cap sz c ty fz f hs' hH' hl hf hz' hcell hv => exact Ok.same hR (run_append_zero hst hxt hi hH.len (hnurun w rfl) hl) (.ro _ _ _ hp2)
          · injection h with h; subst h
            cases hs with
            | sl id ep off len l a cap hm hs' hl ha hn => exact Ok.same hR (run_append_zero hst hxt hi hH.len (hnurun w rfl) hl) (.sl _ _ _ _ l a cap hm hs' hl ha hn)
          · cases h
        · rename_i hne
          have hn0 : 0 < news.length := by
            rcases news with _ | ⟨n, r⟩
            · simp at hne
            · simp
          unfold appendTo at h
          have hbnd : ∀ {m : Nat}, m * inf.bytes ≤ capBytes → m * inf.bytes ≤ 140737488355328 := fun h => by unfold capBytes at h; omega
          have hcnt : ∀ {m : Nat}, m ≤ capBytes → m ≤ 9223372036854775807 := fun h => by unfold capBytes at h; omega
          have hfresh : ∀ (b : Option Addr) (cap : Nat) (olds : List (List AV)) (ou : List Value), (∀ x ∈ olds, x.length = inf.size) → (∀ x ∈ olds, ∀ v ∈ x, one v = true) → VRels k olds.flatten ou →
              (∀ W : World, W.heap = w.heap → (Builtin.firstCells inf.size olds.length (.slice b olds.length cap)).run P W = .ok ou.toArray W) → cap < olds.length + news.length →
              (olds.length + news.length) * inf.bytes ≤ capBytes → olds.length + news.length ≤ capBytes →
              Ok P k σ w (Builtin.append_ #[st, xt] ty #[.slice b olds.length cap, ux]) (.sl σ.length 0 0 (olds.length + news.length), newA σ e inf.size (olds ++ news)) := by
            intro b cap olds ou hol ho1 hor hof hcap hb1 hb2
            have hrun := run_append_grows' (P := P) (ty := ty) hst hxt hi hz hH.len hof hnurun hcap (hcnt hb2) (hbnd hb1)
            have hge := grownCap_ge w (olds.length + news.length) cap e
            have hol' : ou.length = olds.length * inf.size := by rw [← hor.1, flat_len hol]
            obtain ⟨k', hv, hst'⟩ := fresh_row (k := k) (σ := σ) hR (e := e) (sz := inf.size) (es := olds ++ news) (us := ou ++ nu) (cap := grownCap w (olds.length + news.length) cap e) (n := olds.length + news.length)
              (Builtin.zeroCells z.cells (grownCap w (olds.length + news.length) cap e - (olds.length + news.length))).toList hp
              (fun x hx => by rcases List.mem_append.1 hx with hx | hx; exact hol x hx; exact hnl x hx) (fun x hx => by rcases List.mem_append.1 hx with hx | hx; exact ho1 x hx; exact hone x hx)
              (by rw [List.flatten_append]; exact hor.append hnur) (by simp) hge (by
                simp only [List.length_append, Array.length_toList, size_zeroCells, hol', hnul, hzl]
                rw [← Nat.add_mul, ← Nat.add_mul]
                congr 1; omega)
            rw [List.append_assoc] at hst'
            exact ⟨k', _, _, hrun, hv, hst'⟩
          split at h
          · injection h with h; subst h
            cases hs
            have := hfresh none 0 [] [] (fun x hx => by cases hx) (fun x hx => by cases hx) ⟨rfl, fun j v u hv => by simp at hv⟩ (fun W _ => by simp [Builtin.firstCells]) (by simpa using hn0) (by simpa using hnb) (by simpa using hnc)
            simpa using this
          · injection h with h; subst h
            cases hs with
            | emp a =>
            have := hfresh (some a) 0 [] [] (fun x hx => by cases hx) (fun x hx => by cases hx) ⟨rfl, fun j v u hv => by simp at hv⟩ (fun W _ => by simp [Builtin.firstCells, loadCells, loadCellsFrom]) (by simpa using hn0) (by simpa using hnb) (by simpa using hnc)
            simpa using this
          · rename_i es
            simp only at h
            split at h
            · rename_i hc
              injection h with h; subst h
              simp only [Bool.and_eq_true, List.all_eq_true, beq_iff_eq, decide_eq_true_eq] at hc
              obtain ⟨⟨hol, hb1⟩, hb2⟩ := hc
              obtain ⟨hH2, hone2⟩ := elems_spec (P := P) hR hs (es := es.map (·.map up)) (by unfold elemsA; rfl) hp hol
              obtain ⟨ou, houl, hour, _, hourun⟩ := hH2.cells es.length (by simp)
              rw [List.take_of_length_le (by simp)] at hour
              cases hs with
              | ro full es u hp' =>
              cases hp' with
              | ro _ _ a cap sz c ty2 fz f hs' hH' hl hf hz' hcell hv =>
              have hcl : cap = es.length := hf rfl
              have := hfresh (some a) cap (es.map (·.map up)) ou hol hone2 hour (by simpa using hourun) (by simp; omega) (by simpa using hb1) (by simpa using hb2)
              simpa using this
            · cases h
          · rename_i id ep off len
            split at h
            · rename_i ty2 sz' es live next hb
              split at h
              · rename_i x hlook
                split at h
                · rename_i hc
                  injection h with h; subst h
                  simp only [Bool.and_eq_true, beq_iff_eq, decide_eq_true_eq] at hc
                  obtain ⟨⟨⟨⟨htye, hszz⟩, hext⟩, hb1⟩, hb2⟩ := hc
                  have htye := htye.symm
                  subst htye
                  subst hszz
                  have hlive := lookE_mem hlook
                  have r := hR.row _ _ _ _ _ _ hb
                  have hxl := (r.eps ep x hlive).2
                  obtain ⟨l, c, fz, hm, hlsz, hlx, hHn, hw, hcs, hfz, hlext, hcell⟩ := r.loc ep x hlive
                  have hel : elemsA σ (.sl id ep off len) = some ((es.drop off).take len) := by
                    unfold elemsA; simp only [hb, hlook]; rw [if_pos hext]
                  have holl : ((es.drop off).take len).length = len := by simp; omega
                  have holz : ∀ y ∈ (es.drop off).take len, y.length = inf.size := fun y hy => by
                    obtain ⟨i, hi⟩ := List.getElem?_of_mem (List.mem_of_mem_drop (List.mem_of_mem_take hy))
                    exact (r.len i y hi).1
                  obtain ⟨hH2, _⟩ := elems_spec (P := P) hR hs hel hp holz
                  obtain ⟨ou, houl, hour, _, hourun⟩ := hH2.cells len (by omega)
                  rw [List.take_of_length_le (by omega)] at hour
                  cases hs with
                  | sl _ _ _ _ l' a cap hm' hls hl ha hcapn =>
                  rw [hm] at hm'; injection hm' with hm'; subst hm'
                  have hlen' : (es.take (off + len) ++ news).length = off + len + news.length := by simp; omega
                  have hlenz : ∀ (i : Nat) (y : List AV), (es.take (off + len) ++ news)[i]? = some y → y.length = inf.size ∧ ∀ v ∈ y, one v = true := by
                    intro i y hy
                    rcases List.mem_append.1 (List.mem_of_getElem? hy) with hy' | hy'
                    · obtain ⟨i', hi'⟩ := List.getElem?_of_mem (List.mem_of_mem_take hy')
                      exact r.len i' y hi'
                    · exact ⟨hnl y hy', hone y hy'⟩
                  have hold : ∀ {p : Nat} {y : List AV}, p < off + len → (es.take (off + len) ++ news)[p]? = some y → es[p]? = some y := by
                    intro p y hp' hy
                    rw [List.getElem?_append_left (by simp; omega), List.getElem?_take, if_pos hp'] at hy
                    exact hy
                  have hnd : (((next, off + len + news.length) :: shortE (off + len) live).map (·.1)).Nodup := by
                    simp only [List.map_cons, List.nodup_cons]
                    refine ⟨fun hmem => ?_, (hR.nodup _ _ _ _ _ _ hb).sublist (List.filter_sublist.map _)⟩
                    obtain ⟨⟨e1, x1⟩, h1, h2⟩ := List.mem_map.1 hmem
                    have := (r.eps e1 x1 (mem_shortE h1).1).1
                    simp at h2; omega
                  have heps : ∀ (e1 x1 : Nat), (e1, x1) ∈ (next, off + len + news.length) :: shortE (off + len) live → e1 < next + 1 ∧ x1 ≤ (es.take (off + len) ++ news).length := by
                    intro e1 x1 h1
                    rcases List.mem_cons.1 h1 with h1 | h1
                    · injection h1 with q1 q2; subst q1; subst q2; rw [hlen']; omega
                    · have h2 := mem_shortE h1
                      have := r.eps e1 x1 h2.1
                      rw [hlen']; omega
                  have hlv : ∀ (e1 x1 : Nat), (e1, x1) ∈ (next, off + len + news.length) :: shortE (off + len) live → next ≤ e1 ∨ ∃ x0, (e1, x0) ∈ live := by
                    intro e1 x1 h1
                    rcases List.mem_cons.1 h1 with h1 | h1
                    · injection h1 with q1 q2; exact .inl (by omega)
                    · exact .inr ⟨x1, (mem_shortE h1).1⟩
                  by_cases hroom : len + news.length ≤ cap
                  · -- within the capacity
                    have haa : a = ⟨l.cb, (off - l.s) * l.sz, none⟩ := by rcases ha with ha | ha; omega; exact ha
                    have hfit : (off - l.s) * l.sz + len * inf.size + nu.length ≤ c.size := by
                      rw [hcs, hnul, hlsz, ← Nat.add_mul, ← Nat.add_mul]
                      rw [hlsz] at hcapn
                      exact Nat.le_trans (Nat.mul_le_mul_right _ (by omega)) hcapn
                    obtain ⟨w', cur', hrun, h2, h3, h4, h5, h6, h7, h8, h9, h10⟩ := run_cells (P := P) l.cb ((off - l.s) * l.sz + len * inf.size) _ fz nu 0 c w hw (by simpa using hfit) hfz.out hnu1
                    have hpos : ∀ p, l.s ≤ p → p < off + len → ∀ j, j < inf.size → (p - l.s) * inf.size + j < (off - l.s) * l.sz + len * inf.size := by
                      intro p hp1 hp2 j hj
                      have : (p - l.s + 1) * inf.size ≤ (off - l.s + len) * inf.size := Nat.mul_le_mul_right _ (by omega)
                      rw [Nat.succ_mul, Nat.add_mul] at this
                      rw [hlsz]; omega
                    refine ⟨k.add id next l, .slice (some a) (len + news.length) cap, w', run_append_in' hst hxt hi hH.len (hnurun w rfl) hroom (by rw [haa, add_plain]; exact hrun), ?_, ?_⟩
                    · exact .sl _ _ _ _ l a cap (Kn.add_same _ _ _ _) hls hroom ha hcapn
                    · have hkμ : ∀ i e1, (i ≠ id ∨ e1 < next) → (k.add id next l).μ i e1 = k.μ i e1 := fun i e1 h => Kn.add_other _ _ (by rcases h with h | h; exact .inl h; exact .inr (by omega))
                      have hle : k.Le (k.add id next l) := ⟨fun _ _ h => h, fun i e1 l1 h1 => by
                        rw [hkμ i e1]; exact h1
                        by_cases hi' : i = id
                        · subst hi'
                          right
                          rcases Nat.lt_or_ge e1 next with h | h
                          · exact h
                          · rw [hR.none_ep hb e1 h] at h1; cases h1
                        · exact .inl hi', rfl⟩
                      refine hR.upd hb (Nat.le_succ _) (Nat.le_refl _) rfl hkμ rfl h8 h9 h10 (by omega) (fun b' hbl hnb' => h6 b' fun hbe => hnb' ep x l hlive hm hbe.symm) (fun e1 l1 hm1 hn1 => ?_) hlv hnd ⟨hp, heps, hlenz, fun e1 x1 h1 => ?_⟩
                      · have he1 : e1 = next := by
                          by_cases he : e1 = next
                          · exact he
                          · rw [Kn.add_other _ _ (.inr he), hR.none_ep hb e1 hn1] at hm1; cases hm1
                        subst he1
                        rw [Kn.add_same] at hm1; injection hm1 with hm1; subst hm1
                        exact ⟨by omega, by rw [h7]; exact hR.lt hm, hlsz, .inr ⟨ep, x, hlive, hm⟩⟩
                      · rcases List.mem_cons.1 h1 with h1 | h1
                        · injection h1 with q1 q2; subst q1; subst q2
                          refine ⟨l, cur', fz, Kn.add_same _ _ _ _, hlsz, by omega, hHn, h2, by omega, by rw [h3]; exact hfz, ?_, fun p y j v hp1 hp2 hy hv => ?_⟩
                          · rw [show off + len + news.length - l.s = (off - l.s) + (len + news.length) by omega]
                            rw [hlsz] at hcapn
                            exact Nat.le_trans (Nat.mul_le_mul_right _ (by omega)) hcapn
                          · have hj : j < inf.size := by have q := (List.getElem?_eq_some_iff.1 hv).1; have := (hlenz p y hy).1; omega
                            rcases Nat.lt_or_ge p (off + len) with hpl | hpl
                            · obtain ⟨u, hu, hr⟩ := hcell p y j v hp1 (by omega) (hold hpl hy) hv
                              exact ⟨u, by rw [h5 _ (.inl (by rw [Nat.add_zero]; exact hpos p hp1 hpl j hj))]; exact hu, hr.mono hle⟩
                            · rw [List.getElem?_append_right (by simp; omega)] at hy
                              have hlt : (es.take (off + len)).length = off + len := by simp; omega
                              rw [hlt] at hy
                              obtain ⟨u, hu, hr⟩ := flat_back hnur hnl hy hv
                              refine ⟨u, ?_, hr.mono hle⟩
                              have := h4 _ u hu
                              rw [← this]
                              congr 1
                              rw [hlsz, Nat.add_zero, show p - l.s = (off - l.s) + len + (p - (off + len)) by omega, Nat.add_mul, Nat.add_mul]
                              omega
                        · obtain ⟨h1a, h1b⟩ := mem_shortE h1
                          obtain ⟨l1, c1, fz1, hm1, g1, g2, g3, g4, g5, g6, g7, g8⟩ := r.loc e1 x1 h1a
                          have hm1' : (k.add id next l).μ id e1 = some l1 := hle.μ _ _ _ hm1
                          by_cases hcb : l1.cb = l.cb
                          · have hll : l1 = l := hR.same id e1 ep l1 l hm1 hm hcb
                            subst hll
                            rw [hw] at g4; injection g4 with g4; injection g4 with q1 q2 q3
                            subst q1; subst q3
                            refine ⟨l1, cur', fz, hm1', g1, g2, g3, h2, by omega, by rw [h3]; exact g6, g7, fun p y j v hp1 hp2 hy hv => ?_⟩
                            have hj : j < inf.size := by have q := (List.getElem?_eq_some_iff.1 hv).1; have := (hlenz p y hy).1; omega
                            obtain ⟨u, hu, hr⟩ := g8 p y j v hp1 hp2 (hold (by omega) hy) hv
                            exact ⟨u, by rw [h5 _ (.inl (by rw [Nat.add_zero]; exact hpos p hp1 (by omega) j hj))]; exact hu, hr.mono hle⟩
                          · refine ⟨l1, c1, fz1, hm1', g1, g2, g3, by rw [h6 _ hcb]; exact g4, g5, g6, g7, fun p y j v hp1 hp2 hy hv => ?_⟩
                            obtain ⟨u, hu, hr⟩ := g8 p y j v hp1 hp2 (hold (by omega) hy) hv
                            exact ⟨u, hu, hr.mono hle⟩
                  · -- a new array of the machine
                    have hrun := run_append_grows' (P := P) (ty := ty) (b := some a) (sLen := len) (sCap := cap) hst hxt hi hz hH.len (olds := ou) (by simpa using hourun) hnurun (by omega) (hcnt hb2) (hbnd hb1)
                    have hge := grownCap_ge w (len + news.length) cap e
                    have hcsz : (ou ++ (nu ++ (Builtin.zeroCells z.cells (grownCap w (len + news.length) cap e - (len + news.length))).toList)).length = grownCap w (len + news.length) cap e * inf.size := by
                      simp only [List.length_append, Array.length_toList, size_zeroCells, houl, hnul, hzl]
                      rw [← Nat.add_assoc, ← Nat.add_mul, ← Nat.add_mul]
                      congr 1; omega
                    generalize hC : (ou ++ (nu ++ (Builtin.zeroCells z.cells (grownCap w (len + news.length) cap e - (len + news.length))).toList)) = C at hrun hcsz
                    generalize hG : grownCap w (len + news.length) cap e = G at hrun hcsz hge
                    have hln : ∀ x', Loc.mk w.heap.size off inf.size C.toArray.size = x' → x'.cb = w.heap.size ∧ x'.s = off ∧ x'.sz = inf.size ∧ x'.n = C.length := fun x' hx => by subst hx; simp
                    obtain ⟨hn1, hn2, hn3, hn4⟩ := hln _ rfl
                    generalize hL : Loc.mk w.heap.size off inf.size C.toArray.size = L at hn1 hn2 hn3 hn4
                    refine ⟨k.add id next L, _, _, hrun, ?_, ?_⟩
                    · refine .sl _ _ _ _ L _ G (Kn.add_same _ _ _ _) (by omega) hge (.inr (by rw [hn1, hn2]; simp)) ?_
                      rw [hn2, hn3, hn4, hcsz, Nat.sub_self, Nat.zero_add]
                      exact Nat.le_refl _
                    · have hkμ : ∀ i e1, (i ≠ id ∨ e1 < next) → (k.add id next L).μ i e1 = k.μ i e1 := fun i e1 h => Kn.add_other _ _ (by rcases h with h | h; exact .inl h; exact .inr (by omega))
                      have hle : k.Le (k.add id next L) := ⟨fun _ _ h => h, fun i e1 l1 h1 => by
                        rw [hkμ i e1]; exact h1
                        by_cases hi' : i = id
                        · subst hi'
                          right
                          rcases Nat.lt_or_ge e1 next with h | h
                          · exact h
                          · rw [hR.none_ep hb e1 h] at h1; cases h1
                        · exact .inl hi', rfl⟩
                      have hblk : ∀ b', b' < w.heap.size → (w.drew.alloc (.cells C.toArray e)).heap[b']? = w.heap[b']? := fun b' hb' => by
                        show (w.heap.push _)[b']? = _
                        rw [Array.getElem?_push, if_neg (by omega)]
                      refine hR.upd hb (Nat.le_succ _) (Nat.le_refl _) rfl hkμ rfl rfl rfl rfl (by simp) (fun b' hbl _ => hblk b' hbl) (fun e1 l1 hm1 hn1' => ?_) hlv hnd ⟨hp, heps, hlenz, fun e1 x1 h1 => ?_⟩
                      · have he1 : e1 = next := by
                          by_cases he : e1 = next
                          · exact he
                          · rw [Kn.add_other _ _ (.inr he), hR.none_ep hb e1 hn1'] at hm1; cases hm1
                        subst he1
                        rw [Kn.add_same] at hm1; injection hm1 with hm1; subst hm1
                        exact ⟨by omega, by rw [hn1]; simp, hn3, .inl (by omega)⟩
                      · rcases List.mem_cons.1 h1 with h1 | h1
                        · injection h1 with q1 q2; subst q1; subst q2
                          refine ⟨L, C.toArray, (0, 0), Kn.add_same _ _ _ _, hn3, by omega, ?_, ?_, by simp [hn4], .inl rfl, ?_, fun p y j v hp1 hp2 hy hv => ?_⟩
                          · show k.H L.cb = none
                            rw [hn1]
                            cases hk : k.H w.heap.size with
                            | none => rfl
                            | some o => have := hR.H _ _ hk; rw [Array.getElem?_eq_none (Nat.le_refl _)] at this; cases this
                          · rw [hn1]
                            exact Array.getElem?_push_size
                          · rw [hn2, hn4, hcsz]
                            exact Nat.mul_le_mul_right _ (by omega)
                          · rw [hn2] at hp1 ⊢
                            have htot : VRels k (((es.drop off).take len) ++ news).flatten (ou ++ nu) := by rw [List.flatten_append]; exact hour.append hnur
                            have hty : (((es.drop off).take len) ++ news)[p - off]? = some y := by
                              rcases Nat.lt_or_ge p (off + len) with hpl | hpl
                              · rw [List.getElem?_append_left (by omega), List.getElem?_take, if_pos (by omega), List.getElem?_drop, show off + (p - off) = p by omega]
                                exact hold hpl hy
                              · rw [List.getElem?_append_right (by simp; omega)] at hy
                                rw [List.getElem?_append_right (by omega)]
                                have hlt : (es.take (off + len)).length = off + len := by simp; omega
                                rw [hlt] at hy
                                rw [holl, show p - off - len = p - (off + len) by omega]
                                exact hy
                            obtain ⟨u, hu, hr⟩ := flat_back htot (fun q hq => by rcases List.mem_append.1 hq with hq | hq; exact holz q hq; exact hnl q hq) hty hv
                            refine ⟨u, ?_, hr.mono hle⟩
                            have hlt := (List.getElem?_eq_some_iff.1 hu).1
                            rw [← hC, List.getElem?_toArray, ← List.append_assoc, List.getElem?_append_left hlt]
                            exact hu
                        · obtain ⟨h1a, h1b⟩ := mem_shortE h1
                          obtain ⟨l1, c1, fz1, hm1, g1, g2, g3, g4, g5, g6, g7, g8⟩ := r.loc e1 x1 h1a
                          refine ⟨l1, c1, fz1, hle.μ _ _ _ hm1, g1, g2, g3, by rw [hblk _ (hR.lt hm1)]; exact g4, g5, g6, g7, fun p y j v hp1 hp2 hy hv => ?_⟩
                          obtain ⟨u, hu, hr⟩ := g8 p y j v hp1 hp2 (hold (by omega) hy) hv
                          exact ⟨u, hu, hr.mono hle⟩
                · cases h
              · cases h
            · cases h
          · cases h
      · cases h
    · cases h
  · cases h
end
end Go.Dx
