/- Conversions, interface values, their methods, maps. -/
import Derived.Test.YtnglipioaippoaaEyB
import Derived.MapKept
import Derived.Laws.BytesString
import Derived.Laws.IdiomStrings
namespace Go.Dx
variable {V : Nm → Prop}
section
variable {P : Program} {k : Kn V} {σ : Heap} {w : World}

/-! ### Conversions -/
/-- The bytes of elements. -/
def bytesA : List (List AV) → Option (List UInt8)
  | [] => some []
  | [.int .u8 n] :: r => match bytesA r with
    | some l => some (UInt8.ofNat n.toNat :: l)
    | none => none
  | _ => none
def isStr : AV → Bool
  | .str _ => true
  | _ => false
def convA (P : Program) (σ : Heap) (src dst : TypeId) (x : AV) : Option AV :=
  match P.underlying src, P.underlying dst with
  | some _, some (.int k) => match x with
    | .int _ n => some (.int k (k.wrap n))
    | .tok B k' j => if k = k' then tokA B .add k (.tok j) (.lit 0) B else none
    | _ => none
  | some (.slice e), some .string =>
    if isStr x then none else
    match P.underlying e, elemsA σ x with
    | some (.int .u8), some es => (bytesA es).map fun l => .str ⟨l.toArray⟩
    | _, _ => none
  | some _, some .string => match x with
    | .str s => some (.str s)
    | _ => none
  | some (.slice _), some (.slice e) =>
    if src == dst then match P.underlying e, x with
      | some (.int .u8), .sl id ep off len => match σ[id]? with
        | some (.row _ _ _ live _) => match lookE ep live with
          | some _ => if len = 0 then none else some (.sl id ep off len)
          | none => none
        | _ => none
      | _, _ => none
    else none
  | some .string, some (.slice e) => match P.underlying e, x with
    | some (.int .u8), .str s => some (.ro false (s.data.toList.map fun b => [PV.int .u8 b.toNat]))
    | _, _ => none
  | _, _ => none

/-- The mark of a slice made of a string's bytes. -/
theorem mark_ok (hR : Rel k σ w) {id ep ty sz next x : Nat} {es : List (List AV)} {live : List (Nat × Nat)} (hb : σ[id]? = some (.row ty sz es live next)) (hx : lookE ep live = some x) {l : Loc} (hm : k.μ id ep = some l) (o : Nat) :
    ∃ w', (markStringish ⟨l.cb, o, none⟩).run P w = .ok () w' ∧ Step k σ w k σ w' := by
  have r := hR.row _ _ _ _ _ _ hb
  obtain ⟨l', c, fz, hm', h1, h2, h3, h4, h5, h6, h7, h8⟩ := r.loc ep x (lookE_mem hx)
  rw [hm] at hm'; injection hm' with hm'; subst hm'
  have hlt := hR.lt hm
  -- the world behind it
  let fz' : Nat × Nat := if fz.1 == fz.2 then (c.size, c.size + 1) else (min fz.1 c.size, max fz.2 (c.size + 1))
  have hfz' : FzOK fz' c.size := by
    rcases h6 with h | h
    · have : fz' = (c.size, c.size + 1) := if_pos (by simp [h])
      rw [this]; exact .inr (Nat.le_refl _)
    · by_cases he : fz.1 = fz.2
      · have : fz' = (c.size, c.size + 1) := if_pos (by simp [he])
        rw [this]; exact .inr (Nat.le_refl _)
      · have : fz' = (min fz.1 c.size, max fz.2 (c.size + 1)) := if_neg (by simp [he])
        rw [this]; refine .inr ?_; simp only; omega
  let w' : World := { w with heap := w.heap.modify l.cb fun | .cells c elem (lo, hi) => .cells c elem (if lo == hi then (c.size, c.size + 1) else (min lo c.size, max hi (c.size + 1))) | o => o }
  have hh : w'.heap[l.cb]? = some (.cells c ty fz') := by
    show (w.heap.modify l.cb _)[l.cb]? = _
    rw [Array.getElem?_modify, if_pos rfl, h4]
    rfl
  have ho : ∀ b, b ≠ l.cb → w'.heap[b]? = w.heap[b]? := by
    intro b hne
    show (w.heap.modify l.cb _)[b]? = _
    rw [Array.getElem?_modify, if_neg (Ne.symm hne)]
  have hst : Step k σ w k (σ.set id (.row ty sz es live next)) w' := by
    refine hR.upd hb (Nat.le_refl _) (by omega) rfl (fun _ _ _ => rfl) rfl rfl rfl rfl (by show w.heap.size ≤ (w.heap.modify l.cb _).size; simp) (fun b _ hn => ho b fun he => hn ep x l (lookE_mem hx) hm he.symm) (fun e l2 hm2 hge => ?_) (fun e x2 he => .inr ⟨x2, he⟩) (hR.nodup _ _ _ _ _ _ hb) ⟨r.pos, r.eps, r.len, fun e x2 he => ?_⟩
    · have := ((hR.fresh id e l2 hm2).2.2 _ _ _ _ _ hb).1
      omega
    · obtain ⟨l2, c2, fz2, g1, g2, g3, g4, g5, g6, g7, g8, g9⟩ := r.loc e x2 he
      by_cases hcb : l2.cb = l.cb
      · have := hR.same id e ep l2 l g1 hm hcb
        subst this
        rw [h4] at g5; injection g5 with g5; injection g5 with g5 g5b g5c; subst g5
        exact ⟨l2, c, fz', g1, g2, g3, g4, hh, g6, hfz', g8, g9⟩
      · exact ⟨l2, c2, fz2, g1, g2, g3, g4, (ho _ hcb).trans g5, g6, g7, g8, g9⟩
  have hset : σ.set id (.row ty sz es live next) = σ := by
    refine List.ext_getElem? fun i => ?_
    by_cases hi : id = i
    · subst hi; rw [List.getElem?_set_self (List.getElem?_eq_some_iff.1 hb).1, hb]
    · rw [List.getElem?_set_ne hi]
  rw [hset] at hst
  refine ⟨w', ?_, hst⟩
  have hsh : w.shape? l.cb = some (ty, c.size) := by simp [World.shape?, h4]
  simp only [markStringish, shape, freeze, Sem.run_bind, Sem.run, hsh, Result.andThen_ok]
  congr 1
  simp only [World.freeze]
  rw [if_neg (by omega)]
  show ({ w with heap := _ } : World) = _
  congr 1
  refine Array.ext_getElem? fun i => ?_
  show _ = (w.heap.modify l.cb _)[i]?
  by_cases hi : l.cb = i
  · subst hi
    rw [Array.getElem?_modify, if_pos rfl, h4, Array.getElem?_modify, if_pos rfl, h4]
    rfl
  · rw [Array.getElem?_modify, if_neg hi, Array.getElem?_modify, if_neg hi]

theorem bytesA_spec : ∀ {es : List (List AV)} {l : List UInt8}, bytesA es = some l → ∃ ns : List Int, es = ns.map (fun n => [.int .u8 n]) ∧ l = ns.map fun n => UInt8.ofNat n.toNat
  | [], l, h => by simp only [bytesA] at h; injection h with h; subst h; exact ⟨[], rfl, rfl⟩
  | e :: r, l, h => by
    unfold bytesA at h
    split at h
    · rename_i hc; cases hc
    · rename_i n r' hc
      injection hc with h1 h2; subst h1; subst h2
      split at h
      · rename_i l' hl'
        injection h with h; subst h
        obtain ⟨ns, rfl, rfl⟩ := bytesA_spec hl'
        exact ⟨n :: ns, rfl, rfl⟩
      · cases h
    · cases h
theorem flat1 : ∀ ns : List Int, (ns.map fun n => [AV.int .u8 n]).flatten = ns.map (AV.int .u8)
  | [] => rfl
  | n :: r => by
    have := flat1 r
    simp only [List.map_cons, List.flatten_cons, this]
    rfl
theorem push_all : ∀ (ns : List Int) (s : ByteArray), ns.foldl (fun r n => r.push (UInt8.ofNat n.toNat)) s = ⟨s.data ++ (ns.map fun n => UInt8.ofNat n.toNat).toArray⟩
  | [], s => by simp
  | n :: r, s => by
    simp only [List.foldl_cons]
    rw [push_all r]
    simp [ByteArray.push]
theorem conv_ok (hR : Rel k σ w) {src dst : TypeId} {x r : AV} {u : Value} (hx : VRel k x u) (h : convA P σ src dst x = some r) : Ok P k σ w (convert src dst u) (r, σ) := by
  unfold convA at h
  split at h
  · rename_i d kk hs hd
    split at h
    · injection h with h; subst h; cases hx
      exact Ok.same hR (v := .int kk (kk.wrap _)) (by simp [convert, run_underlying hs, run_underlying hd, Conv.intToInt]) (.int _ _)
    · rename_i B0 k0 j
      split at h
      · rename_i hk; subst hk
        cases hx with
        | tok _ _ _ hB =>
        obtain ⟨f, hf, h1, h2, h3, h4, hr⟩ := tokA_some h
        have ha := hB f hf
        rw [h1, h2, h3, h4] at ha
        simp only [arithA, IV.val, Int.add_zero, Option.some.injEq] at ha
        refine Ok.same hR (v := .int kk (kk.wrap (k.val j))) (by simp [convert, run_underlying hs, run_underlying hd, Conv.intToInt]) ?_
        rcases hr with ⟨b, hb, rfl⟩ | ⟨j', hb, rfl⟩ | ⟨m, hb, rfl⟩
        · rw [hb] at ha; cases ha
        · rw [hb] at ha
          simp only [FR.av, AV.int.injEq, true_and] at ha
          rw [ha]; exact .tok _ _ _ hB
        · rw [hb] at ha
          simp only [FR.av, AV.int.injEq, true_and] at ha
          rw [ha]; exact .int _ _
      · cases h
    · cases h
  · rename_i e hs hd
    split at h
    · cases h
    · rename_i hstr
      split at h
      · rename_i es he hes
        obtain ⟨l, hl, rfl⟩ := Option.map_eq_some_iff.1 h
        obtain ⟨ns, rfl, rfl⟩ := bytesA_spec hl
        have hz : ∀ e ∈ ns.map (fun n => [AV.int .u8 n]), e.length = 1 := by
          intro e he; obtain ⟨n, _, rfl⟩ := List.mem_map.1 he; rfl
        obtain ⟨hh, _⟩ := elems_spec (P := P) hR hx hes (sz := 1) (by omega) hz
        obtain ⟨us, h1, h2, _, h4⟩ := hh.cells ns.length (by simp)
        have hus : us = ns.map (Value.int .u8) := by
          refine List.ext_getElem? fun j => ?_
          have hfl : ((ns.map fun n => [AV.int .u8 n]).take ns.length).flatten = ns.map (AV.int .u8) := by
            rw [List.take_of_length_le (by simp)]
            exact flat1 ns
          rw [hfl] at h2
          have hlen : us.length = ns.length := by have := h2.1; simpa using this.symm
          rcases Nat.lt_or_ge j ns.length with hj | hj
          · have hu : us[j]? = some us[j] := List.getElem?_eq_getElem (by omega)
            have := h2.2 j (.int .u8 ns[j]) us[j] (by simp [hj]) hu
            generalize us[j] = y at this hu
            cases this
            rw [hu]; simp [hj]
          · rw [List.getElem?_eq_none (by omega), List.getElem?_eq_none (by simp; omega)]
        have hrun := h4 w rfl
        rw [hus] at hrun
        have hlenOf := hh.len w
        refine Ok.same hR (v := .string ⟨(ns.map fun n => UInt8.ofNat n.toNat).toArray⟩) ?_ (.str _)
        have hpre : ∀ u : Value, (∀ s, u ≠ .string s) → (∀ a b, u ≠ .int a b) → (convert src dst u).run P w = (Conv.bytesToString u).run P w := by
          intro u h1 h2
          unfold convert
          simp only [Sem.run_bind, run_underlying hs, run_underlying hd, Result.andThen_ok]
          cases u <;> first | (exact absurd rfl (h1 _)) | (exact absurd rfl (h2 _ _)) | simp [run_underlying he]
        have hpush : (ns.foldl (fun r n => r.push (UInt8.ofNat n.toNat)) ByteArray.empty) = ⟨(ns.map fun n => UInt8.ofNat n.toNat).toArray⟩ := by
          rw [push_all, show ByteArray.empty = ⟨#[]⟩ from rfl]; simp
        have some_case : ∀ (a : Addr) (len cap : Nat), u = .slice (some a) len cap → (convert src dst u).run P w = .ok (.string ⟨(ns.map fun n => UInt8.ofNat n.toNat).toArray⟩) w := by
          rintro a len cap rfl
          have hl : len = ns.length := by
            simp only [Builtin.lenOf, Sem.run_pure] at hlenOf
            injection hlenOf with hlenOf
            simpa using hlenOf
          rw [hpre _ (by simp) (by simp)]
          have h5 : (loadCells a len).run P w = .ok (ns.map (Value.int .u8)).toArray w := by
            simpa [Builtin.firstCells, hl] using hrun
          rw [run_bytesToString w a len cap ns h5, hpush]
        cases hx with
        | nils =>
          have : ns = [] := by
            simp only [elemsA] at hes
            injection hes with hes
            cases ns with
            | nil => rfl
            | cons n r => simp at hes
          subst this
          rw [hpre _ (by simp) (by simp)]
          simp [Conv.bytesToString]
          rfl
        | emp a => exact some_case _ _ _ rfl
        | sl => exact some_case _ _ _ rfl
        | ro full es' u' h' => cases h' with | ro => exact some_case _ _ _ rfl
        | str => simp [isStr] at hstr
        | _ => simp [elemsA] at hes
      · cases h
  · rename_i d hnot hs hd
    split at h
    · rename_i s
      injection h with h; subst h; cases hx
      refine Ok.same hR (v := .string s) ?_ (.str _)
      unfold convert
      simp only [Sem.run_bind, run_underlying hs, run_underlying hd, Result.andThen_ok]
      cases d <;> simp_all
    · cases h
  · rename_i e0 e hs hd
    split at h
    · rename_i hsd
      have hsd : src = dst := by simpa using hsd
      subst hsd
      split at h
      · rename_i id ep off len he
        split at h
        · rename_i live _ hb
          split at h
          · rename_i x hx'
            split at h
            · cases h
            · rename_i hlen
              injection h with h; subst h
              cases hx with
              | sl _ _ _ _ l a cap hm hls hl ha hn =>
              rcases ha with ⟨h0, _⟩ | rfl
              · omega
              · obtain ⟨w', hrun, hst⟩ := mark_ok (P := P) hR hb hx' hm ((off - l.s) * l.sz)
                have hee : e0 = e := by rw [hs] at hd; injection hd with hd; injection hd
                subst hee
                exact ⟨k, _, w', by simp [convert, run_underlying hs, run_underlying he, hrun], .sl _ _ _ _ l _ cap hm hls hl (.inr rfl) hn, hst⟩
          · cases h
        · cases h
      · cases h
    · cases h
  · rename_i e hs hd
    split at h
    · rename_i s he
      injection h with h; subst h; cases hx
      have hR2 : Rel k σ w.drew := hR.drew
      refine ⟨_, _, _, run_bytes_of_string w src dst e s hs hd he, ?_, (Step.drew hR).trans (hR2.pinned _)⟩
      have hlen : (s.data.toList.map fun b => [PV.int .u8 b.toNat]).length = s.size := by simp
      have hcap := grownCap_ge w s.size 0 e
      have cell : ∀ (i : Nat) (e' : List PV) (j : Nat) (v : PV), (s.data.toList.map fun b => [PV.int .u8 b.toNat])[i]? = some e' → e'[j]? = some v → ∃ b : UInt8, j = 0 ∧ v = .int .u8 b.toNat ∧ (bytesRow s (grownCap w s.size 0 e))[0 + (i * 1 + j)]? = some (.int .u8 b.toNat) := by
        intro i e' j v hi hj
        rw [List.getElem?_map] at hi
        obtain ⟨b, hb, rfl⟩ := Option.map_eq_some_iff.1 hi
        rcases j with _ | j
        · simp at hj; subst hj
          refine ⟨b, rfl, rfl, ?_⟩
          unfold bytesRow
          have hlt : i < s.data.size := by simpa using (List.getElem?_eq_some_iff.1 hb).1
          rw [Array.getElem?_append_left (by simpa using hlt)]
          simp only [Nat.zero_add, Nat.mul_one, Nat.add_zero, Array.getElem?_map]
          have : s.data[i]? = some b := by rw [← Array.getElem?_toList]; exact hb
          rw [this]; rfl
        · simp at hj
      have := PRel.ro (H := (k.pin w.drew.heap.size (.cells (bytesRow s (grownCap w s.size 0 e)) e ((bytesRow s (grownCap w s.size 0 e)).size, (bytesRow s (grownCap w s.size 0 e)).size + 1))).H) false (s.data.toList.map fun b => [PV.int .u8 b.toNat]) ⟨w.heap.size, 0, none⟩ (grownCap w s.size 0 e) 1 (bytesRow s (grownCap w s.size 0 e)) e ((bytesRow s (grownCap w s.size 0 e)).size, (bytesRow s (grownCap w s.size 0 e)).size + 1)
        (fun i j => (bytesRow s (grownCap w s.size 0 e))[0 + (i * 1 + j)]?.getD undef) rfl (fun _ => by
          show (if w.heap.size = w.drew.heap.size then _ else _) = _
          exact if_pos rfl) (by rw [hlen]; exact hcap) (by simp) (fun i e' hi => by
          rw [List.getElem?_map] at hi
          obtain ⟨b, _, rfl⟩ := Option.map_eq_some_iff.1 hi
          rfl) (fun i e' j v hi hj => by
          obtain ⟨b, _, _, hc⟩ := cell i e' j v hi hj
          rw [hc]; rfl) (fun i e' j v hi hj => by
          obtain ⟨b, _, hv, hc⟩ := cell i e' j v hi hj
          rw [hc, hv]; exact .int _ _)
      rw [hlen] at this
      exact .ro _ _ _ this
    · cases h
  · cases h

/-! ### append of a made slice; cap -/
def appendN (P : Program) (σ : Heap) (st xt : TypeId) (s : AV) (n : Int) : Option (AV × Heap) :=
  match P.underlying st, P.underlying xt with
  | some (.slice e), some (.int _) =>
    match P.info? e, zeroA P e with
    | some inf, some zs =>
      if (zs.length == inf.size) && decide (0 < inf.size) && decide (0 < n) && decide (n ≤ capBytes) && decide (n.toNat * inf.bytes ≤ capBytes) then
        match s with
        | .nils | .emp => some (.sl σ.length 0 0 n.toNat, newA σ e inf.size (List.replicate n.toNat zs))
        | _ => none
      else none
    | _, _ => none
  | _, _ => none
theorem appendN_ok (hR : Rel k σ w) {st xt ty : TypeId} {s : AV} {us : Value} {kk : IntKind} {n : Int} (hs : VRel k s us) {r : AV × Heap} (h : appendN P σ st xt s n = some r) :
    Ok P k σ w (Builtin.append_ #[st, xt] ty #[us, .int kk n]) r := by
  unfold appendN at h
  split at h
  · rename_i e kx hst hxt
    split at h
    · rename_i inf zs hi hzs
      obtain ⟨inf', z, hi', hz, hzr, hz1⟩ := zeroA_spec hzs
      rw [hi] at hi'; injection hi' with hi'; subst hi'
      split at h
      · rename_i hc
        simp only [Bool.and_eq_true, beq_iff_eq, decide_eq_true_eq] at hc
        obtain ⟨⟨⟨⟨hzl, hp⟩, h0⟩, hcb⟩, hby⟩ := hc
        unfold capBytes at hcb hby
        obtain ⟨m, rfl⟩ := Int.eq_ofNat_of_zero_le (show 0 ≤ n by omega)
        simp only [Int.toNat_natCast] at hby h
        have hm : 0 < m := by omega
        have w1 : IntKind.i64.wrap (m : Int) = m := Go.IntWalk.i64_in _ (by omega)
        have e1 : ¬ ((m : Int) < 0) := by omega
        have e2 : ¬ (281474976710656 < (m : Int) * (inf.bytes : Int)) := by
          have : ((m * inf.bytes : Nat) : Int) ≤ 1099511627776 := by omega
          rw [Int.natCast_mul] at this; omega
        have e3 : ¬ (9223372036854775807 < (m : Int)) := by omega
        have hnx : Builtin.nextslicecap m 0 = m := by unfold Builtin.nextslicecap; rw [if_pos (by omega)]
        have e4 : ¬ (281474976710656 < m * inf.bytes) := by omega
        have e5 : ¬ (m * inf.size = 0) := by
          intro h'
          rcases Nat.mul_eq_zero.1 h' with h' | h' <;> omega
        have hzc : z.cells.size = inf.size := by have := (hzr k).1; simp at this; omega
        have main : us = .slice none 0 0 ∨ (∃ a, us = .slice (some a) 0 0) → (Builtin.append_ #[st, xt] ty #[us, .int kk m]).run P w = .ok (.slice (some ⟨w.heap.size, 0, none⟩) m (grownCap w m 0 e)) (w.drew.alloc (.cells ((Builtin.zeroCells z.cells m).toList ++ (Builtin.zeroCells z.cells (grownCap w m 0 e - m)).toList).toArray e)) := by
          rintro (rfl | ⟨a, rfl⟩)
          · simp [Builtin.append_, run_underlying hst, run_underlying hxt, sizeOf, typeInfo, zeroValue, hi, hz, asInt, asIntOf, w1, e1, e2, e3, hnx, e4, e5, Builtin.firstCells, Question.forced, newRow, grownCap]
            rw [if_neg (by omega)]
            congr 3
            apply Array.ext'
            simp
          · simp [Builtin.append_, run_underlying hst, run_underlying hxt, sizeOf, typeInfo, zeroValue, hi, hz, asInt, asIntOf, w1, e1, e2, e3, hnx, e4, e5, Builtin.firstCells, loadCells, loadCellsFrom, Question.forced, newRow, grownCap]
            rw [if_neg (by omega)]
            congr 3
            apply Array.ext'
            simp
        have hge := grownCap_ge w m 0 e
        have heq : ∀ q, (Builtin.zeroCells z.cells q).toList = ((Array.range (q * zs.length)).map (z.cells[· % z.cells.size]!)).toList := by intro q; simp [Builtin.zeroCells, hzc, hzl]
        have hrel : VRels k (List.replicate m zs).flatten (Builtin.zeroCells z.cells m).toList := by
          rw [heq]; exact zeros_rel (hzr k) (by omega) m
        obtain ⟨k', hv, hst'⟩ := fresh_row (k := k) (σ := σ) hR (e := e) (sz := inf.size) (es := List.replicate m zs) (us := (Builtin.zeroCells z.cells m).toList) (cap := grownCap w m 0 e) (n := m) (Builtin.zeroCells z.cells (grownCap w m 0 e - m)).toList hp (fun x hx => by rw [(List.mem_replicate.1 hx).2]; exact hzl) (fun x hx => by rw [(List.mem_replicate.1 hx).2]; exact hz1) hrel (by simp) hge (by
          simp only [List.length_append, Array.length_toList, size_zeroCells, hzc]
          rw [← Nat.add_mul]; congr 1; omega)
        split at h
        · injection h with h; subst h; cases hs
          exact ⟨k', _, _, main (.inl rfl), hv, hst'⟩
        · injection h with h; subst h; cases hs
          exact ⟨k', _, _, main (.inr ⟨_, rfl⟩), hv, hst'⟩
        · cases h
      · cases h
    · cases h
  · cases h

def capA (P : Program) (t : TypeId) (x : AV) : Option AV :=
  match P.underlying t, x with
  | some (.slice _), .nils => some (.int .i64 0)
  | some (.slice _), .emp => some (.int .i64 0)
  | _, _ => none
theorem cap_ok (hR : Rel k σ w) {t ty : TypeId} {x r : AV} {u : Value} (hx : VRel k x u) (h : capA P t x = some r) : Ok P k σ w (Builtin.cap_ #[t] ty #[u]) (r, σ) := by
  unfold capA at h
  split at h
  · rename_i e ht
    injection h with h; subst h; cases hx
    exact Ok.same hR (v := .int .i64 0) (by simp [Builtin.cap_, run_underlying ht, goInt]) (.int _ _)
  · rename_i e ht
    injection h with h; subst h; cases hx
    exact Ok.same hR (v := .int .i64 0) (by simp [Builtin.cap_, run_underlying ht, goInt]) (.int _ _)
  · cases h

/-! ### Interface values -/
def ifaceA (P : Program) (t : TypeId) (x : AV) : Option AV :=
  match P.underlying t with
  | some (.interface _) => none
  | some _ => some (.ifc t x)
  | none => none
theorem iface_ok (hR : Rel k σ w) {t : TypeId} {x r : AV} {u : Value} (hx : VRel k x u) (h : ifaceA P t x = some r) : Ok P k σ w (Instr.makeInterface t u) (r, σ) := by
  unfold ifaceA at h
  split at h
  · cases h
  · rename_i d hn hd
    injection h with h; subst h
    refine Ok.same hR (v := .iface t u) ?_ (.ifc t x u hx)
    unfold Instr.makeInterface
    simp only [Sem.run_bind, run_underlying hd, Result.andThen_ok]
    cases d <;> first | rfl | exact absurd rfl (hn _)
  · cases h

/-- The function of a method of the pointer itself. -/
def methA (P : Program) (t : TypeId) (name : String) : Option FuncId :=
  match P.info? t with
  | some i => match i.methods.find? (·.name == name) with
    | some m => if m.path.toList.isEmpty then match m.func, P.underlying t with
        | some (f, true), some (.pointer _) => some f
        | _, _ => none
      else none
    | none => none
  | none => none
theorem method_ok {t : TypeId} {name : String} {f : FuncId} (h : methA P t name = some f) (n : Nat) (v : Value) (w : World) :
    (method (n + 1) t v name).run P w = .ok (f, v) w ∧ (nilAhead (n + 1) t v name).run P w = .ok (some false) w := by
  unfold methA at h
  split at h
  · rename_i i hi
    split at h
    · rename_i m hm
      split at h
      · rename_i hp
        have hp : m.path = #[] := by
          have := List.isEmpty_iff.1 hp
          exact Array.toList_eq_nil_iff.1 this
        split at h
        · rename_i f' e hf he
          injection h with h; subst h
          refine ⟨?_, ?_⟩
          · unfold method
            simp [run_typeInfo hi, hm, hp, follow, hf, receiverAt, run_underlying he, Place.get]
          · unfold nilAhead
            simp [run_typeInfo hi, hm, hp, followBlind, hf]
        · cases h
      · cases h
    · cases h
  · cases h

/-! ### Maps -/
def plainKey (d : TypeDesc) (a : AV) : Bool :=
  match d, a with
  | .bool, .bool _ => true
  | .int k, .int k' _ => decide (k' = k)
  | .string, .str _ => true
  | _, _ => false
def sameKey (d : TypeDesc) (a b : AV) : Option Bool :=
  match d, a, b with
  | .bool, .bool x, .bool y => some (x == y)
  | .int k, .int i x, .int j y => if i = k ∧ j = k then some (decide (x = y)) else none
  | .string, .str x, .str y => some (decide (x.data.toList = y.data.toList))
  | _, _, _ => none
def findA (d : TypeDesc) (a : AV) : List (AV × AV) → Nat → Option (Option (Nat × AV))
  | [], _ => some none
  | e :: r, i => match sameKey d a e.1 with
    | some true => some (some (i, e.2))
    | some false => findA d a r (i + 1)
    | none => none
/-- The zero value of a type. -/
def zeroV (P : Program) (t : TypeId) : Option AV := (P.info? t).bind fun i => i.zero.bind ofVal
theorem zeroV_spec {t : TypeId} {z : AV} (h : zeroV P t = some z) : ∃ i u, P.info? t = some i ∧ i.zero = some u ∧ ∀ {V : Nm → Prop} (k : Kn V), VRel k z u := by
  obtain ⟨i, hi, h⟩ := Option.bind_eq_some_iff.1 h
  obtain ⟨u, hu, h⟩ := Option.bind_eq_some_iff.1 h
  exact ⟨i, u, hi, hu, fun k => ofVal_rel h⟩

theorem sameKey_spec {d : TypeDesc} {a b : AV} {r : Bool} (h : sameKey d a b = some r) {ua ub : Value} (ha : VRel k a ua) (hb : VRel k b ub) : Instr.sameNow d ua ub = some r ∧ MapKept.IsKey d ua ∧ (r = true → ua = ub) := by
  unfold sameKey at h
  split at h
  · injection h with h; subst h; cases ha; cases hb
    exact ⟨rfl, trivial, fun h => by simp at h; rw [h]⟩
  · split at h
    · rename_i hk
      obtain ⟨rfl, hk⟩ := hk
      subst hk
      injection h with h; subst h; cases ha; cases hb
      refine ⟨by simp [Instr.sameNow]; rfl, rfl, fun h => by simp at h; rw [h]⟩
    · cases h
  · injection h with h; subst h; cases ha; cases hb
    rename_i x y
    obtain ⟨r', h1, h2⟩ := MapKept.sameNow_of_keys (d := .string) (a := .string x) (b := .string y) trivial trivial
    have h3 : decide (x.data.toList = y.data.toList) = r' := by
      rw [Bool.eq_iff_iff, h2, decide_eq_true_eq]
      constructor
      · intro h; rw [ByteArray.ext (Array.ext' h)]
      · intro h; injection h with h; rw [h]
    rw [h3]
    exact ⟨h1, trivial, h2.1⟩
  · cases h
theorem findA_spec {d : TypeDesc} {a : AV} {ua : Value} (ha : VRel k a ua) : ∀ {es : List (AV × AV)} {l : List MapEntry} {i : Nat} {r : Option (Nat × AV)}, findA d a es i = some r → MRel k es l →
    (r = none ∧ Instr.findNow d ua l i = some none) ∨ ∃ j v e, r = some (i + j, v) ∧ Instr.findNow d ua l i = some (some (i + j, e.val)) ∧ l[j]? = some e ∧ e.key = ua ∧ VRel k v e.val ∧ j < es.length
  | [], l, i, r, h, hM => by
    simp only [findA] at h; injection h with h; subst h
    have : l = [] := by have := hM.1; simp at this; exact List.length_eq_zero_iff.1 this.symm
    subst this
    exact .inl ⟨rfl, rfl⟩
  | x :: es, [], i, r, h, hM => by have := hM.1; simp at this
  | x :: es, e :: l, i, r, h, hM => by
    have h0 := hM.2 0 x e rfl rfl
    simp only [findA] at h
    split at h
    · rename_i hs
      obtain ⟨h1, _, h3⟩ := sameKey_spec hs ha h0.1
      injection h with h; subst h
      exact .inr ⟨0, x.2, e, rfl, by simp [Instr.findNow, h1], rfl, (h3 rfl).symm, h0.2, by simp⟩
    · rename_i hs
      obtain ⟨h1, _, _⟩ := sameKey_spec hs ha h0.1
      have hM' : MRel k es l := ⟨by have := hM.1; simpa using this, fun j a' e' ha' he' => hM.2 (j + 1) a' e' (by simpa using ha') (by simpa using he')⟩
      rcases findA_spec ha h hM' with ⟨h2, h3⟩ | ⟨j, v, e', h2, h3, h4, h5, h6, h7⟩
      · exact .inl ⟨h2, by simp [Instr.findNow, h1, h3]⟩
      · refine .inr ⟨j + 1, v, e', by rw [h2]; congr 2; omega, ?_, by simpa using h4, h5, h6, by simp; omega⟩
        simp only [Instr.findNow, h1, h3]
        congr 3; omega
    · cases h
theorem plainKey_spec {d : TypeDesc} {a : AV} {ua : Value} (h : plainKey d a = true) (ha : VRel k a ua) : MapKept.IsKey d ua := by
  unfold plainKey at h
  split at h <;> first | (cases ha; trivial; done) | (simp at h; done) | (cases ha; simpa [MapKept.IsKey] using h)

def entriesA (σ : Heap) : AV → Option (List (AV × AV))
  | .nilm => some []
  | .map id => match σ[id]? with
    | some (.mp es) => some es
    | _ => none
  | _ => none
def lookupA (P : Program) (σ : Heap) (t : TypeId) (x i : AV) (ok : Bool) : Option AV :=
  match P.underlying t with
  | some (.map kt et) => match P.underlying kt, entriesA σ x with
    | some d, some es => if plainKey d i then
        match findA d i es 0 with
        | some (some (_, v)) => some (if ok then .tup [v, .bool true] else v)
        | some none => (zeroV P et).map fun z => if ok then .tup [z, .bool false] else z
        | none => none
      else none
    | _, _ => none
  | _ => none
theorem lookup_ok (hR : Rel k σ w) {t : TypeId} {x i r : AV} {ux ui : Value} {ok : Bool} (hx : VRel k x ux) (hi : VRel k i ui) (h : lookupA P σ t x i ok = some r) : Ok P k σ w (Instr.lookup t ux ui ok) (r, σ) := by
  unfold lookupA at h
  split at h
  · rename_i kt et ht
    split at h
    · rename_i d es hd hes
      split at h
      · rename_i hk
        have hkey := plainKey_spec hk hi
        have pack : ∀ {v : AV} {u : Value} {b : Bool}, VRel k v u → VRel k (if ok then .tup [v, .bool b] else v) (if ok then .tuple #[u, .bool b] else u) := by
          intro v u b hv
          cases ok with
          | false => exact hv
          | true =>
            simp only [if_true]
            refine .tup _ _ rfl fun j a c ha hc => ?_
            rcases j with _ | _ | j
            · simp at ha hc; subst ha; subst hc; exact hv
            · simp at ha hc; subst ha; subst hc; exact .bool _
            · simp at ha
        -- the entries that the machine finds
        have main : ∀ (ents : Array MapEntry), MRel k es ents.toList → ∀ v, (findA d i es 0 = some (some v) → ∃ u j, Instr.findNow d ui ents.toList 0 = some (some (j, u)) ∧ VRel k v.2 u) ∧ (findA d i es 0 = some none → Instr.findNow d ui ents.toList 0 = some none) := by
          intro ents hM v
          refine ⟨fun hf => ?_, fun hf => ?_⟩
          · rcases findA_spec hi hf hM with ⟨h1, _⟩ | ⟨j, v', e, h1, h2, _, _, h5, _⟩
            · cases h1
            · injection h1 with h1; subst h1
              exact ⟨e.val, _, h2, h5⟩
          · rcases findA_spec hi hf hM with ⟨_, h2⟩ | ⟨j, v', e, h1, _⟩
            · exact h2
            · cases h1
        have fin : ∀ (ents : Array MapEntry), MRel k es ents.toList →
            (∀ j u, Instr.findNow d ui ents.toList 0 = some (some (j, u)) → (Instr.lookup t ux ui ok).run P w = .ok (if ok then .tuple #[u, .bool true] else u) w) →
            (∀ inf uz, P.info? et = some inf → inf.zero = some uz → Instr.findNow d ui ents.toList 0 = some none → (Instr.lookup t ux ui ok).run P w = .ok (if ok then .tuple #[uz, .bool false] else uz) w) → Ok P k σ w (Instr.lookup t ux ui ok) (r, σ) := by
          intro ents hM hr1 hr2
          split at h
          · rename_i n v hf
            injection h with h; subst h
            obtain ⟨u, j, h1, h2⟩ := (main ents hM (n, v)).1 hf
            exact Ok.same hR (hr1 j u h1) (pack h2)
          · rename_i hf
            obtain ⟨z, hz, rfl⟩ := Option.map_eq_some_iff.1 h
            obtain ⟨inf, uz, hz1, hz2, hz3⟩ := zeroV_spec hz
            exact Ok.same hR (hr2 inf uz hz1 hz2 ((main ents hM (0, .und)).2 hf)) (pack (hz3 k))
          · cases h
        unfold entriesA at hes
        split at hes
        · injection hes with hes; subst hes; cases hx
          exact fin #[] ⟨rfl, fun j a e ha => by simp at ha⟩ (fun j u h1 => by simp [Instr.findNow] at h1) (fun inf uz h1 h2 h3 => by
            simp [Instr.lookup, run_underlying ht, MapKept.run_checkKey hd hkey, MapKept.run_findKey hd h3, run_zeroValue h1 h2])
        · split at hes
          · rename_i id es' hb
            injection hes with hes; subst hes
            cases hx with
            | map _ l hm =>
            obtain ⟨l', ents, ck, m1, m2, m3, m4⟩ := hR.mp _ _ hb
            rw [hm] at m1; injection m1 with m1; subst m1
            exact fin ents m4 (fun j u h1 => by
              simp [Instr.lookup, run_underlying ht, MapKept.run_getObj_map m3, MapKept.run_checkKey hd hkey, MapKept.run_findKey hd h1]) (fun inf uz h1 h2 h3 => by
              simp [Instr.lookup, run_underlying ht, MapKept.run_getObj_map m3, MapKept.run_checkKey hd hkey, MapKept.run_findKey hd h3, run_zeroValue h1 h2])
          · cases hes
        · cases hes
      · cases h
    · cases h
  · cases h
end
end Go.Dx
