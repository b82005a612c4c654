/- make, copy, numbers, comparisons, conversions. -/
import Derived.Test.YtnglipioaippoaaEy9
import Derived.IntWalk
namespace Go.Dx
variable {V : Nm → Prop}
section
variable {P : Program} {k : Kn V} {σ : Heap} {w : World}

/-! ### make -/
def intA : AV → Option Int | .int .i64 n => some n | _ => none
def makeSliceM (P : Program) (id : Nat) (t : TypeId) (len cap : AV) : Option (AV × Option Blk) :=
  match P.underlying t, intA len, intA cap with
  | some (.slice e), some l, some c =>
    match P.info? e, zeroA P e with
    | some inf, some z =>
      if (z.length == inf.size) && decide (0 < inf.size) && decide (0 ≤ l ∧ l ≤ c ∧ c ≤ capBytes) && decide (c.toNat * inf.bytes ≤ capBytes) then
        (if c == 0 then some (.emp, none) else some (.sl id 0 0 l.toNat, some (newB e inf.size (List.replicate l.toNat z)))) else none
    | _, _ => none
  | some (.slice e), none, none => match len, cap with
    | .tok B .i64 j, .tok _ .i64 j' => match P.info? e, zeroA P e with
      | some inf, some z =>
        if decide (j = j') && decide ((⟨.lss, .i64, .tok j, .lit 64, .bool false⟩ : Fact) ∈ B) && decide ((⟨.gtr, .i64, .tok j, .lit 131072, .bool false⟩ : Fact) ∈ B) && (z.length == inf.size) && decide (inf.bytes ≤ 1024) then some (.osl B j, none) else none
      | _, _ => none
    | _, _ => none
  | _, _, _ => none
theorem intA_spec {x : AV} {u : Value} {n : Int} (hx : VRel k x u) (h : intA x = some n) : u = .int .i64 n := by
  unfold intA at h
  split at h
  · injection h with h; subst h; cases hx; rfl
  · cases h
theorem makeSlice_run {w : World} {t e : TypeId} {inf : TypeInfo} {zv : Value} (hu : P.underlying t = some (.slice e)) (hi : P.info? e = some inf) (hzv : inf.zero = some zv) {ln cn : Nat} (h01 : ln ≤ cn) (hcb : cn ≤ 1099511627776) (hby : cn * inf.bytes ≤ 1099511627776) :
    (Instr.makeSlice t (.int .i64 ln) (.int .i64 cn)).run P w = .ok (.slice (some ⟨w.heap.size, 0, none⟩) ln cn) (w.alloc (.cells ((Array.range (cn * inf.size)).map (zv.cells[· % zv.cells.size]!)) e)) := by
  have w1 : IntKind.i64.wrap (ln : Int) = ln := Go.IntWalk.i64_in _ (by omega)
  have w2 : IntKind.i64.wrap (cn : Int) = cn := Go.IntWalk.i64_in _ (by omega)
  have hb2 : ((inf.bytes : Int) * (cn : Int)) ≤ 281474976710656 := by
    have h' : ((cn * inf.bytes : Nat) : Int) ≤ 281474976710656 := by omega
    rwa [Int.natCast_mul, Int.mul_comm] at h'
  have e1 : ¬ ((cn : Int) < 0) := by omega
  have e2 : ¬ (281474976710656 < (inf.bytes : Int) * (cn : Int)) := by omega
  have e3 : ¬ ((ln : Int) < 0) := by omega
  have e4 : ¬ ((cn : Int) < (ln : Int)) := by omega
  by_cases hn : cn * inf.size = 0
  · simp [Instr.makeSlice, run_underlying hu, asInt, asIntOf, run_typeInfo hi, w1, w2, e1, e2, e3, e4, run_sizeOf hi, newRow]
    rw [if_pos (by simpa using hn)]
    simp
    rw [hn]
    congr 2
    apply Array.ext'
    simp
  · simp [Instr.makeSlice, run_underlying hu, asInt, asIntOf, run_typeInfo hi, w1, w2, e1, e2, e3, e4, run_sizeOf hi, newRow]
    rw [if_neg (by simpa using hn)]
    simp [run_zeroValue hi hzv]
theorem makeSlice_ok (hR : Rel k σ w) {id : Nat} {t : TypeId} {len cap : AV} {ul uc : Value} (hl : VRel k len ul) (hc : VRel k cap uc) {r : AV × Option Blk} (h : makeSliceM P id t len cap = some r) : MkOk P k σ w id (Instr.makeSlice t ul uc) r := by
  unfold makeSliceM at h
  split at h
  · rename_i e l c hu h1 h2
    obtain rfl := intA_spec hl h1
    obtain rfl := intA_spec hc h2
    split at h
    · rename_i inf z hi hz
      obtain ⟨it, zv, hi', hzv, hzr, hz1⟩ := zeroA_spec hz
      rw [hi] at hi'; injection hi' with hi'; subst hi'
      split at h
      · rename_i hcond
        simp only [Bool.and_eq_true, beq_iff_eq, decide_eq_true_eq] at hcond
        obtain ⟨⟨⟨hzl, hp⟩, h0, h01, hcb⟩, hby⟩ := hcond
        unfold capBytes at hcb hby
        obtain ⟨cn, rfl⟩ := Int.eq_ofNat_of_zero_le (show 0 ≤ c by omega)
        obtain ⟨ln, rfl⟩ := Int.eq_ofNat_of_zero_le h0
        simp only [Int.toNat_natCast] at hby h ⊢
        have w1 : IntKind.i64.wrap (ln : Int) = ln := Go.IntWalk.i64_in _ (by omega)
        have w2 : IntKind.i64.wrap (cn : Int) = cn := Go.IntWalk.i64_in _ (by omega)
        have hb2 : ((inf.bytes : Int) * (cn : Int)) ≤ 281474976710656 := by
          have h' : ((cn * inf.bytes : Nat) : Int) ≤ 281474976710656 := by omega
          rwa [Int.natCast_mul, Int.mul_comm] at h'
        have e1 : ¬ ((cn : Int) < 0) := by omega
        have e2 : ¬ (281474976710656 < (inf.bytes : Int) * (cn : Int)) := by omega
        have e3 : ¬ ((ln : Int) < 0) := by omega
        have e4 : ¬ ((cn : Int) < (ln : Int)) := by omega
        have hrun : (Instr.makeSlice t (.int .i64 ln) (.int .i64 cn)).run P w = .ok (.slice (some ⟨w.heap.size, 0, none⟩) ln cn) (w.alloc (.cells ((Array.range (cn * inf.size)).map (zv.cells[· % zv.cells.size]!)) e)) := by
          by_cases hn : cn * inf.size = 0
          · simp [Instr.makeSlice, run_underlying hu, asInt, asIntOf, run_typeInfo hi, w1, w2, e1, e2, e3, e4, run_sizeOf hi, newRow]
            rw [if_pos (by simpa using hn)]
            simp
            rw [hn]
            congr 2
            apply Array.ext'
            simp
          · simp [Instr.makeSlice, run_underlying hu, asInt, asIntOf, run_typeInfo hi, w1, w2, e1, e2, e3, e4, run_sizeOf hi, newRow]
            rw [if_neg (by simpa using hn)]
            simp [run_zeroValue hi hzv]
        split at h
        · rename_i hc0
          injection h with h; subst h
          have hcn : cn = 0 := by have : (cn : Int) = 0 := by simpa using hc0
                                  omega
          subst hcn
          obtain rfl : ln = 0 := by omega
          exact ⟨_, _, _, hrun, .emp _, hR.pinned _⟩
        · injection h with h; subst h
          have hzr' := zeros_rel (hzr k) (by omega) cn
          rw [hzl] at hzr'
          have hst := row_fits (k := k) (w := w) id e inf.size (List.replicate ln z) ((Array.range (cn * inf.size)).map (zv.cells[· % zv.cells.size]!)) e hp rfl (fun i x hx => by
              rw [List.getElem?_replicate] at hx
              split at hx
              · injection hx with hx; subst hx; exact ⟨hzl, hz1⟩
              · cases hx) (by simp; exact Nat.mul_le_mul_right _ (by omega)) (fun p x j v hx hv => by
              rw [List.getElem?_replicate] at hx
              split at hx
              · rename_i hlt
                injection hx with hx; subst hx
                obtain ⟨u, hu, hr⟩ := flat_back (es := List.replicate cn z) (sz := inf.size) hzr' (fun e he => by rw [(List.mem_replicate.1 he).2]; exact hzl) (i := p) (by rw [List.getElem?_replicate, if_pos (by omega)]) hv
                exact ⟨u, by rw [← Array.getElem?_toList]; exact hu, hr⟩
              · cases hx)
          refine ⟨_, _, _, hrun, ?_, hst⟩
          refine .sl _ _ _ _ _ _ cn (Kn.add_same _ _ _ _) (Nat.le_refl _) (by omega) (.inr (by simp)) ?_
          simp
      · cases h
    · cases h
  · rename_i e hu h1 h2
    split at h
    · rename_i B j B' j'
      split at h
      · rename_i inf z hi hz
        obtain ⟨it, zv, hi', hzv, hzr, hz1⟩ := zeroA_spec hz
        rw [hi] at hi'; injection hi' with hi'; subst hi'
        split at h
        · rename_i hcond
          simp only [Bool.and_eq_true, beq_iff_eq, decide_eq_true_eq] at hcond
          obtain ⟨⟨⟨⟨rfl, f1⟩, f2⟩, hzl⟩, hby⟩ := hcond
          injection h with h; subst h
          cases hl with
          | tok _ _ _ hB =>
          cases hc
          have g1 : ¬ k.val j < 64 := by
            have h' : some (AV.bool (decide (k.val j < 64))) = some (AV.bool false) := hB _ f1
            simpa using h'
          have g2 : ¬ k.val j > 131072 := by
            have h' : some (AV.bool (decide (k.val j > 131072))) = some (AV.bool false) := hB _ f2
            simpa using h'
          obtain ⟨m, hm⟩ := Int.eq_ofNat_of_zero_le (show 0 ≤ k.val j by omega)
          have hrun := makeSlice_run (w := w) hu hi hzv (Nat.le_refl m) (by omega) (Nat.le_trans (Nat.mul_le_mul (show m ≤ 131072 by omega) hby) (by omega))
          rw [hm]
          have hst := hR.pinned (.cells ((Array.range (m * inf.size)).map (zv.cells[· % zv.cells.size]!)) e)
          exact ⟨_, _, _, hrun, VRel.mono hst.le (.osl B j _ m m hB hm.symm), hst⟩
        · cases h
      · cases h
    · cases h
  · cases h

/-! ### copy -/
def putL {α : Type} (e : List α) (sub : Nat) (cs : List α) : List α := e.take sub ++ (cs ++ e.drop (sub + cs.length))
theorem putL_len {α : Type} {e cs : List α} {sub : Nat} (h : sub + cs.length ≤ e.length) : (putL e sub cs).length = e.length := by simp [putL]; omega
theorem putL_in {α : Type} {e cs : List α} {sub j : Nat} (h : sub + cs.length ≤ e.length) (hj : j < cs.length) : (putL e sub cs)[sub + j]? = cs[j]? := by
  unfold putL
  rw [List.getElem?_append_right (by simp; omega), List.length_take, Nat.min_eq_left (by omega), Nat.add_sub_cancel_left, List.getElem?_append_left hj]
theorem putL_out {α : Type} {e cs : List α} {sub j : Nat} (h : sub + cs.length ≤ e.length) (hj : j < sub ∨ sub + cs.length ≤ j) : (putL e sub cs)[j]? = e[j]? := by
  unfold putL
  rcases hj with hj | hj
  · rw [List.getElem?_append_left (by simp; omega), List.getElem?_take, if_pos hj]
  · rw [List.getElem?_append_right (by simp; omega), List.length_take, Nat.min_eq_left (by omega), List.getElem?_append_right (by omega), List.getElem?_drop]
    congr 1; omega

/-- Elements of a row are written over. -/
theorem over_ok (hR : Rel k σ w) {id ep ty sz next x off n : Nat} {es ns : List (List AV)} {live : List (Nat × Nat)} {us : List Value} {l : Loc} (hb : σ[id]? = some (.row ty sz es live next)) (hx : lookE ep live = some x) (hm : k.μ id ep = some l) (hls : l.s ≤ off)
    (hn : ns.length = n) (hoff : off + n ≤ x) (hnz : ∀ e ∈ ns, e.length = sz) (hn1 : ∀ e ∈ ns, ∀ v ∈ e, one v = true) (hr : VRels k ns.flatten us) (hu1 : ∀ u ∈ us, u.oneCell' = true) :
    ∃ w', (storeCells ⟨l.cb, (off - l.s) * l.sz, none⟩ us).run P w = .ok () w' ∧ Step k σ w k (σ.set id (.row ty sz (putL es off ns) (keepE ep off live) next)) w' := by
  have r := hR.row _ _ _ _ _ _ hb
  have hlive := lookE_mem hx
  have hxl := (r.eps ep x hlive).2
  obtain ⟨l0, c, fz, hm0, hlsz, hlx, hHn, hw, hcs, hfz, hlext, hcell⟩ := r.loc ep x hlive
  rw [hm] at hm0; injection hm0 with hm0; subst hm0
  have hul : us.length = n * sz := by rw [← hr.1, flat_len hnz, hn]
  have hfit : (off - l.s) * l.sz + us.length ≤ c.size := by
    rw [hul, hlsz, ← Nat.add_mul, hcs]
    exact Nat.le_trans (Nat.mul_le_mul_right _ (by omega)) hlext
  obtain ⟨w', cur', hrun, h2, h3, h4, h5, h6, h7, h8, h9, h10⟩ := run_cells (P := P) l.cb ((off - l.s) * l.sz) ty fz us 0 c w hw (by simpa using hfit) hfz.out hu1
  have hpl := putL_len (e := es) (cs := ns) (sub := off) (by omega)
  have hpz : ∀ (i : Nat) (e : List AV), (putL es off ns)[i]? = some e → e.length = sz ∧ ∀ v ∈ e, one v = true := by
    intro i e he
    by_cases hi : off ≤ i ∧ i < off + n
    · obtain ⟨m, rfl⟩ : ∃ m, i = off + m := ⟨i - off, by omega⟩
      rw [putL_in (by omega) (by omega)] at he
      exact ⟨hnz e (List.mem_of_getElem? he), hn1 e (List.mem_of_getElem? he)⟩
    · rw [putL_out (by omega) (by omega)] at he
      exact r.len i e he
  have hout : ∀ p, l.s ≤ p → (p < off ∨ off + n ≤ p) → ∀ j, j < sz → cur'[(p - l.s) * sz + j]? = c[(p - l.s) * sz + j]? := by
    intro p hp1 hp2 j hj
    refine h5 _ ?_
    rw [hlsz, hul, Nat.add_zero]
    rcases hp2 with hp2 | hp2
    · left
      have : (p - l.s + 1) * sz ≤ (off - l.s) * sz := Nat.mul_le_mul_right _ (by omega)
      rw [Nat.succ_mul] at this; omega
    · right
      rw [← Nat.add_mul]
      have : (off - l.s + n) * sz ≤ (p - l.s) * sz := Nat.mul_le_mul_right _ (by omega)
      omega
  refine ⟨w', hrun, hR.upd hb (Nat.le_refl _) (Nat.le_succ _) rfl (fun _ _ _ => rfl) rfl h8 h9 h10 (by omega) (fun b hbl hnb => h6 b fun hbe => hnb ep x l hlive hm hbe.symm) (fun ep' l' hm' hn' => by rw [hR.none_ep hb ep' hn'] at hm'; cases hm')
    (fun e' x' h' => .inr ⟨x', (mem_keepE h').1⟩) (nodup_keepE (hR.nodup _ _ _ _ _ _ hb)) ⟨r.pos, fun e' x' h' => by have := r.eps e' x' (mem_keepE h').1; omega, hpz, fun e' x' h' => ?_⟩⟩
  obtain ⟨h'1, h'2⟩ := mem_keepE h'
  obtain ⟨l', c', fz', hm', g1, g2, g3, g4, g5, g6, g7, g8⟩ := r.loc e' x' h'1
  by_cases hcb : l'.cb = l.cb
  · have hll : l' = l := hR.same id e' ep l' l hm' hm hcb
    subst hll
    rw [hw] at g4; injection g4 with g4; injection g4 with q1 q2 q3
    subst q1; subst q3
    refine ⟨l', cur', fz, hm', g1, g2, g3, h2, by omega, by rw [h3]; exact g6, g7, fun p e2 j v hp1 hp2 he hv => ?_⟩
    have hj : j < sz := by have q := (List.getElem?_eq_some_iff.1 hv).1; have := (hpz p e2 he).1; omega
    by_cases hpi : off ≤ p ∧ p < off + n
    · obtain ⟨m, rfl⟩ : ∃ m, p = off + m := ⟨p - off, by omega⟩
      rw [putL_in (by omega) (by omega)] at he
      obtain ⟨u, hu, hru⟩ := flat_back hr hnz he hv
      refine ⟨u, ?_, hru⟩
      have := h4 _ u hu
      rw [← this]
      congr 1
      rw [hlsz, Nat.add_zero, show off + m - l'.s = (off - l'.s) + m by omega, Nat.add_mul]
      omega
    · rw [putL_out (by omega) (by omega)] at he
      obtain ⟨u, hu, hru⟩ := g8 p e2 j v hp1 hp2 he hv
      exact ⟨u, by rw [hout p hp1 (by omega) j hj]; exact hu, hru⟩
  · have hne : e' ≠ ep := by rintro rfl; rw [hm] at hm'; injection hm' with hm'; exact hcb (by rw [hm'])
    have hx2 : x' ≤ off := by rcases h'2 with h | h; exact absurd h hne; exact h
    refine ⟨l', c', fz', hm', g1, g2, g3, by rw [h6 _ hcb]; exact g4, g5, g6, g7, fun p e2 j v hp1 hp2 he hv => ?_⟩
    rw [putL_out (by omega) (by omega)] at he
    exact g8 p e2 j v hp1 hp2 he hv

def copyA (P : Program) (σ : Heap) (dt : TypeId) (d s : AV) : Option (AV × Heap) :=
  match P.underlying dt with
  | some (.slice e) =>
    match szA P e, elemsA σ s with
    | some sz, some ns =>
      if ns.all (·.length == sz) && decide (0 < sz) then
        match d with
        | .nils => some (.int .i64 0, σ)
        | .emp => some (.int .i64 0, σ)
        | .sl id ep off len =>
          if Nat.min ns.length len == 0 then some (.int .i64 0, σ) else
          match σ[id]? with
          | some (.row ty sz' es live next) => match lookE ep live with
            | some x => if (sz' == sz) && decide (off + len ≤ x) then some (.int .i64 (Nat.min ns.length len : Nat), σ.set id (.row ty sz (putL es off (ns.take (Nat.min ns.length len))) (keepE ep off live) next)) else none
            | none => none
          | _ => none
        | _ => none
      else none
    | _, _ => none
  | _ => none
theorem copy_ok (hR : Rel k σ w) {dt st ty : TypeId} {d s : AV} {ud us : Value} (hd : VRel k d ud) (hs : VRel k s us) {r : AV × Heap} (h : copyA P σ dt d s = some r) : Ok P k σ w (Builtin.copy_ #[dt, st] ty #[ud, us]) r := by
  unfold copyA at h
  split at h
  · rename_i e hu
    split at h
    · rename_i sz ns hsz hns
      obtain ⟨inf, hi, hisz⟩ := szA_spec hsz
      split at h
      · rename_i hc
        simp only [Bool.and_eq_true, List.all_eq_true, beq_iff_eq, decide_eq_true_eq] at hc
        obtain ⟨hnl, hp⟩ := hc
        obtain ⟨hH, hone⟩ := elems_spec (P := P) hR hs hns hp hnl
        have hrun : ∀ (b : Option Addr) (n c : Nat) (cells : List Value) (w' : World), (Builtin.firstCells inf.size (Nat.min ns.length n) us).run P w = .ok cells.toArray w → (∀ a, b = some a → (storeCells a cells).run P w = .ok () w') → (b = none → w' = w) →
            (Builtin.copy_ #[dt, st] ty #[.slice b n c, us]).run P w = .ok (.int .i64 (Nat.min ns.length n : Nat)) w' := by
          intro b n c cells w' h1 h2 h3
          cases b with
          | none => simp [Builtin.copy_, run_underlying hu, run_sizeOf hi, hH.len, h1, goInt, h3]
          | some a => simp [Builtin.copy_, run_underlying hu, run_sizeOf hi, hH.len, h1, goInt, h2 a rfl]
        have hzero : ∀ n, Nat.min ns.length n = 0 → (Builtin.firstCells inf.size (Nat.min ns.length n) us).run P w = .ok ([] : List Value).toArray w := by
          intro n hn
          obtain ⟨nu, h1, _, _, h4⟩ := hH.cells 0 (Nat.zero_le _)
          have : nu = [] := List.eq_nil_of_length_eq_zero (by simpa using h1)
          subst this
          rw [hn, hisz]; exact h4 w rfl
        split at h
        · injection h with h; subst h
          cases hd
          have := hrun none 0 0 [] w (hzero 0 (by simp)) (fun a h => by cases h) (fun _ => rfl)
          exact Ok.same hR (by simpa using this) (.int _ _)
        · injection h with h; subst h
          cases hd with
          | emp a =>
          have := hrun (some a) 0 0 [] w (hzero 0 (by simp)) (fun a h => by simp [storeCells]) (fun _ => rfl)
          exact Ok.same hR (by simpa using this) (.int _ _)
        · rename_i id ep off len
          cases hd with
          | sl _ _ _ _ l a cap hm hls hl ha hcn =>
          split at h
          · rename_i hz0
            injection h with h; subst h
            have hz1 : Nat.min ns.length len = 0 := by simpa using hz0
            have := hrun (some a) len cap [] w (hzero len hz1) (fun a h => by simp [storeCells]) (fun _ => rfl)
            rw [hz1] at this
            exact Ok.same hR this (.int _ _)
          · rename_i hz0
            have hz1 : 0 < Nat.min ns.length len := Nat.pos_of_ne_zero (fun h0 => hz0 (by rw [h0]; rfl))
            split at h
            · rename_i ty2 sz' es live next hb
              split at h
              · rename_i x hx
                split at h
                · rename_i hc
                  injection h with h; subst h
                  simp only [Bool.and_eq_true, beq_iff_eq, decide_eq_true_eq] at hc
                  obtain ⟨hse, hoff⟩ := hc
                  subst hse
                  obtain ⟨nu, h1, h2, h3, h4⟩ := hH.cells (Nat.min ns.length len) (Nat.min_le_left _ _)
                  have hmin : Nat.min ns.length len ≤ len := Nat.min_le_right _ _
                  have hmin2 : Nat.min ns.length len ≤ ns.length := Nat.min_le_left _ _
                  obtain ⟨w', hst, hstep⟩ := over_ok (P := P) hR (n := Nat.min ns.length len) hb hx hm hls (ns := ns.take (Nat.min ns.length len)) (by rw [List.length_take]; omega) (by omega) (fun e he => hnl e (List.mem_of_mem_take he)) (fun e he => hone e (List.mem_of_mem_take he)) h2 h3
                  have haa : a = ⟨l.cb, (off - l.s) * l.sz, none⟩ := by rcases ha with ha | ha; omega; exact ha
                  refine ⟨k, _, w', hrun (some a) len cap nu w' (by rw [hisz]; exact h4 w rfl) (fun b hb' => by injection hb' with hb'; subst hb'; rw [haa]; exact hst) (fun h => by cases h), .int _ _, hstep⟩
                · cases h
              · cases h
            · cases h
        · cases h
      · cases h
    · cases h
  · cases h

/-! ### clear of a slice -/
def clearA (P : Program) (σ : Heap) (t : TypeId) (d : AV) : Option Heap :=
  match P.underlying t with
  | some (.slice e) =>
    match d, zeroA P e with
    | .nils, _ => some σ
    | .emp, _ => some σ
    | .sl id ep off len, some z =>
      if len == 0 then some σ else
      match σ[id]? with
      | some (.row ty sz es live next) => match lookE ep live with
        | some x => if (sz == z.length) && decide (off + len ≤ x) then some (σ.set id (.row ty sz (putL es off (List.replicate len z)) (keepE ep off live) next)) else none
        | none => none
      | _ => none
    | _, _ => none
  | _ => none
theorem clear_ok (hR : Rel k σ w) {t ty : TypeId} {d : AV} {ud : Value} (hd : VRel k d ud) {σ' : Heap} (h : clearA P σ t d = some σ') : ∃ w', (Builtin.clear_ #[t] ty #[ud]).run P w = .ok (.tuple #[]) w' ∧ Step k σ w k σ' w' := by
  unfold clearA at h
  split at h
  · rename_i e hu
    split at h
    · injection h with h; subst h; cases hd
      exact ⟨w, by simp [Builtin.clear_, run_underlying hu], Step.refl hR⟩
    · injection h with h; subst h; cases hd
      exact ⟨w, by simp [Builtin.clear_, run_underlying hu], Step.refl hR⟩
    · rename_i id ep off len z hz
      cases hd with
      | sl _ _ _ _ l a cap hm hls hl ha hcn =>
      split at h
      · rename_i h0
        injection h with h; subst h
        have : len = 0 := by simpa using h0
        subst this
        exact ⟨w, by simp [Builtin.clear_, run_underlying hu], Step.refl hR⟩
      · rename_i h0
        have hpos : 0 < len := by simp at h0; omega
        split at h
        · rename_i ty2 sz es live next hb
          split at h
          · rename_i x hx
            split at h
            · rename_i hc
              injection h with h; subst h
              simp only [Bool.and_eq_true, beq_iff_eq, decide_eq_true_eq] at hc
              obtain ⟨hzl, hoff⟩ := hc
              obtain ⟨inf, zv, hi, hzv, hzr, hz1⟩ := zeroA_spec hz
              have r := hR.row _ _ _ _ _ _ hb
              have hzrel := zeros_rel (hzr k) (by have := r.pos; omega) len
              have hul : ∀ u ∈ (Builtin.zeroCells zv.cells len).toList, u.oneCell' = true := by
                intro u hu
                obtain ⟨j, hj⟩ := List.getElem?_of_mem hu
                have hzc : z.length = zv.cells.size := by have := (hzr k).1; simpa using this
                have heq : (Builtin.zeroCells zv.cells len).toList = ((Array.range (len * z.length)).map (zv.cells[· % zv.cells.size]!)).toList := by simp [Builtin.zeroCells, hzc]
                rw [heq] at hj
                have hjl : j < (List.replicate len z).flatten.length := by rw [hzrel.1]; exact (List.getElem?_eq_some_iff.1 hj).1
                refine (hzrel.2 j _ u (List.getElem?_eq_getElem hjl) hj).one ?_
                obtain ⟨y, hy, hv⟩ := List.mem_flatten.1 (List.getElem_mem hjl)
                rw [(List.mem_replicate.1 hy).2] at hv
                exact hz1 _ hv
              have hzc : z.length = zv.cells.size := by have := (hzr k).1; simpa using this
              have heq : (Builtin.zeroCells zv.cells len).toList = ((Array.range (len * z.length)).map (zv.cells[· % zv.cells.size]!)).toList := by simp [Builtin.zeroCells, hzc]
              obtain ⟨w', hst, hstep⟩ := over_ok (P := P) hR (n := len) hb hx hm hls (ns := List.replicate len z) (by simp) hoff (fun e he => by rw [(List.mem_replicate.1 he).2]; exact hzl.symm) (fun e he => by rw [(List.mem_replicate.1 he).2]; exact hz1) (us := (Builtin.zeroCells zv.cells len).toList) (by rw [heq]; exact hzrel) hul
              have haa : a = ⟨l.cb, (off - l.s) * l.sz, none⟩ := by rcases ha with ha | ha; omega; exact ha
              refine ⟨w', ?_, hstep⟩
              rw [haa]
              obtain ⟨m, rfl⟩ : ∃ m, len = m + 1 := ⟨len - 1, by omega⟩
              simp [Builtin.clear_, run_underlying hu, run_zeroValue hi hzv, hst]
            · cases h
          · cases h
        · cases h
    · cases h
  · cases h
end
end Go.Dx
