/- Parts of structs, elements, lengths, slices of slices, literals. -/
import Derived.Test.YtnglipioaippoaaEy4
namespace Go.Dx
variable {V : Nm → Prop}

section
variable {P : Program} {k : Kn V} {σ : Heap} {w : World}

def fieldAddrA (P : Program) (s : TypeId) (x : AV) (f : Nat) : Option AV :=
  match P.underlying s with
  | some (.struct fs) =>
    match fs[f]? with
    | some fd =>
      match szA P fd.type with
      | some (_ + 1) =>
        match x with
        | .ptr id ep idx sub => some (.ptr id ep idx (sub + fd.offset))
        | .rptr cs => some (.rptr (cs.drop fd.offset))
        | .wptr cs => some (.wptr (cs.drop fd.offset))
        | _ => none
      | _ => none
    | none => none
  | _ => none
theorem fieldAddr_ok (hR : Rel k σ w) {s : TypeId} {x r : AV} {u : Value} {f : Nat} (hx : VRel k x u) (h : fieldAddrA P s x f = some r) : Ok P k σ w (Instr.fieldAt s u f) (r, σ) := by
  unfold fieldAddrA at h
  split at h
  · rename_i fs hu
    split at h
    · rename_i fd hf
      split at h
      · rename_i n hs
        obtain ⟨i, hi, hsz⟩ := szA_spec hs
        split at h
        · rename_i id ep idx sub
          injection h with h; subst h
          cases hx with
          | ptr _ _ _ _ l hm hs' =>
          refine Ok.same hR (v := .pointer (some ⟨l.cb, (idx - l.s) * l.sz + (sub + fd.offset), none⟩)) ?_ (.ptr _ _ _ _ l hm hs')
          simp [Instr.fieldAt, run_underlying hu, hf, Instr.sureAddr, fieldPlace, run_sizeOf hi, hsz, add_plain, Nat.add_assoc]
        · rename_i cs
          injection h with h; subst h
          cases hx with
          | rptr _ b o c ty fz g hH hc hv =>
          refine Ok.same hR (v := .pointer (some ⟨b, o + fd.offset, none⟩)) ?_ (.rptr _ b _ c ty fz (fun j => g (fd.offset + j)) hH (fun j v hj => ?_) (fun j v hj => ?_))
          · simp [Instr.fieldAt, run_underlying hu, hf, Instr.sureAddr, fieldPlace, run_sizeOf hi, hsz, add_plain]
          · rw [List.getElem?_drop] at hj; rw [Nat.add_assoc]; exact hc _ v hj
          · rw [List.getElem?_drop] at hj; exact hv _ v hj
        · rename_i cs
          injection h with h; subst h
          cases hx with
          | wptr _ b o c ty fz g hH hc hv =>
          refine Ok.same hR (v := .pointer (some ⟨b, o + fd.offset, none⟩)) ?_ (.wptr _ b _ c ty fz (fun j => g (fd.offset + j)) hH (fun j v hj => ?_) (fun j v hj => ?_))
          · simp [Instr.fieldAt, run_underlying hu, hf, Instr.sureAddr, fieldPlace, run_sizeOf hi, hsz, add_plain]
          · rw [List.getElem?_drop] at hj; rw [Nat.add_assoc]; exact hc _ v hj
          · rw [List.getElem?_drop] at hj; exact hv _ v hj
        · cases h
      · cases h
    · cases h
  · cases h

/-- An index within bounds. -/
def idxA (i : AV) (n : Nat) : Option Nat :=
  match i with
  | .int _ (.ofNat j) => cond (Nat.blt j n) (some j) none
  | _ => none
/-- A byte of a text. -/
def byteA (i : AV) (s : ByteArray) : Option AV :=
  match i with
  | .int _ (.ofNat j) => match s.data.toList[j]? with
    | some b => some (.int .u8 b.toNat)
    | none => none
  | _ => none
theorem idxA_spec {i : AV} {u : Value} {n m : Nat} (hi : VRel k i u) (h : idxA i n = some m) : ∃ kk j, u = .int kk j ∧ 0 ≤ j ∧ j < n ∧ j.toNat = m := by
  unfold idxA at h
  split at h
  · rename_i kk j
    cases hi
    cases hb : Nat.blt j n with
    | true =>
      rw [hb] at h
      injection h with h; subst h
      have : j < n := Nat.lt_of_succ_le (Nat.le_of_ble_eq_true hb)
      exact ⟨_, _, rfl, Int.natCast_nonneg _, by simp only [Int.ofNat_eq_natCast]; omega, by simp⟩
    | false => rw [hb] at h; cases h
  · cases h

/-- The element that is told. -/
def sameIV : IV → AV → Bool
  | .tok j, .tok _ _ j' => Nat.beq j j'
  | .lit n, .int _ m => decide (n = m)
  | _, _ => false
theorem sameIV_spec {iv : IV} {i : AV} {u : Value} (hi : VRel k i u) (h : sameIV iv i = true) : ∃ kk, u = .int kk (iv.val k.val) := by
  unfold sameIV at h
  split at h
  · cases hi
    rw [Nat.eq_of_beq_eq_true h]
    exact ⟨_, rfl⟩
  · cases hi
    rw [of_decide_eq_true h]
    exact ⟨_, rfl⟩
  · cases h

def blkSz (σ : Heap) (id : Nat) : Option Nat := match σ[id]? with | some (.row _ sz _ _ _) => some sz | _ => none

def indexAddrA (P : Program) (σ : Heap) (t : TypeId) (x i : AV) : Option AV :=
  match P.underlying t with
  | some (.slice e) =>
    match szA P e with
    | some sz =>
      match x with
      | .sl id ep off len =>
        match idxA i len, blkSz σ id with
        | some n, some s => if s == sz then some (.ptr id ep (off + n) 0) else none
        | _, _ => none
      | .ro _ es =>
        match idxA i es.length with
        | some n => match es[n]? with
          | some c => if c.length == sz then some (.rptr c) else none
          | none => none
        | none => none
      | .lsl _ _ _ iv cs => if sameIV iv i && (cs.length == sz) && !cs.isEmpty then some (.wptr cs) else none
      | _ => none
    | none => none
  | some (.array len e) =>
    match szA P e with
    | some sz =>
      match idxA i len with
      | some n =>
        match x with
        | .ptr id ep idx sub => some (.ptr id ep idx (sub + n * sz))
        | .rptr cs => some (.rptr (cs.drop (n * sz)))
        | _ => none
      | none => none
    | none => none
  | _ => none
theorem Rel.locsz (hR : Rel k σ w) {id ep s : Nat} {l : Loc} (hm : k.μ id ep = some l) (hb : blkSz σ id = some s) : l.sz = s := by
  unfold blkSz at hb
  split at hb
  · rename_i ty sz es live next hb'
    injection hb with hb
    have := ((hR.fresh _ _ _ hm).2.2 _ _ _ _ _ hb').2
    omega
  · cases hb
theorem indexAddr_ok (hR : Rel k σ w) {t : TypeId} {x i r : AV} {ux ui : Value} (hx : VRel k x ux) (hi : VRel k i ui) (h : indexAddrA P σ t x i = some r) : Ok P k σ w (Instr.indexAt t ux ui) (r, σ) := by
  unfold indexAddrA at h
  split at h
  · rename_i e hu
    split at h
    · rename_i sz hs
      obtain ⟨inf, hinf, hsz⟩ := szA_spec hs
      split at h
      · rename_i id ep off len
        split at h
        · rename_i n s hn hb
          split at h
          · rename_i hss
            injection h with h; subst h
            obtain ⟨kk, j, rfl, h0, h1, rfl⟩ := idxA_spec hi hn
            cases hx with
            | sl _ _ _ _ l a cap hm hs' hl ha hcap =>
            have hsl : l.sz = sz := by rw [hR.locsz hm hb]; simpa using hss
            have ha' : a = ⟨l.cb, (off - l.s) * l.sz, none⟩ := by rcases ha with ha | ha; omega; exact ha
            subst ha'
            have hp := VRel.ptr (k := k) id ep (off + j.toNat) 0 l hm (by omega)
            refine Ok.same hR ?_ hp
            have e1 : (off + j.toNat - l.s) * l.sz + 0 = (off - l.s) * l.sz + j.toNat * l.sz := by
              rw [show off + j.toNat - l.s = (off - l.s) + j.toNat by omega, Nat.add_mul, Nat.add_zero]
            rw [e1]
            simp [Instr.indexAt, asIntOf, run_underlying hu, h0, h1, run_sizeOf hinf, hsz, add_plain, hsl]
          · cases h
        · cases h
      · rename_i f es
        split at h
        · rename_i n hn
          split at h
          · rename_i c hc
            split at h
            · rename_i hcl
              injection h with h; subst h
              obtain ⟨kk, j, rfl, h0, h1, rfl⟩ := idxA_spec hi hn
              cases hx with
              | ro _ _ _ hp =>
              cases hp with
              | ro _ _ a cap sz' cc ty fz g hs' hH hl hf hz hcell hv =>
              have hsl : sz' = sz := by rw [← hz _ _ hc]; simpa using hcl
              subst hsl
              have hne : es ≠ [] := by intro he; subst he; simp at h1; omega
              refine Ok.same hR (v := .pointer (some ⟨a.block, a.off + j.toNat * sz', none⟩)) ?_ (.rptr c _ _ cc ty fz (g j.toNat) (hH hne) (fun m v hm => ?_) (fun m v hm => hv _ _ _ _ hc hm))
              · have haa : a = ⟨a.block, a.off, none⟩ := by cases a; simp at hs'; subst hs'; rfl
                rw [haa]
                simp [Instr.indexAt, asIntOf, run_underlying hu, h0, h1, run_sizeOf hinf, hsz, add_plain]
              · rw [Nat.add_assoc]; exact hcell _ _ _ _ hc hm
            · cases h
          · cases h
        · cases h
      · rename_i B j n iv cs
        split at h
        · rename_i hcl
          simp only [Bool.and_eq_true, Bool.not_eq_true', beq_iff_eq, List.isEmpty_eq_false_iff] at hcl
          obtain ⟨⟨hiv, hcs⟩, hne⟩ := hcl
          injection h with h; subst h
          obtain ⟨kk, rfl⟩ := sameIV_spec hi hiv
          cases hx with
          | lsl _ _ _ _ _ _ ln g hp hB hl hn hw hc =>
          obtain ⟨a, len, cap, cc, ty, fz, m, rfl, hs', hH, hm, hlt, hget⟩ := hw hne
          rw [hm]
          refine Ok.same hR (v := .pointer (some ⟨a.block, a.off + m * sz, none⟩)) ?_ (.wptr cs _ _ cc ty fz g hH (fun q v hq => ?_) hc)
          · have haa : a = ⟨a.block, a.off, none⟩ := by cases a; simp at hs'; subst hs'; rfl
            rw [haa]
            simp [Instr.indexAt, asIntOf, run_underlying hu, hlt, run_sizeOf hinf, hsz, add_plain]
          · have hq' := (List.getElem?_eq_some_iff.1 hq).1
            rw [Nat.add_assoc, ← hcs]; exact hget q hq'
        · cases h
      · cases h
    · cases h
  · rename_i len e hu
    split at h
    · rename_i sz hs
      obtain ⟨inf, hinf, hsz⟩ := szA_spec hs
      split at h
      · rename_i n hn
        obtain ⟨kk, j, rfl, h0, h1, rfl⟩ := idxA_spec hi hn
        split at h
        · rename_i id ep idx sub
          injection h with h; subst h
          cases hx with
          | ptr _ _ _ _ l hm hs' =>
          refine Ok.same hR ?_ (VRel.ptr (k := k) id ep idx (sub + j.toNat * sz) l hm hs')
          simp [Instr.indexAt, asIntOf, run_underlying hu, h0, h1, run_sizeOf hinf, hsz, add_plain, Instr.sureAddr, Nat.add_assoc]
        · rename_i cs
          injection h with h; subst h
          cases hx with
          | rptr _ b o c ty fz g hH hc hv =>
          refine Ok.same hR (v := .pointer (some ⟨b, o + j.toNat * sz, none⟩)) ?_ (.rptr _ b _ c ty fz (fun m => g (j.toNat * sz + m)) hH (fun m v hm => ?_) (fun m v hm => ?_))
          · simp [Instr.indexAt, asIntOf, run_underlying hu, h0, h1, run_sizeOf hinf, hsz, add_plain, Instr.sureAddr]
          · rw [List.getElem?_drop] at hm; rw [Nat.add_assoc]; exact hc _ v hm
          · rw [List.getElem?_drop] at hm; exact hv _ v hm
        · cases h
      · cases h
    · cases h
  · cases h

/-! ### Parts of values -/
def partA (P : Program) (t : TypeId) (cs : List AV) (off : Nat) : Option AV :=
  match aggA P t with
  | some true => match szA P t with
    | some s => if off + s ≤ cs.length then some (.agg ((cs.drop off).take s)) else none
    | none => none
  | some false => cs[off]?
  | none => none
theorem part_ok (hR : Rel k σ w) {t : TypeId} {cs : List AV} {us : Array Value} (hc : VRels k cs us.toList) {off : Nat} {r : AV} (h : partA P t cs off = some r) : Ok P k σ w (part t us off) (r, σ) := by
  unfold partA at h
  have hl : cs.length = us.size := by simpa using hc.1
  split at h
  · rename_i hag
    split at h
    · rename_i s hs
      obtain ⟨i, hi, hsz⟩ := szA_spec hs
      split at h
      · rename_i hle
        injection h with h; subst h
        refine Ok.same hR (v := .agg (us.extract off (off + s))) (by simp [part, run_isAgg hag, run_sizeOf hi, hsz]) (.agg _ _ (by simp; omega) fun j v u hv hu => ?_)
        rw [List.getElem?_take] at hv
        split at hv
        · rename_i hj
          rw [List.getElem?_drop] at hv
          refine hc.2 (off + j) v u hv ?_
          rw [Array.getElem?_extract] at hu
          split at hu
          · simpa using hu
          · cases hu
        · cases hv
      · cases h
    · cases h
  · rename_i hag
    have hj := (List.getElem?_eq_some_iff.1 h).1
    have hu : us[off]? = some (us[off]'(by omega)) := by simp [show off < us.size by omega]
    exact Ok.same hR (by simp only [part, Sem.run_bind, run_isAgg hag, Result.andThen_ok, hu]; rfl) (hc.2 off r _ h (by simp))
  · cases h

def fieldA (P : Program) (t : TypeId) (x : AV) (f : Nat) : Option AV :=
  match P.underlying t with
  | some (.struct fs) => match fs[f]?, x with
    | some fd, .agg cs => partA P fd.type cs fd.offset
    | _, _ => none
  | _ => none
theorem field_ok (hR : Rel k σ w) {t : TypeId} {x r : AV} {u : Value} {f : Nat} (hx : VRel k x u) (h : fieldA P t x f = some r) : Ok P k σ w (Instr.field t u f) (r, σ) := by
  unfold fieldA at h
  split at h
  · rename_i fs hu
    split at h
    · rename_i fd cs hf
      cases hx with
      | agg _ us hl hc =>
      obtain ⟨k', v, w', hrun, hv, hs⟩ := part_ok (P := P) hR (us := us) ⟨by simpa using hl, fun j v u hv hu => hc j v u hv (by simpa using hu)⟩ h
      exact ⟨k', v, w', by simp [Instr.field, run_underlying hu, hf, asAgg, hrun], hv, hs⟩
    · cases h
  · cases h

def indexA (P : Program) (t : TypeId) (x i : AV) : Option AV :=
  match P.underlying t, x with
  | some .string, .str s => byteA i s
  | some (.array len e), .agg cs => match idxA i len, szA P e with
    | some n, some s => partA P e cs (n * s)
    | _, _ => none
  | _, _ => none
theorem index_ok (hR : Rel k σ w) {t : TypeId} {x i r : AV} {ux ui : Value} (hx : VRel k x ux) (hi : VRel k i ui) (h : indexA P t x i = some r) : Ok P k σ w (Instr.index t ux ui) (r, σ) := by
  unfold indexA at h
  split at h
  · rename_i s hu
    unfold byteA at h
    split at h
    · rename_i kk j
      split at h
      · rename_i b hb
        injection h with h; subst h
        cases hx; cases hi
        have hlt : j < s.size := by
          have := (List.getElem?_eq_some_iff.1 hb).1
          simpa using this
        refine Ok.same hR (v := .int .u8 b.toNat) ?_ (.int _ _)
        have hg : s[j]? = some b := by
          rw [getElem?_pos s j hlt]
          obtain ⟨h1, h2⟩ := List.getElem?_eq_some_iff.1 hb
          rw [← h2]; rfl
        simp [Instr.index, asIntOf, run_underlying hu, hg]
      · cases h
    · cases h
  · rename_i len e cs hu
    split at h
    · rename_i n s hn hs
      obtain ⟨kk, j, rfl, h0, h1, rfl⟩ := idxA_spec hi hn
      obtain ⟨inf, hinf, hsz⟩ := szA_spec hs
      cases hx with
      | agg _ us hl hc =>
      obtain ⟨k', v, w', hrun, hv, hs⟩ := part_ok (P := P) hR (us := us) ⟨by simpa using hl, fun j v u hv hu => hc j v u hv (by simpa using hu)⟩ h
      exact ⟨k', v, w', by simp [Instr.index, asIntOf, run_underlying hu, h0, h1, run_sizeOf hinf, hsz, hrun], hv, hs⟩
    · cases h
  · cases h

def extractA (x : AV) (i : Nat) : Option AV := match x with | .tup vs => vs[i]? | _ => none
theorem extract_ok (hR : Rel k σ w) {x r : AV} {u : Value} {i : Nat} (hx : VRel k x u) (h : extractA x i = some r) : Ok P k σ w (Instr.extract u i) (r, σ) := by
  unfold extractA at h
  split at h
  · cases hx with
    | tup _ us hl hc =>
    have hj := (List.getElem?_eq_some_iff.1 h).1
    have hu : us[i]? = some (us[i]'(by omega)) := by simp [show i < us.size by omega]
    exact Ok.same hR (by simp only [Instr.extract, hu]; rfl) (hc i r _ h hu)
  · cases h
end
end Go.Dx
