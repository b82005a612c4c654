/- make, copy, slices of slices, literals. -/
import Derived.Test.YtnglipioaippoaaEy7
namespace Go.Dx
variable {V : Nm → Prop}
section
variable {P : Program} {k : Kn V} {σ : Heap} {w : World}

/-! ### len -/
def lenA (P : Program) (t : TypeId) (x : AV) : Option AV :=
  match P.underlying t, x with
  | some .string, .str s => some (.int .i64 s.size)
  | some (.array n _), _ => some (.int .i64 n)
  | some (.slice _), .sl _ _ _ n => some (.int .i64 n)
  | some (.slice _), .ro _ es => some (.int .i64 es.length)
  | some (.slice _), .nils => some (.int .i64 0)
  | some (.slice _), .emp => some (.int .i64 0)
  | some (.slice _), .osl B j => some (.tok B .i64 j)
  | some (.slice _), .lsl B _ n _ _ => some (.tok B .i64 n)
  | some .string, .stk _ B _ l => some (.tok B .i64 l)
  | some (.slice _), .lsq _ B _ n => some (.tok B .i64 n)
  | _, _ => none
theorem len_ok (hR : Rel k σ w) {t ty : TypeId} {x r : AV} {u : Value} (hx : VRel k x u) (h : lenA P t x = some r) : Ok P k σ w (Builtin.len_ #[t] ty #[u]) (r, σ) := by
  unfold lenA at h
  split at h
  · rename_i s hu
    injection h with h; subst h; cases hx
    exact Ok.same hR (v := .int .i64 s.size) (by simp [Builtin.len_, run_underlying hu, goInt]) (.int _ _)
  · rename_i n e hu
    injection h with h; subst h
    exact Ok.same hR (v := .int .i64 (n : Nat)) (by simp [Builtin.len_, run_underlying hu, goInt]) (.int _ _)
  · rename_i hu
    injection h with h; subst h; cases hx
    exact Ok.same hR (by simp [Builtin.len_, run_underlying hu, goInt]) (.int _ _)
  · rename_i hu
    injection h with h; subst h
    cases hx with
    | ro _ _ _ hp =>
    cases hp
    exact Ok.same hR (by simp [Builtin.len_, run_underlying hu, goInt]) (.int _ _)
  · rename_i hu
    injection h with h; subst h; cases hx
    exact Ok.same hR (by simp [Builtin.len_, run_underlying hu, goInt]) (.int _ _)
  · rename_i hu
    injection h with h; subst h; cases hx
    exact Ok.same hR (by simp [Builtin.len_, run_underlying hu, goInt]) (.int _ _)
  · rename_i B j hu
    injection h with h; subst h
    cases hx with
    | osl _ _ a len cap hB hl =>
      exact Ok.same hR (v := .int .i64 (len : Nat)) (by simp [Builtin.len_, run_underlying hu, goInt]) (by rw [hl]; exact .tok B .i64 j hB)
  · rename_i B j n iv cs hu
    injection h with h; subst h
    cases hx with
    | lsl _ _ _ _ _ _ ln g hp hB hl hn hw hc =>
      refine Ok.same hR (v := .int .i64 (ln : Nat)) ?_ (by rw [hn]; exact .tok B .i64 n hB)
      generalize k.val.p j = p at *
      cases hp <;> cases hl <;> simp [Builtin.len_, run_underlying hu, goInt]
  · rename_i E B j l hu
    injection h with h; subst h
    cases hx with
    | stk _ _ _ _ s hp hE hB hl =>
      exact Ok.same hR (v := .int .i64 s.size) (by simp [Builtin.len_, run_underlying hu, goInt]) (by rw [hl]; exact .tok B .i64 l hB)
  · rename_i T B j n hu
    injection h with h; subst h
    cases hx with
    | lsq _ _ _ _ _ ln hp hB hT hl hn =>
      refine Ok.same hR (v := .int .i64 (ln : Nat)) ?_ (by rw [hn]; exact .tok B .i64 n hB)
      generalize k.val.p j = p at *
      cases hp <;> cases hl <;> simp [Builtin.len_, run_underlying hu, goInt]
  · cases h

/-! ### Slices of strings and slices -/
def boundA (x : Option AV) (d lo hi : Nat) : Option Nat :=
  match x with
  | none => some d
  | some (.int _ (.ofNat j)) => cond (Nat.ble lo j && Nat.ble j hi) (some j) none
  | _ => none

def sliceS (σ : Heap) (s' : Nat) (x : AV) (lo hi : Option AV) : Option AV :=
  match x with
  | .nils => match boundA hi 0 0 0, boundA lo 0 0 0 with
    | some _, some _ => some .nils
    | _, _ => none
  | .emp => match boundA hi 0 0 0, boundA lo 0 0 0 with
    | some _, some _ => some .emp
    | _, _ => none
  | .sl id ep off len => match boundA hi len 0 len, blkSz σ id with
    | some h, some s => match boundA lo 0 0 h with
      | some l => if s == s' then some (.sl id ep (off + l) (h - l)) else none
      | none => none
    | _, _ => none
  | .ro full es => match boundA hi es.length 0 es.length with
    | some h => match boundA lo 0 0 h with
      | some l => if es.all (·.length == s') then some (.ro (full && h == es.length) ((es.take h).drop l)) else none
      | none => none
    | none => none
  | _ => none
def sliceN (x : AV) (lo hi mx : Option AV) : Option AV :=
  match boundA mx 0 0 0, boundA hi 0 0 0, boundA lo 0 0 0, hi with
  | some _, some _, some _, some _ => match x with
    | .nils => some .nils
    | .emp => some .emp
    | .sl _ _ _ _ => some .emp
    | .ro _ _ => some .emp
    | _ => none
  | _, _, _, _ => none
/-- A part of a text. -/
def partS (s : ByteArray) (l h : Nat) : ByteArray := ⟨((s.data.toList.drop l).take (h - l)).toArray⟩
theorem partS_eq (s : ByteArray) (l h : Nat) : partS s l h = s.extract l h := by
  apply ByteArray.ext
  apply Array.ext'
  simp [partS, ByteArray.data_extract]
def sliceA0 (P : Program) (σ : Heap) (t : TypeId) (x : AV) (lo hi mx : Option AV) : Option AV :=
  match P.underlying t with
  | some .string => match x, mx with
    | .str s, none => match boundA hi s.size 0 s.size with
      | some h => match boundA lo 0 0 h with
        | some l => some (.str (partS s l h))
        | none => none
      | none => none
    | _, _ => none
  | some (.slice e) => match szA P e with
    | some s => match mx with
      | none => sliceS σ s x lo hi
      | some _ => sliceN x lo hi mx
    | none => none
  | _ => none

theorem bound_spec {x : Option AV} {u : Option Value} {d lo hi n : Nat} (hx : ∀ v, x = some v → ∃ y, u = some y ∧ VRel k v y) (hn : x = none → u = none) (h : boundA x d lo hi = some n) :
    (u = none ∧ n = d) ∨ ∃ kk j, u = some (.int kk j) ∧ (lo : Int) ≤ j ∧ j ≤ hi ∧ j.toNat = n := by
  unfold boundA at h
  split at h
  · injection h with h; exact .inl ⟨hn rfl, h.symm⟩
  · rename_i kk j
    cases hb : (Nat.ble lo j && Nat.ble j hi) with
    | true =>
      rw [hb] at h
      injection h with h; subst h
      obtain ⟨y, hy, hr⟩ := hx _ rfl
      cases hr
      simp only [Bool.and_eq_true] at hb
      have h1 := Nat.le_of_ble_eq_true hb.1
      have h2 := Nat.le_of_ble_eq_true hb.2
      exact .inr ⟨_, _, hy, by simp only [Int.ofNat_eq_natCast]; omega, by simp only [Int.ofNat_eq_natCast]; omega, by simp⟩
    | false => rw [hb] at h; cases h
  · cases h

/-- What stands at an optional operand. -/
structure VRelO (k : Kn V) (x : Option AV) (u : Option Value) : Prop where
  some : ∀ v, x = some v → ∃ y, u = .some y ∧ VRel k v y
  none : x = none → u = none

theorem run_bounds {P : Program} {w : World} {b : Bool} {len cap l h : Nat} {lo hi : Option Value} (hhi : (hi = none ∧ h = len) ∨ ∃ kk j, hi = some (.int kk j) ∧ 0 ≤ j ∧ j ≤ cap ∧ j.toNat = h)
    (hlo : (lo = none ∧ l = 0) ∨ ∃ kk j, lo = some (.int kk j) ∧ 0 ≤ j ∧ j ≤ h ∧ j.toNat = l) : (Instr.sliceBounds b len cap lo hi none).run P w = .ok (l, h, cap) w := by
  rcases hhi with ⟨rfl, rfl⟩ | ⟨kk, j, rfl, h0, h1, rfl⟩ <;> rcases hlo with ⟨rfl, rfl⟩ | ⟨kk', j', rfl, h2, h3, rfl⟩
  · simp [Instr.sliceBounds]
  · simp [Instr.sliceBounds, Instr.sliceBound, asIntOf, h2, h3]
  · simp [Instr.sliceBounds, Instr.sliceBound, asIntOf, h0, h1]
  · have h3' : j' ≤ ((j.toNat : Nat) : Int) := h3
    rw [Int.toNat_of_nonneg h0] at h3'
    simp [Instr.sliceBounds, Instr.sliceBound, asIntOf, h0, h1, h2, Int.toNat_of_nonneg h0, h3']

theorem run_bounds3 {P : Program} {w : World} {len cap : Nat} {lo : Option Value} {hi mx : Value} (hmx : ∃ kk j, mx = .int kk j ∧ 0 ≤ j ∧ j ≤ 0) (hhi : ∃ kk j, hi = .int kk j ∧ 0 ≤ j ∧ j ≤ 0)
    (hlo : lo = none ∨ ∃ kk j, lo = some (.int kk j) ∧ 0 ≤ j ∧ j ≤ 0) : (Instr.sliceBounds true len cap lo (some hi) (some mx)).run P w = .ok (0, 0, 0) w := by
  obtain ⟨k1, j1, rfl, a1, a2⟩ := hmx
  obtain ⟨k2, j2, rfl, b1, b2⟩ := hhi
  obtain rfl : j1 = 0 := by omega
  obtain rfl : j2 = 0 := by omega
  rcases hlo with rfl | ⟨k3, j3, rfl, c1, c2⟩
  · simp [Instr.sliceBounds, Instr.sliceBound, asIntOf]
  · obtain rfl : j3 = 0 := by omega
    simp [Instr.sliceBounds, Instr.sliceBound, asIntOf]

theorem bound0 {x : AV} {u : Value} {n : Nat} (hx : VRel k x u) (h : boundA (some x) 0 0 0 = some n) : ∃ kk j, u = .int kk j ∧ 0 ≤ j ∧ j ≤ 0 := by
  rcases bound_spec (k := k) (u := some u) (fun v hv => ⟨u, rfl, by injection hv with hv; subst hv; exact hx⟩) (fun h => by cases h) h with ⟨h1, _⟩ | ⟨kk, j, h1, h2, h3, _⟩
  · cases h1
  · injection h1 with h1; exact ⟨kk, j, h1, by simpa using h2, by simpa using h3⟩
theorem bound0o {x : Option AV} {u : Option Value} {n : Nat} (hx : VRelO k x u) (h : boundA x 0 0 0 = some n) : u = none ∨ ∃ kk j, u = some (.int kk j) ∧ 0 ≤ j ∧ j ≤ 0 := by
  rcases bound_spec hx.some hx.none h with ⟨h1, _⟩ | ⟨kk, j, h1, h2, h3, _⟩
  · exact .inl h1
  · exact .inr ⟨kk, j, h1, by simpa using h2, by simpa using h3⟩

theorem slice_ok0 (hR : Rel k σ w) {t : TypeId} {x r : AV} {lo hi mx : Option AV} {u : Value} {ulo uhi umx : Option Value} (hx : VRel k x u) (hlo : VRelO k lo ulo) (hhi : VRelO k hi uhi) (hmx : VRelO k mx umx)
    (h : sliceA0 P σ t x lo hi mx = some r) : Ok P k σ w (Instr.sliceAt t u ulo uhi umx) (r, σ) := by
  unfold sliceA0 at h
  split at h
  · rename_i hu
    split at h
    · rename_i s
      split at h
      · rename_i hh hb1
        split at h
        · rename_i l hb2
          injection h with h; subst h
          cases hx
          obtain rfl := hmx.none rfl
          have h1 := bound_spec hhi.some hhi.none hb1
          have h2 := bound_spec hlo.some hlo.none hb2
          have hrun := run_bounds (P := P) (w := w) (b := false) (len := s.size) (cap := s.size) (by simpa using h1) (by simpa using h2)
          rw [partS_eq]; exact Ok.same hR (v := .string (s.extract l hh)) (by simp [Instr.sliceAt, Instr.slice, run_underlying hu, hrun]) (.str _)
        · cases h
      · cases h
    · cases h
  · rename_i e hu
    split at h
    · rename_i sz hs
      obtain ⟨inf, hinf, hsz⟩ := szA_spec hs
      split at h
      · obtain rfl := hmx.none rfl
        unfold sliceS at h
        split at h
        · split at h
          · rename_i hb1 hb2
            injection h with h; subst h
            cases hx
            have h1 := bound0o hhi hb1
            have h2 := bound0o hlo hb2
            have hrun := run_bounds (P := P) (w := w) (b := true) (len := 0) (cap := 0) (l := 0) (h := 0) (lo := ulo) (hi := uhi)
              (by rcases h1 with h1 | ⟨kk, j, h1, h3, h4⟩; exact .inl ⟨h1, rfl⟩; exact .inr ⟨kk, j, h1, h3, by omega, by omega⟩) (by rcases h2 with h1 | ⟨kk, j, h1, h3, h4⟩; exact .inl ⟨h1, rfl⟩; exact .inr ⟨kk, j, h1, h3, by omega, by omega⟩)
            exact Ok.same hR (v := .slice none 0 0) (by simp [Instr.sliceAt, Instr.slice, run_underlying hu, hrun, run_sizeOf hinf]) .nils
          · cases h
        · split at h
          · rename_i hb1 hb2
            injection h with h; subst h
            cases hx with
            | emp a =>
            have h1 := bound0o hhi hb1
            have h2 := bound0o hlo hb2
            have hrun := run_bounds (P := P) (w := w) (b := true) (len := 0) (cap := 0) (l := 0) (h := 0) (lo := ulo) (hi := uhi)
              (by rcases h1 with h1 | ⟨kk, j, h1, h3, h4⟩; exact .inl ⟨h1, rfl⟩; exact .inr ⟨kk, j, h1, h3, by omega, by omega⟩) (by rcases h2 with h1 | ⟨kk, j, h1, h3, h4⟩; exact .inl ⟨h1, rfl⟩; exact .inr ⟨kk, j, h1, h3, by omega, by omega⟩)
            exact Ok.same hR (v := .slice (some a) 0 0) (by simp [Instr.sliceAt, Instr.slice, run_underlying hu, hrun, run_sizeOf hinf]) (.emp a)
          · cases h
        · rename_i id ep off len
          split at h
          · rename_i hh s' hb1 hbs
            split at h
            · rename_i l hb2
              split at h
              · rename_i hss
                injection h with h; subst h
                have hse : s' = sz := by simpa using hss
                subst hse
                cases hx with
                | sl _ _ _ _ lc a cap hm hls hl ha hn =>
                have hlz := hR.locsz hm hbs
                have h1 := bound_spec hhi.some hhi.none hb1
                have h2 := bound_spec hlo.some hlo.none hb2
                have hhl : hh ≤ len := by rcases h1 with ⟨_, h1⟩ | ⟨kk, j, _, h3, h4, h5⟩; omega; omega
                have hll : l ≤ hh := by rcases h2 with ⟨_, h2⟩ | ⟨kk, j, _, h3, h4, h5⟩; omega; omega
                have hrun := run_bounds (P := P) (w := w) (b := true) (len := len) (cap := cap) (by rcases h1 with ⟨h1, h3⟩ | ⟨kk, j, h1, h3, h4, h5⟩; exact .inl ⟨h1, h3⟩; exact .inr ⟨kk, j, h1, by omega, by omega, h5⟩) (by simpa using h2)
                refine Ok.same hR (v := .slice (some (if cap = l then a else a.add (l * s'))) (hh - l) (cap - l)) ?_ (.sl id ep (off + l) (hh - l) lc _ (cap - l) hm (by omega) (by omega) ?_ ?_)
                · simp only [Instr.sliceAt, Instr.slice, Sem.run_bind, run_underlying hu, hrun, run_sizeOf hinf, hsz, Result.andThen_ok]
                  by_cases hc : cap = l
                  · simp [hc]
                  · simp [hc]
                · by_cases hc : cap = l
                  · left
                    refine ⟨by omega, ?_⟩
                    rw [if_pos hc]
                    rcases ha with ha | ha
                    · exact ha.2
                    · rw [ha]
                  · right
                    rw [if_neg hc]
                    have haa : a = ⟨lc.cb, (off - lc.s) * lc.sz, none⟩ := by rcases ha with ha | ha; omega; exact ha
                    rw [haa, add_plain, hlz]
                    congr 1
                    rw [show off + l - lc.s = (off - lc.s) + l by omega, Nat.add_mul]
                · rw [show off + l - lc.s + (cap - l) = off - lc.s + cap by omega]
                  exact hn
              · cases h
            · cases h
          · cases h
        · rename_i full es
          split at h
          · rename_i hh hb1
            split at h
            · rename_i l hb2
              split at h
              · rename_i hall
                injection h with h; subst h
                simp only [List.all_eq_true, beq_iff_eq] at hall
                cases hx with
                | ro _ _ _ hp =>
                cases hp with
                | ro _ _ a cap sz' c ty fz f hsp hH hl hf hz hc hv =>
                have h1 := bound_spec hhi.some hhi.none hb1
                have h2 := bound_spec hlo.some hlo.none hb2
                have hhl : hh ≤ es.length := by rcases h1 with ⟨_, h1⟩ | ⟨kk, j, _, h3, h4, h5⟩; omega; omega
                have hll : l ≤ hh := by rcases h2 with ⟨_, h2⟩ | ⟨kk, j, _, h3, h4, h5⟩; omega; omega
                have hrun := run_bounds (P := P) (w := w) (b := true) (len := es.length) (cap := cap) (by rcases h1 with ⟨h1, h3⟩ | ⟨kk, j, h1, h3, h4, h5⟩; exact .inl ⟨h1, h3⟩; exact .inr ⟨kk, j, h1, by omega, by omega, h5⟩) (by simpa using h2)
                have hlen : ((es.take hh).drop l).length = hh - l := by simp; omega
                have hget : ∀ {i : Nat} {e : List PV}, ((es.take hh).drop l)[i]? = some e → es[l + i]? = some e := by
                  intro i e he
                  rw [List.getElem?_drop, List.getElem?_take] at he
                  split at he
                  · exact he
                  · cases he
                have hspot : a = ⟨a.block, a.off, none⟩ := by cases a; simp at hsp; subst hsp; rfl
                have hpr : PRel k.H (.ro (full && hh == es.length) ((es.take hh).drop l)) (.slice (some (if cap = l then a else a.add (l * sz))) ((es.take hh).drop l).length (cap - l)) := by
                  by_cases hcl : cap = l
                  · have hnil : (es.take hh).drop l = [] := List.eq_nil_of_length_eq_zero (by omega)
                    rw [if_pos hcl, hnil]
                    exact .ro _ [] a _ sz c ty fz f hsp (fun h => absurd rfl h) (by simp) (fun _ => by simp; omega) (fun i e he => by simp at he) (fun i e j v he => by simp at he) (fun i e j v he => by simp at he)
                  · rw [if_neg hcl]
                    have hadd : a.add (l * sz) = ⟨a.block, a.off + l * sz, none⟩ := by rw [hspot, add_plain]
                    rw [hadd]
                    refine .ro _ _ _ _ sz c ty fz (fun i j => f (l + i) j) rfl (fun hne => hH fun h => hne (by simp [h])) (by rw [hlen]; omega) (fun hff => ?_) (fun i e he => hall e (List.mem_of_getElem? (hget he))) (fun i e j v he hv' => ?_) (fun i e j v he hv' => hv _ e j v (hget he) hv')
                    · simp only [Bool.and_eq_true, beq_iff_eq] at hff
                      have := hf hff.1
                      rw [hlen]; omega
                    · have hsz2 : sz' = sz := by
                        have q1 := hz _ e (hget he)
                        have q2 := hall e (List.mem_of_getElem? (hget he))
                        omega
                      subst hsz2
                      have := hc _ e j v (hget he) hv'
                      rw [← this]
                      congr 1
                      rw [Nat.add_mul]
                      simp only
                      omega
                refine Ok.same hR ?_ (.ro _ _ _ hpr)
                simp only [Instr.sliceAt, Instr.slice, Sem.run_bind, run_underlying hu, hrun, run_sizeOf hinf, hsz, Result.andThen_ok, hlen]
                by_cases hc : cap = l
                · simp [hc]
                · simp [hc]
              · cases h
            · cases h
          · cases h
        · cases h
      · rename_i m
        unfold sliceN at h
        split at h
        · rename_i nm nh nl hh hb1 hb3 hb2
          obtain ⟨um, rfl, hrm⟩ := hmx.some m rfl
          obtain ⟨uh, rfl, hrh⟩ := hhi.some _ rfl
          have hb := fun (n c : Nat) => run_bounds3 (P := P) (w := w) (len := n) (cap := c) (lo := ulo) (bound0 hrm hb1) (bound0 hrh hb2) (bound0o hlo hb3)
          have hrun : ∀ (a : Option Addr) (n c : Nat), (Instr.sliceAt t (.slice a n c) ulo (some uh) (some um)).run P w = .ok (.slice a 0 0) w := fun a n c => by
            simp [Instr.sliceAt, Instr.slice, run_underlying hu, hb n c, run_sizeOf hinf]
          split at h
          · injection h with h; subst h
            cases hx
            exact Ok.same hR (hrun _ _ _) .nils
          · injection h with h; subst h
            cases hx
            exact Ok.same hR (hrun _ _ _) (.emp _)
          · injection h with h; subst h
            cases hx
            exact Ok.same hR (hrun _ _ _) (.emp _)
          · injection h with h; subst h
            cases hx with
            | ro _ _ _ hp =>
            cases hp
            exact Ok.same hR (hrun _ _ _) (.emp _)
          · cases h
        · cases h
    · cases h
  · cases h
/-- A beginning that is told. -/
def begA (B : List Fact) (j : Nat) (x : AV) : List (Nat × IV × Nat × Nat) → Option AV
  | [] => none
  | (a, iv, b, n) :: r => if Nat.beq a j && sameIV iv x then some (.lsl B b n (.lit 0) []) else begA B j x r
theorem begA_some {B : List Fact} {j : Nat} {x r : AV} : ∀ {T : List (Nat × IV × Nat × Nat)}, begA B j x T = some r → ∃ iv b n, (j, iv, b, n) ∈ T ∧ sameIV iv x = true ∧ r = .lsl B b n (.lit 0) []
  | [], h => by cases h
  | (a, iv, b, n) :: T, h => by
    simp only [begA] at h
    split at h
    · rename_i hc
      simp only [Bool.and_eq_true] at hc
      injection h with h
      rw [Nat.eq_of_beq_eq_true hc.1]
      exact ⟨iv, b, n, List.mem_cons_self, hc.2, h.symm⟩
    · obtain ⟨iv', b', n', h1, h2⟩ := begA_some h
      exact ⟨iv', b', n', List.mem_cons_of_mem _ h1, h2⟩
def sliceA (P : Program) (σ : Heap) (t : TypeId) (x : AV) (lo hi mx : Option AV) : Option AV :=
  match x with
  | .lsq T B j _ => match P.underlying t, lo, mx, hi with
    | some (.slice e), none, none, some y => match szA P e with
      | some 1 => begA B j y T
      | _ => none
    | _, _, _, _ => none
  | x => sliceA0 P σ t x lo hi mx
theorem slice_ok (hR : Rel k σ w) {t : TypeId} {x r : AV} {lo hi mx : Option AV} {u : Value} {ulo uhi umx : Option Value} (hx : VRel k x u) (hlo : VRelO k lo ulo) (hhi : VRelO k hi uhi) (hmx : VRelO k mx umx)
    (h : sliceA P σ t x lo hi mx = some r) : Ok P k σ w (Instr.sliceAt t u ulo uhi umx) (r, σ) := by
  unfold sliceA at h
  split at h
  · rename_i T B j n
    split at h
    · rename_i e y hu
      split at h
      · rename_i hsz
        obtain ⟨iv, b, nn, hmem, hiv, rfl⟩ := begA_some h
        cases hx with
        | lsq _ _ _ _ _ ln hp hB hT hl hn =>
        obtain ⟨m, hm1, hm2, hm3⟩ := hT _ hmem
        obtain ⟨uy, rfl, hy⟩ := hhi.1 y rfl
        obtain ⟨kk, rfl⟩ := sameIV_spec hy hiv
        have hm1 : iv.val k.val = (m : Nat) := hm1
        have hm2 : takeP (k.val.p j) m = some (k.val.p b) := hm2
        have hm3 : k.val nn = (m : Int) := hm3
        rw [hm1]
        -- the plain slice
        have key : ∀ p q : PV, takeP p m = some q → sliceA0 P σ t (up p) none (some (.int kk (m : Nat))) none = some (up q) ∧ lenP q = some m := by
          intro p q hpq
          cases p with
          | nils => cases m <;> simp [takeP] at hpq; subst hpq; exact ⟨by simp only [sliceA0, hu, hsz]; rfl, rfl⟩
          | emp => cases m <;> simp [takeP] at hpq; subst hpq; exact ⟨by simp only [sliceA0, hu, hsz]; rfl, rfl⟩
          | ro f es =>
            simp only [takeP] at hpq
            split at hpq
            · rename_i hc
              injection hpq with hpq; subst hpq
              refine ⟨?_, by simp [lenP]; omega⟩
              have hble : (Nat.ble 0 m && Nat.ble m es.length) = true := by simp [Nat.ble_eq, hc.1]
              have hall : es.all (·.length == 1) = true := List.all_eq_true.2 fun e he => by simp [hc.2 e he]
              have h1 : boundA (some (AV.int kk ((m : Nat) : Int))) es.length 0 es.length = some m := by
                show cond (Nat.ble 0 m && Nat.ble m es.length) (some m) none = some m
                rw [hble]; rfl
              have h2 : boundA none 0 0 m = some 0 := rfl
              simp only [sliceA0, hu, hsz, up, sliceS, h1, h2, hall, if_true, List.drop_zero]
            · cases hpq
          | _ => simp [takeP] at hpq
        obtain ⟨h1, h2⟩ := key _ _ hm2
        obtain ⟨k', v, w', hrun, hv, hst⟩ := slice_ok0 (P := P) hR (VRel.of_up hp) hlo (show VRelO k (some (.int kk (m : Nat))) _ from ⟨fun v hv => ⟨_, rfl, by injection hv with hv; subst hv; exact .int _ _⟩, fun h => by cases h⟩) hmx h1
        have hpr : PRel k'.H (k'.val.p b) v := by
          rw [hst.le.val]
          generalize k.val.p b = q at *
          cases q <;> cases h2
          · cases hv; exact .nils
          · cases hv; exact .emp _
          · cases hv with | ro _ _ _ h => exact h
        exact ⟨k', v, w', hrun, .lsl B b nn (.lit 0) [] v m (fun _ => undef) hpr (by rw [hst.le.val]; exact hB) (by rw [hst.le.val]; exact h2) (by rw [hst.le.val]; exact hm3.symm) (fun h => absurd rfl h) (fun q c hq => by simp at hq), hst⟩
      · cases h
    · cases h
  · exact slice_ok0 hR hx hlo hhi hmx h
end
end Go.Dx
