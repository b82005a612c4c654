/- The two functions that compare data: the loop, the call, the induction over the data. -/
import Derived.Test.YtkiicnfpogdmgaaDoorSa2
import Derived.Test.YtkiicnfpogdmgaaDoorOpA
namespace Go.Proofs.YtkiicnfpogdmgaaDoor.T.Same
open Go.Dx Go.Proofs

theorem mixed : Tryd.prog.follows .mixedOrders = true := by kernel_rfl
theorem wrap_in (n : Int) (h : -9223372036854775808 ≤ n ∧ n ≤ 9223372036854775807) : IntKind.wrap .i64 n = n := by
  have hb : (2 : Int) ^ IntKind.bits .i64 = 18446744073709551616 := rfl
  have hb1 : (2 : Int) ^ (IntKind.bits .i64 - 1) = 9223372036854775808 := rfl
  have hs : IntKind.signed .i64 = true := rfl
  unfold IntKind.wrap
  simp only [hb, hb1, hs, Bool.true_and, decide_eq_true_eq, ge_iff_le]
  split <;> omega

/-- A datum. -/
structure IsD (pa : List PV) (k n : Int) (s : ByteArray) (l : PV) (len : Nat) : Prop where
  eq : pa = pD k n s l
  hlen : lenP l = some len
  top : len ≤ maxLen

/-- The call is known. -/
def Ct (f : FuncId) (pa pb : List PV) (r : Bool) : Prop := ∀ (V : Nm → Prop) (σ : Heap), CallIn V Tryd.prog f [.agg (pa.map up), .agg (pb.map up)] σ (.bool r, σ)

section
variable {f : FuncId} {i : FnI} {c : Code} {pE : Int → Int → Env} {tE : List Fact → AV → Env}
variable {pa pb : List PV} {ka na kb nb : Int} {sa sb : ByteArray} {la lb : PV} {ln lm : Nat}

/-- What the names of two data mean. -/
def nm0 (ka na kb nb : Int) (sa sb : ByteArray) (la lb : PV) (ln lm : Nat) (j : Int) : Nm := nm [ka, kb, na, nb, ln, lm, j, j + 1, sa.size, sb.size] [.str sa, .str sb, la, lb]

theorem upA {j : Int} (ha : IsD pa ka na sa la ln) {E : List (Nat × Option Nat × Bool)} {B : List Fact} (hB : Valid (nm0 ka na kb nb sa sb la lb ln lm j) B) (hE : ValidT (nm0 ka na kb nb sa sb la lb ln lm j).p E) :
    All2 (fun p c => Up (nm0 ka na kb nb sa sb la lb ln lm j) (up p) c) pa (dA E B) := by
  rw [ha.eq]
  exact upD hB hE ha.hlen rfl rfl rfl rfl rfl rfl
theorem upB {j : Int} (hb : IsD pb kb nb sb lb lm) {E : List (Nat × Option Nat × Bool)} {B : List Fact} (hB : Valid (nm0 ka na kb nb sa sb la lb ln lm j) B) (hE : ValidT (nm0 ka na kb nb sa sb la lb ln lm j).p E) :
    All2 (fun p c => Up (nm0 ka na kb nb sa sb la lb ln lm j) (up p) c) pb (dB E B) := by
  rw [hb.eq]
  exact upD hB hE hb.hlen rfl rfl rfl rfl rfl rfl
theorem upM {j : Int} (ha : IsD pa ka na sa la ln) (hb : IsD pb kb nb sb lb lm) {E : List (Nat × Option Nat × Bool)} {B : List Fact} (hB : Valid (nm0 ka na kb nb sa sb la lb ln lm j) B) (hE : ValidT (nm0 ka na kb nb sa sb la lb ln lm j).p E) :
    All2 (BT (Up (nm0 ka na kb nb sa sb la lb ln lm j))) (memP pa pb) (memD E B) := by
  exact upMem (upA ha hB hE) (upB hb hB hE) rfl rfl
theorem downM {j : Int} (ha : IsD pa ka na sa la ln) (hb : IsD pb kb nb sb lb lm) {E : List (Nat × Option Nat × Bool)} {B : List Fact} :
    All2 (BD (Down (nm0 ka na kb nb sa sb la lb ln lm j))) (memD E B) (memP pa pb) := by
  rw [ha.eq, hb.eq]
  exact downMem (downD rfl rfl rfl rfl) (downD rfl rfl rfl rfl)
theorem e23_up {v : Nm} : ET (Up v) e23 e23 := .cons ⟨rfl, Up.same rfl⟩ (.cons ⟨rfl, Up.same rfl⟩ .nil)
theorem e23_down {v : Nm} : ET (Down v) e23 e23 := .cons ⟨rfl, Down.same rfl⟩ (.cons ⟨rfl, Down.same rfl⟩ .nil)
theorem e4_down {v : Nm} {b : Bool} : ET (Down v) [(4, .bool b)] [(4, .bool b)] := .cons ⟨rfl, Down.same rfl⟩ .nil
theorem nil_valid {v : Nm} : Valid v [] := fun f hf => by simp at hf
theorem nil_validT {p : Nat → PV} : ValidT p [] := fun f hf => by simp at hf

theorem goes1 (S : Sm f i c pE tE) (ha : IsD pa ka na sa la ln) (hb : IsD pb kb nb sb lb lm) : Goes Tryd.prog i.fn.ntmps (pre1 c) (initE 0 [.agg (pa.map up), .agg (pb.map up)]) [] .nrm e23 (memP pa pb) := by
  have h0 := nil_valid (v := nm0 ka na kb nb sa sb la lb ln lm 0)
  have h0' := nil_validT (p := (nm0 ka na kb nb sa sb la lb ln lm 0).p)
  refine goes_run tab_ok mixed (v := nm0 ka na kb nb sa sb la lb ln lm 0) (fun x hx => by simp at hx) S.r1 ?_ .nil e23_down (downM ha hb)
  exact .cons ⟨rfl, Up.agg (upA ha h0 h0').map⟩ (.cons ⟨rfl, Up.agg (upB hb h0 h0').map⟩ .nil)
theorem goes3 (S : Sm f i c pE tE) (ha : IsD pa ka na sa la ln) (hb : IsD pb kb nb sb lb lm) : Goes Tryd.prog i.fn.ntmps (pre3 c) e23 (memP pa pb) .nrm (pE ln 0) (memP pa pb) :=
  goes_run tab_ok mixed (v := nm0 ka na kb nb sa sb la lb ln lm 0) (fun x hx => by simp at hx) S.r3 e23_up (upM ha hb nil_valid nil_validT) (S.down rfl (Down.same rfl)) (downM ha hb)
theorem goesE (S : Sm f i c pE tE) {E : List (Nat × Option Nat × Bool)} {B : List Fact} {x : AX} {e : Env} (ha : IsD pa ka na sa la ln) (hb : IsD pb kb nb sb lb lm) (hB : Valid (nm0 ka na kb nb sa sb la lb ln lm 0) B) (hE : ValidT (nm0 ka na kb nb sa sb la lb ln lm 0).p E)
    {live : List Nat} (hr : run i [] live (pre2 c) e23 (memD E B) = some (x, e, memD E B)) (he : ET (Down (nm0 ka na kb nb sa sb la lb ln lm 0)) e e) {M' : Heap} (hM : M' = memP pa pb ∨ M' = [.hole, .hole]) : Goes Tryd.prog i.fn.ntmps (pre2 c) e23 (memP pa pb) x e M' :=
  goes_run tab_ok mixed (v := nm0 ka na kb nb sa sb la lb ln lm 0) (fun x hx => by simp at hx) hr e23_up (upM ha hb hB hE) he (by rcases hM with rfl | rfl; exact downM ha hb; exact dropMem)
theorem goesL (S : Sm f i c pE tE) : Goes Tryd.prog i.fn.ntmps (post c) [] [.hole, .hole] .ret [(4, .bool true)] [.hole, .hole] :=
  goes_run tab_ok mixed (v := nm [] []) (fun x hx => by simp at hx) S.last .nil (.cons .hole (.cons .hole .nil)) e4_down dropMem

/-- A function that ends ahead of its loop. -/
theorem early (S : Sm f i c pE tE) (ha : IsD pa ka na sa la ln) (hb : IsD pb kb nb sb lb lm) (h : Goes Tryd.prog i.fn.ntmps (pre2 c) e23 (memP pa pb) .ret [(4, .bool false)] [.hole, .hole]) : Ct f pa pb false := by
  have hg : Goes Tryd.prog i.fn.ntmps c (initE 0 [.agg (pa.map up), .agg (pb.map up)]) [] .ret [(4, .bool false)] [.hole, .hole] := by
    rw [S.shape]
    exact Goes.seq (goes1 S ha hb) (Goes.seqX h (by simp))
  intro V σ
  have := callIn_goes S.fn S.name S.body (args := [.agg (pa.map up), .agg (pb.map up)]) S.nt hg (S.res false) (V := V)
  exact call_any this (by simp [loVs, loV, loVs_ups]) rfl σ

/-- What the loop comes to. -/
def outX (r : Bool) : AX := if r then .ext 0 else .ret
def outE (r : Bool) : Env := if r then [] else [(4, .bool false)]
theorem late (S : Sm f i c pE tE) (ha : IsD pa ka na sa la ln) (hb : IsD pb kb nb sb lb lm) (h : Goes Tryd.prog i.fn.ntmps (pre2 c) e23 (memP pa pb) .nrm e23 (memP pa pb)) {r : Bool}
    (hl : GoesF Tryd.prog i.fn.ntmps (inL (loopB c)) (pE ln 0) (memP pa pb) (outX r) (outE r) [.hole, .hole]) : Ct f pa pb r := by
  have hg : Goes Tryd.prog i.fn.ntmps c (initE 0 [.agg (pa.map up), .agg (pb.map up)]) [] .ret [(4, .bool r)] [.hole, .hole] := by
    rw [S.shape]
    refine Goes.seq (goes1 S ha hb) (Goes.seq h ?_)
    cases r with
    | true => exact Goes.seq (Goes.seq (goes3 S ha hb) (Goes.block (Goes.loop hl))) (goesL S)
    | false => exact Goes.seqX (Goes.seq (goes3 S ha hb) (Goes.blockR (Goes.loop hl))) (by simp)
  intro V σ
  have := callIn_goes S.fn S.name S.body (args := [.agg (pa.map up), .agg (pb.map up)]) S.nt hg (S.res r) (V := V)
  exact call_any this (by simp [loVs, loV, loVs_ups]) rfl σ

/-- The end of the loop. -/
theorem loopEnd (S : Sm f i c pE tE) (ha : IsD pa ka na sa la ln) (hb : IsD pb kb nb sb lb lm) : GoesF Tryd.prog i.fn.ntmps (inL (loopB c)) (pE ln ln) (memP pa pb) (outX true) (outE true) [.hole, .hole] := by
  have hB : Valid (nm0 ka na kb nb sa sb la lb ln lm ln) (Bl false) := by
    intro f hf
    simp only [Bl, List.mem_cons, List.not_mem_nil, or_false] at hf
    subst hf
    show some (AV.bool (decide ((ln : Int) < ln))) = some (AV.bool false)
    simp
  exact GoesF.last (goes_run tab_ok mixed (v := nm0 ka na kb nb sa sb la lb ln lm ln) (fun x hx => by simp at hx) S.fin (S.up hB rfl (Up.tok hB _ _ rfl)) (upM ha hb hB nil_validT) .nil dropMem) (by simp [outX])
end
/-! ### A round -/
/-- What the names mean in a round: the elements, too. -/
def nmR (ka na kb nb : Int) (sa sb : ByteArray) (la lb : PV) (ln lm : Nat) (j : Int) (k1 n1 k2 n2 : Int) (s1 s2 : ByteArray) (l1 l2 : PV) (m1 m2 : Nat) : Nm :=
  nm [ka, kb, na, nb, ln, lm, j, j + 1, sa.size, sb.size, k1, n1, m1, k2, n2, m2, s1.size, s2.size] [.str sa, .str sb, la, lb, .str s1, .str s2, l1, l2]
section
variable {f : FuncId} {i : FnI} {c : Code} {pE : Int → Int → Env} {tE : List Fact → AV → Env}
variable {pa pb qa qb : List PV} {ka na kb nb k1 n1 k2 n2 : Int} {sa sb s1 s2 : ByteArray} {l1 l2 : PV} {m1 m2 j : Nat} {fa fb : Bool} {ea eb : List (List PV)}
theorem roundV (hj : j < ea.length) (hm : ea.length ≤ maxLen) : Valid (nmR ka na kb nb sa sb (.ro fa ea) (.ro fb eb) ea.length eb.length j k1 n1 k2 n2 s1 s2 l1 l2 m1 m2) (Bl true) := by
  unfold maxLen at hm
  intro f hf
  simp only [Bl, List.mem_cons, List.not_mem_nil, or_false] at hf
  rcases hf with rfl | rfl
  · show some (AV.bool (decide ((j : Int) < (ea.length : Int)))) = some (AV.bool true)
    simp [hj]
  · show some (AV.int .i64 (IntKind.wrap .i64 ((j : Int) + 1))) = some (AV.int .i64 ((j : Int) + 1))
    rw [wrap_in _ (by omega)]
theorem round (S : Sm f i c pE tE) (ha : IsD pa ka na sa (.ro fa ea) ea.length) (hb : IsD pb kb nb sb (.ro fb eb) eb.length) (hj : j < ea.length) (h1 : ea[j]? = some qa) (h2 : eb[j]? = some qb)
    (hqa : IsD qa k1 n1 s1 l1 m1) (hqb : IsD qb k2 n2 s2 l2 m2) {r : Bool} (hC : Ct f qa qb r) :
    Goes Tryd.prog i.fn.ntmps (inL (loopB c)) (pE ea.length j) (memP pa pb) (if r then .nrm else .ret) (if r then pE ea.length ((j : Int) + 1) else [(4, .bool false)]) (if r then memP pa pb else [.hole, .hole]) := by
  have hB := roundV (ka := ka) (na := na) (kb := kb) (nb := nb) (sa := sa) (sb := sb) (fa := fa) (fb := fb) (eb := eb) (k1 := k1) (n1 := n1) (k2 := k2) (n2 := n2) (s1 := s1) (s2 := s2) (l1 := l1) (l2 := l2) (m1 := m1) (m2 := m2) hj ha.top
  generalize hv : nmR ka na kb nb sa sb (.ro fa ea) (.ro fb eb) ea.length eb.length j k1 n1 k2 n2 s1 s2 l1 l2 m1 m2 = v at hB
  have hE := nil_validT (p := v.p)
  have ua : All2 (fun p c => Up v (up p) c) qa (cA [] (Bl true)) := by rw [hqa.eq]; subst hv; exact upD hB hE hqa.hlen rfl rfl rfl rfl rfl rfl
  have ub : All2 (fun p c => Up v (up p) c) qb (cB [] (Bl true)) := by rw [hqb.eq]; subst hv; exact upD hB hE hqb.hlen rfl rfl rfl rfl rfl rfl
  have da : All2 (fun c p => Down v c (up p)) (cA [] (Bl true)) qa := by rw [hqa.eq]; subst hv; exact downD rfl rfl rfl rfl
  have db : All2 (fun c p => Down v c (up p)) (cB [] (Bl true)) qb := by rw [hqb.eq]; subst hv; exact downD rfl rfl rfl rfl
  have wa : All2 (fun p c => Up v (up p) c) pa (wA [] (Bl true)) := by rw [ha.eq]; subst hv; exact upW hB hE rfl rfl rfl rfl rfl rfl rfl h1 ua
  have wb : All2 (fun p c => Up v (up p) c) pb (wB [] (Bl true)) := by rw [hb.eq]; subst hv; exact upW hB hE rfl rfl rfl rfl rfl rfl rfl h2 ub
  have xa : All2 (fun c p => Down v c (up p)) (wA [] (Bl true)) pa := by rw [ha.eq]; subst hv; exact downW rfl rfl rfl rfl
  have xb : All2 (fun c p => Down v c (up p)) (wB [] (Bl true)) pb := by rw [hb.eq]; subst hv; exact downW rfl rfl rfl rfl
  have v4 : v 4 = (ea.length : Int) := by subst hv; rfl
  have v6 : v 6 = (j : Int) := by subst hv; rfl
  have v7 : v 7 = (j : Int) + 1 := by subst hv; rfl
  have known : ∀ x ∈ [((f, [.agg (cA [] (Bl true)), .agg (cB [] (Bl true))], .bool r) : FuncId × List AV × AV)], ∀ σ, CallOK (fun x => x = v) Tryd.prog x.1 x.2.1 σ (x.2.2, σ) := by
    intro x hx σ
    rw [List.mem_singleton] at hx
    subst hx
    exact .inl <| call_told (hC _ σ) (.cons (Down.agg da.mapR) (.cons (Down.agg db.mapR) .nil)) (Up.same rfl)
  cases r with
  | true => exact goes_run tab_ok mixed known S.yes (S.up hB v4 (Up.tok hB _ _ v6)) (upMem wa wb rfl rfl) (S.down v4 (Down.tok _ _ v7)) (downMem xa xb)
  | false => exact goes_run tab_ok mixed known S.no (S.up hB v4 (Up.tok hB _ _ v6)) (upMem wa wb rfl rfl) e4_down dropMem
end

/-! ### The loop; the call -/
/-- Both functions are known, and alike. -/
def J (pa pb : List PV) : Prop := ∃ r, Ct 13 pa pb r ∧ Ct 14 pa pb r ∧ (pa = pb → r = true)
/-- It is a datum. -/
def IsD' (pa : List PV) : Prop := ∃ k n s l len, IsD pa k n s l len
section
variable {pa pb : List PV} {ka na kb nb : Int} {sa sb : ByteArray} {fa fb : Bool} {ea eb : List (List PV)}
theorem loops (ha : IsD pa ka na sa (.ro fa ea) ea.length) (hb : IsD pb kb nb sb (.ro fb eb) eb.length) (hl : ea.length = eb.length) (hda : ∀ q ∈ ea, IsD' q) (hdb : ∀ q ∈ eb, IsD' q) (hJ : ∀ qa ∈ ea, ∀ qb ∈ eb, J qa qb) :
    ∀ (m j : Nat), j + m = ea.length → ∃ r, GoesF Tryd.prog i13.fn.ntmps (inL (loopB c13)) (p13 ea.length j) (memP pa pb) (outX r) (outE r) [.hole, .hole] ∧ GoesF Tryd.prog i14.fn.ntmps (inL (loopB c14)) (p14 ea.length j) (memP pa pb) (outX r) (outE r) [.hole, .hole] ∧
      (ea = eb → r = true)
  | 0, j, hm => by
    have hj : j = ea.length := by omega
    subst hj
    exact ⟨true, loopEnd s13 ha hb, loopEnd s14 ha hb, fun _ => rfl⟩
  | m + 1, j, hm => by
    have hj : j < ea.length := by omega
    have g1 : ea[j]? = some (ea[j]'hj) := List.getElem?_eq_getElem hj
    have g2 : eb[j]? = some (eb[j]'(by omega)) := List.getElem?_eq_getElem (by omega)
    obtain ⟨k1, n1, s1, l1, m1, hqa⟩ := hda _ (List.mem_of_getElem? g1)
    obtain ⟨k2, n2, s2, l2, m2, hqb⟩ := hdb _ (List.mem_of_getElem? g2)
    obtain ⟨r, hr1, hr2, hr3⟩ := hJ _ (List.mem_of_getElem? g1) _ (List.mem_of_getElem? g2)
    have r13 := round s13 ha hb hj g1 g2 hqa hqb hr1
    have r14 := round s14 ha hb hj g1 g2 hqa hqb hr2
    cases r with
    | true =>
      obtain ⟨r', h1, h2, h3⟩ := loops ha hb hl hda hdb hJ m (j + 1) (by omega)
      refine ⟨r', GoesF.more r13 ?_, GoesF.more r14 ?_, h3⟩
      · exact h1
      · exact h2
    | false =>
      refine ⟨false, GoesF.last r13 (by intro h; cases h), GoesF.last r14 (by intro h; cases h), fun he => hr3 ?_⟩
      subst he
      rfl
end

/-- Two data of which the elements are known. -/
theorem step {pa pb : List PV} {ka na kb nb : Int} {sa sb : ByteArray} {la lb : PV} {ln lm : Nat} (ha : IsD pa ka na sa la ln) (hb : IsD pb kb nb sb lb lm)
    (h : ∀ fa ea fb eb, la = .ro fa ea → lb = .ro fb eb → (∀ q ∈ ea, IsD' q) ∧ (∀ q ∈ eb, IsD' q) ∧ ∀ qa ∈ ea, ∀ qb ∈ eb, J qa qb) : J pa pb := by
  have both : ∀ {E : List (Nat × Option Nat × Bool)} {B : List Fact}, Valid (nm0 ka na kb nb sa sb la lb ln lm 0) B → ValidT (nm0 ka na kb nb sa sb la lb ln lm 0).p E →
      run i13 [] [4] (pre2 c13) e23 (memD E B) = some (.ret, [(4, .bool false)], memD E B) → run i14 [] [4] (pre2 c14) e23 (memD E B) = some (.ret, [(4, .bool false)], memD E B) → pa ≠ pb → J pa pb := by
    intro E B hB hE r1 r2 hne
    exact ⟨false, early s13 ha hb (goesE s13 ha hb hB hE r1 e4_down (.inr rfl)), early s14 ha hb (goesE s14 ha hb hB hE r2 e4_down (.inr rfl)), fun he => absurd he hne⟩
  have inj : pa = pb → ka = kb ∧ na = nb ∧ sa = sb ∧ la = lb := by
    intro he
    rw [ha.eq, hb.eq] at he
    simpa [pD] using he
  by_cases hk : ka = kb
  case neg =>
    refine both (E := []) (B := B1) ?_ nil_validT s13.x1 s14.x1 fun he => hk (inj he).1
    intro f hf
    simp only [B1, List.mem_cons, List.not_mem_nil, or_false] at hf
    subst hf
    show some (AV.bool (ka != kb)) = some (AV.bool true)
    simp [hk]
  have f1 : some (AV.bool (ka != kb)) = some (AV.bool false) := by simp [hk]
  by_cases hn : na = nb
  case neg =>
    refine both (E := []) (B := B2) ?_ nil_validT s13.x2 s14.x2 fun he => hn (inj he).2.1
    intro f hf
    simp only [B2, List.mem_cons, List.not_mem_nil, or_false] at hf
    rcases hf with rfl | rfl
    · exact f1
    · show some (AV.bool (na != nb)) = some (AV.bool true)
      simp [hn]
  have f2 : some (AV.bool (na != nb)) = some (AV.bool false) := by simp [hn]
  by_cases hs : sa = sb
  case neg =>
    refine both (E := Ep false) (B := B3) ?_ ?_ s13.x3 s14.x3 fun he => hs (inj he).2.2.1
    · intro f hf
      simp only [B3, List.mem_cons, List.not_mem_nil, or_false] at hf
      rcases hf with rfl | rfl
      · exact f1
      · exact f2
    · intro x hx
      simp only [Ep, List.mem_singleton] at hx
      subst hx
      show false = true ↔ PV.str sa = PV.str sb
      simp [hs]
  have hT : ValidT (nm0 ka na kb nb sa sb la lb ln lm 0).p (Ep true) := by
    intro x hx
    simp only [Ep, List.mem_singleton] at hx
    subst hx
    show true = true ↔ PV.str sa = PV.str sb
    simp [hs]
  by_cases hl : ln = lm
  case neg =>
    refine both (E := Ep true) (B := B4) ?_ hT s13.x4 s14.x4 fun he => hl ?_
    · intro f hf
      simp only [B4, List.mem_cons, List.not_mem_nil, or_false] at hf
      rcases hf with rfl | rfl | rfl
      · exact f1
      · exact f2
      · show some (AV.bool ((ln : Int) != lm)) = some (AV.bool true)
        have : ¬ (ln : Int) = lm := by omega
        simp [this]
    · have h1 := ha.hlen
      rw [(inj he).2.2.2, hb.hlen] at h1
      injection h1 with h1; exact h1.symm
  have hB5 : Valid (nm0 ka na kb nb sa sb la lb ln lm 0) B5 := by
    intro f hf
    simp only [B5, List.mem_cons, List.not_mem_nil, or_false] at hf
    rcases hf with rfl | rfl | rfl
    · exact f1
    · exact f2
    · show some (AV.bool ((ln : Int) != lm)) = some (AV.bool false)
      simp [hl]
  have g13 := goesE s13 ha hb hB5 hT s13.x5 e23_down (.inl rfl)
  have g14 := goesE s14 ha hb hB5 hT s14.x5 e23_down (.inl rfl)
  by_cases h0 : ln = 0
  · refine ⟨true, late s13 ha hb g13 ?_, late s14 ha hb g14 ?_, fun _ => rfl⟩
    · have := loopEnd s13 ha hb
      rw [h0] at this ⊢
      exact this
    · have := loopEnd s14 ha hb
      rw [h0] at this ⊢
      exact this
  · -- both have elements
    have isro : ∀ {p : PV} {n : Nat}, lenP p = some n → n ≠ 0 → ∃ f es, p = .ro f es ∧ es.length = n := by
      intro p n hp hn
      cases p <;> simp [lenP] at hp
      · omega
      · omega
      · exact ⟨_, _, rfl, hp⟩
    obtain ⟨fa, ea, rfl, h1⟩ := isro ha.hlen h0
    obtain ⟨fb, eb, rfl, h2⟩ := isro hb.hlen (by omega)
    subst h1; subst h2
    obtain ⟨q1, q2, q3⟩ := h fa ea fb eb rfl rfl
    obtain ⟨r, c1, c2, c3⟩ := loops ha hb hl q1 q2 q3 ea.length 0 (by omega)
    refine ⟨r, late s13 ha hb g13 c1, late s14 ha hb g14 c2, fun he => c3 ?_⟩
    have := (inj he).2.2.2
    injection this
end Go.Proofs.YtkiicnfpogdmgaaDoor.T.Same
