/- Which data are valid: both functions alike, for every datum. -/
import Derived.Test.YtkiicnfpogdmgaaDoorFm1
namespace Go.Proofs.YtkiicnfpogdmgaaDoor.T.Frm
open Go.Dx Go.Proofs Same Wgh

theorem goes_cond {P : Program} {n : Nat} {c : Operand} {x y : Code} {E E' : Env} {M M' : Heap} {X : AX} {b : Bool} (hb : evA E c = some (.bool b)) (h : Goes P n (if b then x else y) E M X E' M') : Goes P n (.cond c x y) E M X E' M' := by
  intro V k w a D hR hE Q hQ
  have hr := ev_rel hE hb
  generalize hu : a.eval c = u at hr
  cases hr
  cases b with
  | true => exact wp_cond_true hu (h V k w a D hR hE hQ)
  | false => exact wp_cond_false hu (h V k w a D hR hE hQ)

def Cf (f : FuncId) (pa : List PV) (b : Bool) : Prop := ∀ (V : Nm → Prop) (σ : Heap), CallIn V Tryd.prog f [.agg (pa.map up)] σ (.bool b, σ)
def nmF (k n : Int) (s : ByteArray) (l : PV) (ln : Nat) (i : Int) (k' n' : Int) (s' : ByteArray) (l' : PV) (m' : Nat) : Nm :=
  nm [k, n, ln, i, i + 1, 0, 0, 0, 0, 0, s.size, k', n', m', s'.size] [.str s, l, .str s', l']
section
variable {f : FuncId} {i : FnI} {c : Code} {ks q1 q2 q3 q4 : Nat} {pE : PV → Nat → Int → Env} {tE : List Fact → AV → AV → Env} {junk : Heap}
variable {pa : List PV} {k n : Int} {s : ByteArray} {l : PV} {ln : Nat} {j k' n' : Int} {s' : ByteArray} {l' : PV} {m' : Nat}
theorem upF (ha : IsD pa k n s l ln) {E : List (Nat × Option Nat × Bool)} {B : List Fact} (hB : Valid (nmF k n s l ln j k' n' s' l' m') B) (hE : ValidT (nmF k n s l ln j k' n' s' l' m').p E) : All2 (fun p c => Up (nmF k n s l ln j k' n' s' l' m') (up p) c) pa (dF E B) := by
  rw [ha.eq]
  exact upD hB hE ha.hlen rfl rfl rfl rfl rfl rfl
theorem downF (ha : IsD pa k n s l ln) {E : List (Nat × Option Nat × Bool)} {B : List Fact} : All2 (fun c p => Down (nmF k n s l ln j k' n' s' l' m') c (up p)) (dF E B) pa := by
  rw [ha.eq]
  exact downD rfl rfl rfl rfl
theorem done (S : Sv f i c ks q1 q2 q3 q4 pE tE junk) {b : Bool} (hgo : Goes Tryd.prog i.fn.ntmps c (initE 0 [.agg (pa.map up)]) [] .ret [(2, .bool b)] [.hole]) : Cf f pa b := by
  intro V σ
  have := callIn_goes S.fn S.name S.body (args := [.agg (pa.map up)]) S.nt hgo (S.res b) (V := V)
  exact call_any this (by simp [loVs, loV, loVs_ups]) rfl σ
theorem e2_down {v : Nm} {b : Bool} : ET (Down v) [(2, .bool b)] [(2, .bool b)] := .cons ⟨rfl, Down.same rfl⟩ .nil
/-- A datum that is no list. -/
theorem plain (S : Sv f i c ks q1 q2 q3 q4 pE tE junk) (ha : IsD pa k n s l ln) {E : List (Nat × Option Nat × Bool)} {B : List Fact} (hB : Valid (nmF k n s l ln 0 0 0 s l 0) B) (hE : ValidT (nmF k n s l ln 0 0 0 s l 0).p E) {b : Bool}
    (hr : run i [] [2] c (initE 0 [.agg (dF E B)]) [] = some (.ret, [(2, .bool b)], [box (dF E B)])) : Cf f pa b :=
  done S (goes_run tab_ok mixed (v := nmF k n s l ln 0 0 0 s l 0) (fun x hx => by simp at hx) hr (.cons ⟨rfl, Up.agg (upF ha hB hE).map⟩ .nil) .nil e2_down dropBox)

/-- The loop, from an element on. -/
def LF (i : FnI) (c : Code) (pE : PV → Nat → Int → Env) (pa : List PV) (l : PV) (ln : Nat) (j : Int) (b : Bool) : Prop :=
  GoesF Tryd.prog i.fn.ntmps (lpB c) (pE l ln j) [box (pa.map up)] (if b then .ext 1 else .ret) (if b then [(1, .ptr 0 0 0 0)] else [(2, .bool false)]) (if b then [box (pa.map up)] else [.hole])
theorem dropAll {R : AV → AV → Prop} {g : Blk → Blk} : ∀ l : Heap, All2 (BD R) (l.map g) (l.map fun _ => .hole)
  | [] => .nil
  | b :: r => .cons (.drop _) (dropAll r)
theorem loopEnd (S : Sv f i c ks q1 q2 q3 q4 pE tE junk) (ha : IsD pa k n s l ln) : LF i c pE pa l ln ln true := by
  have hB : Valid (nmF k n s l ln ln 0 0 s l 0) Le := by
    intro f hf
    simp only [Le, List.mem_cons, List.not_mem_nil, or_false] at hf
    subst hf
    show some (AV.bool (decide ((ln : Int) < ln))) = some (AV.bool false)
    simp
  exact GoesF.last (goes_run tab_ok mixed (v := nmF k n s l ln ln 0 0 s l 0) (fun x hx => by simp at hx) S.fin (S.up hB rfl (Up.lst hB _ _ _ rfl ha.hlen rfl) (Up.tok hB _ _ rfl)) (upBox (upF ha hB nil_validT) rfl) (.cons ⟨rfl, Down.same rfl⟩ .nil) (downBox (downF ha))) (by intro h; cases h)
theorem round (S : Sv f i c ks q1 q2 q3 q4 pE tE junk) {fl : Bool} {es : List (List PV)} (ha : IsD pa k n s (.ro fl es) es.length) {j : Nat} (hj : j < es.length) {q : List PV} (hq : es[j]? = some q) (hd : IsD q k' n' s' l' m') {b : Bool} (hC : Cf f q b) :
    Goes Tryd.prog i.fn.ntmps (lpB c) (pE (.ro fl es) es.length j) [box (pa.map up)] (if b then .nrm else .ret) (if b then pE (.ro fl es) es.length ((j : Int) + 1) else [(2, .bool false)]) (if b then [box (pa.map up)] else [.hole]) := by
  have hB : Valid (nmF k n s (.ro fl es) es.length j k' n' s' l' m') Lw := by
    have ht := ha.top
    unfold maxLen at ht
    intro f hf
    simp only [Lw, List.mem_cons, List.not_mem_nil, or_false] at hf
    rcases hf with rfl | rfl
    · show some (AV.bool (decide ((j : Int) < (es.length : Int)))) = some (AV.bool true)
      simp [hj]
    · show some (AV.int .i64 (IntKind.wrap .i64 ((j : Int) + 1))) = some (AV.int .i64 ((j : Int) + 1))
      rw [wrap_in _ (by omega)]
  generalize hv : nmF k n s (.ro fl es) es.length j k' n' s' l' m' = v at hB
  have hE := nil_validT (p := v.p)
  have ue : All2 (fun p c => Up v (up p) c) q (eF Lw) := by rw [hd.eq]; subst hv; exact upD hB hE hd.hlen rfl rfl rfl rfl rfl rfl
  have de : All2 (fun c p => Down v c (up p)) (eF Lw) q := by rw [hd.eq]; subst hv; exact downD rfl rfl rfl rfl
  have uw : All2 (fun p c => Up v (up p) c) pa (wF Lw) := by rw [ha.eq]; subst hv; exact upW hB hE rfl rfl rfl rfl rfl rfl rfl hq ue
  have dw : All2 (fun c p => Down v c (up p)) (wF Lw) pa := by rw [ha.eq]; subst hv; exact downW rfl rfl rfl rfl
  have e2 : v 2 = (es.length : Int) := by subst hv; rfl
  have e3 : v 3 = (j : Int) := by subst hv; rfl
  have e4 : v 4 = (j : Int) + 1 := by subst hv; rfl
  have p1 : v.p 1 = .ro fl es := by subst hv; rfl
  have known : ∀ x ∈ [((f, [.agg (eF Lw)], .bool b) : FuncId × List AV × AV)], ∀ σ, CallOK (fun x => x = v) Tryd.prog x.1 x.2.1 σ (x.2.2, σ) := by
    intro x hx σ
    rw [List.mem_singleton] at hx
    subst hx
    exact .inl <| call_told (hC _ σ) (.cons (Down.agg de.mapR) .nil) (Up.same rfl)
  cases b with
  | true =>
    have g := goes_run tab_ok mixed known S.yes (M' := box (pa.map up) :: junk.map fun _ => .hole) (S.up (l := .ro fl es) hB e2 (Up.lsl hB _ _ (.tok 3) p1 e2 e3 hq ue) (Up.tok hB _ _ e3)) (upBox uw rfl) (S.down e2 (Down.lsl _ _ _ _ p1) (Down.tok _ _ e4))
      (.cons (.keep (.row (.cons dw.mapR .nil) (by simp only [List.all_cons, one_all, List.all_nil, Bool.and_self]))) (dropAll junk))
    exact Goes.take g (S.lo _ _ _) (by simp [loB, box, loVs_ups])
  | false =>
    have g := goes_run tab_ok mixed known S.no (M' := .hole :: junk.map fun _ => .hole) (S.up (l := .ro fl es) hB e2 (Up.lsl hB _ _ (.tok 3) p1 e2 e3 hq ue) (Up.tok hB _ _ e3)) (upBox uw rfl) e2_down (.cons (.drop _) (dropAll junk))
    exact Goes.take g rfl (by simp [loB])

/-- A list. -/
theorem listed (S : Sv f i c ks q1 q2 q3 q4 pE tE junk) (ha : IsD pa 4 n s l ln) {b : Bool} (hl : LF i c pE pa l ln 0 b) : Cf f pa (b && ((n == 0) && decide (s = ⟨#[]⟩))) := by
  have h0 : Valid (nmF 4 n s l ln 0 0 0 s l 0) [] := nil_valid
  have h4 : Valid (nmF 4 n s l ln 0 0 0 s l 0) F4 := by
    intro f hf
    simp only [F4, kf, List.mem_cons, List.not_mem_nil, or_false] at hf
    rcases hf with rfl | rfl | rfl | rfl <;> rfl
  have env : ∀ {x y : AV}, Down (nmF 4 n s l ln 0 0 0 s l 0) x (.int .i64 4) → ∀ {q : Nat} {b : Bool}, ET (Down (nmF 4 n s l ln 0 0 0 s l 0)) [(1, .ptr 0 0 0 0), (ks, x), (q, .bool b)] [(1, .ptr 0 0 0 0), (ks, .int .i64 4), (q, .bool b)] :=
    fun hx => .cons ⟨rfl, Down.same rfl⟩ (.cons ⟨rfl, hx⟩ (.cons ⟨rfl, Down.same rfl⟩ .nil))
  have envU : ∀ {q : Nat} {b : Bool}, ET (Up (nmF 4 n s l ln 0 0 0 s l 0)) [(1, .ptr 0 0 0 0), (ks, .int .i64 4), (q, .bool b)] [(1, .ptr 0 0 0 0), (ks, .tok F4 .i64 0), (q, .bool b)] :=
    .cons ⟨rfl, Up.same rfl⟩ (.cons ⟨rfl, Up.tok h4 _ _ rfl⟩ (.cons ⟨rfl, Up.same rfl⟩ .nil))
  have gp1 : Goes Tryd.prog i.fn.ntmps (pre1 c) (initE 0 [.agg (pa.map up)]) [] .nrm [(1, .ptr 0 0 0 0)] [box (pa.map up)] :=
    goes_run tab_ok mixed (v := nmF 4 n s l ln 0 0 0 s l 0) (fun x hx => by simp at hx) S.p1 (.cons ⟨rfl, Up.agg (upF ha h0 nil_validT).map⟩ .nil) .nil (.cons ⟨rfl, Down.same rfl⟩ .nil) (downBox (downF ha))
  have gp2 : Goes Tryd.prog i.fn.ntmps (fstS (fstS (sndS c))) [(1, .ptr 0 0 0 0)] [box (pa.map up)] .nrm [(1, .ptr 0 0 0 0), (ks, .int .i64 4)] [box (pa.map up)] :=
    goes_run tab_ok mixed (v := nmF 4 n s l ln 0 0 0 s l 0) (fun x hx => by simp at hx) S.p2 (.cons ⟨rfl, Up.same rfl⟩ .nil) (upBox (upF ha h0 nil_validT) rfl) (.cons ⟨rfl, Down.same rfl⟩ (.cons ⟨rfl, Down.tok _ _ rfl⟩ .nil)) (downBox (downF ha))
  have mU := upBox (upF ha h4 nil_validT) rfl
  have mD : All2 (BD (Down (nmF 4 n s l ln 0 0 0 s l 0))) [box (dF [] F4)] [box (pa.map up)] := downBox (downF ha)
  have w1 := goes_run tab_ok mixed (v := nmF 4 n s l ln 0 0 0 s l 0) (E := [(1, .ptr 0 0 0 0), (ks, .int .i64 4)]) (fun x hx => by simp at hx) S.t1 (.cons ⟨rfl, Up.same rfl⟩ (.cons ⟨rfl, Up.tok h4 _ _ rfl⟩ .nil)) mU (env (y := .und) (Down.tok _ _ rfl)) mD
  have w2 := goes_run tab_ok mixed (v := nmF 4 n s l ln 0 0 0 s l 0) (fun x hx => by simp at hx) S.t2 envU mU (env (y := .und) (Down.tok _ _ rfl)) mD
  have w3 := goes_run tab_ok mixed (v := nmF 4 n s l ln 0 0 0 s l 0) (fun x hx => by simp at hx) S.t3 envU mU (env (y := .und) (Down.tok _ _ rfl)) mD
  have w4 := goes_run tab_ok mixed (v := nmF 4 n s l ln 0 0 0 s l 0) (fun x hx => by simp at hx) S.t4 envU mU (env (y := .und) (Down.tok _ _ rfl)) mD
  have w5 := goes_run tab_ok mixed (v := nmF 4 n s l ln 0 0 0 s l 0) (fun x hx => by simp at hx) S.lead envU mU (S.down rfl (Down.lsl _ _ _ _ rfl) (Down.same rfl)) mD
  -- behind the loop
  have w6 : Goes Tryd.prog i.fn.ntmps (sndS (lp c)) [(1, .ptr 0 0 0 0)] [box (pa.map up)] .ret [(2, .bool ((n == 0) && decide (s = ⟨#[]⟩)))] [.hole] := by
    have h5 : Valid (nmF 4 n s l ln 0 0 0 s l 0) (F5 (n == 0)) := by
      intro f hf
      simp only [F5, List.mem_cons, List.not_mem_nil, or_false] at hf
      subst hf
      rfl
    have hT : ValidT (nmF 4 n s l ln 0 0 0 s l 0).p (Ee (decide (s = ⟨#[]⟩))) := by
      intro x hx
      simp only [Ee, List.mem_singleton] at hx
      subst hx
      show decide (s = ⟨#[]⟩) = true ↔ PV.str s = PV.str ⟨#[]⟩
      simp
    exact goes_run tab_ok mixed (v := nmF 4 n s l ln 0 0 0 s l 0) (fun x hx => by simp at hx) (S.last _ _) (.cons ⟨rfl, Up.same rfl⟩ .nil) (upBox (upF ha h5 hT) rfl) e2_down dropBox
  -- the list's part
  have part : Goes Tryd.prog i.fn.ntmps (.seq (.seq (fstS (fstS (lp c))) (.block 1 (.loop (lpB c)))) (sndS (lp c))) [(1, .ptr 0 0 0 0), (ks, .int .i64 4), (q4, .bool true)] [box (pa.map up)] .ret [(2, .bool (b && ((n == 0) && decide (s = ⟨#[]⟩))))] [.hole] := by
    unfold LF at hl
    cases b with
    | true => exact Goes.seq (Goes.seq w5 (Goes.block (Goes.loop hl))) w6
    | false => exact Goes.seqX (Goes.seq w5 (Goes.blockR (Goes.loop hl))) (by intro h; cases h)
  refine done S ?_
  rw [S.shape]
  refine Goes.seq gp1 (Goes.seqX (Goes.seq gp2 (Goes.blockR ?_)) (by intro h; cases h))
  refine Goes.seq w1 (goes_cond S.g1 ?_)
  refine Goes.seq w2 (goes_cond S.g2 ?_)
  refine Goes.seq w3 (goes_cond S.g3 ?_)
  exact Goes.seq w4 (goes_cond S.g4 part)
end

/-! ### Both -/
def K (pa : List PV) : Prop := ∃ b, Cf 20 pa b ∧ Cf 21 pa b
section
variable {pa : List PV} {k n : Int} {s : ByteArray} {l : PV} {ln : Nat}
theorem loops {f : Bool} {es : List (List PV)} (ha : IsD pa k n s (.ro f es) es.length) (hd : ∀ q ∈ es, IsD' q) (hK : ∀ q ∈ es, K q) : ∀ (m j : Nat), j + m = es.length → ∃ b, LF i20 c20 p20 pa (.ro f es) es.length j b ∧ LF i21 c21 p21 pa (.ro f es) es.length j b
  | 0, j, hm => by
    have : j = es.length := by omega
    subst this
    exact ⟨true, loopEnd v20 ha, loopEnd v21 ha⟩
  | m + 1, j, hm => by
    have hj : j < es.length := by omega
    have g1 : es[j]? = some (es[j]'hj) := List.getElem?_eq_getElem hj
    obtain ⟨k', n', s', l', m', hq⟩ := hd _ (List.mem_of_getElem? g1)
    obtain ⟨b, b1, b2⟩ := hK _ (List.mem_of_getElem? g1)
    have r20 := round v20 ha hj g1 hq b1
    have r21 := round v21 ha hj g1 hq b2
    cases b with
    | true =>
      obtain ⟨b', h1, h2⟩ := loops ha hd hK m (j + 1) (by omega)
      exact ⟨b', GoesF.more r20 h1, GoesF.more r21 h2⟩
    | false => exact ⟨false, GoesF.last r20 (by intro h; cases h), GoesF.last r21 (by intro h; cases h)⟩
theorem step (ha : IsD pa k n s l ln) (h : ∀ f es, l = .ro f es → (∀ q ∈ es, IsD' q) ∧ ∀ q ∈ es, K q) : K pa := by
  have kfv : ∀ (j : Nat) (b : Bool), (k == (j : Int)) = b → arithA .eql .i64 k j = some (.bool b) := fun j b hb => by rw [← hb]; rfl
  have nv : ∀ b, (n == 0) = b → arithA .eql .i64 n 0 = some (.bool b) := fun b hb => by rw [← hb]; rfl
  have mv : ∀ b, (n == 1) = b → arithA .eql .i64 n 1 = some (.bool b) := fun b hb => by rw [← hb]; rfl
  have zv : arithA .eql .i64 (ln : Int) 0 = some (.bool ((ln : Int) == 0)) := rfl
  have tv : ValidT (nmF k n s l ln 0 0 0 s l 0).p (Ee (decide (s = ⟨#[]⟩))) := by
    intro x hx
    simp only [Ee, List.mem_singleton] at hx
    subst hx
    show decide (s = ⟨#[]⟩) = true ↔ PV.str s = PV.str ⟨#[]⟩
    simp
  have no : ∀ {j : Nat}, ¬ k = (j : Int) → (k == (j : Int)) = false := fun h => beq_eq_false_iff_ne.2 h
  by_cases k1 : k = 1
  · have hB : Valid (nmF k n s l ln 0 0 0 s l 0) (F1 ((ln : Int) == 0)) := by
      intro f hf
      simp only [F1, kf, List.mem_cons, List.not_mem_nil, or_false] at hf
      rcases hf with rfl | rfl
      · exact kfv 1 true (beq_iff_eq.2 k1)
      · exact zv
    exact ⟨_, plain v20 ha hB tv (v20.k1 _ _), plain v21 ha hB tv (v21.k1 _ _)⟩
  by_cases k2 : k = 2
  · have hB : Valid (nmF k n s l ln 0 0 0 s l 0) (F2 (n == 0) ((ln : Int) == 0)) := by
      intro f hf
      simp only [F2, kf, List.mem_cons, List.not_mem_nil, or_false] at hf
      rcases hf with rfl | rfl | rfl | rfl
      · exact kfv 1 false (no k1)
      · exact kfv 2 true (beq_iff_eq.2 k2)
      · exact nv _ rfl
      · exact zv
    exact ⟨_, plain v20 ha hB nil_validT (v20.k2 _ _), plain v21 ha hB nil_validT (v21.k2 _ _)⟩
  by_cases k3 : k = 3
  · have hB : Valid (nmF k n s l ln 0 0 0 s l 0) (F3 (n == 0) (n == 1) ((ln : Int) == 0)) := by
      intro f hf
      simp only [F3, kf, List.mem_cons, List.not_mem_nil, or_false] at hf
      rcases hf with rfl | rfl | rfl | rfl | rfl | rfl
      · exact kfv 1 false (no k1)
      · exact kfv 2 false (no k2)
      · exact kfv 3 true (beq_iff_eq.2 k3)
      · exact nv _ rfl
      · exact mv _ rfl
      · exact zv
    exact ⟨_, plain v20 ha hB tv (v20.k3 _ _ _ _), plain v21 ha hB tv (v21.k3 _ _ _ _)⟩
  by_cases k4 : k = 4
  · subst k4
    have go : ∀ {b : Bool}, LF i20 c20 p20 pa l ln 0 b → LF i21 c21 p21 pa l ln 0 b → K pa := fun h1 h2 => ⟨_, listed v20 ha h1, listed v21 ha h2⟩
    by_cases h0 : ln = 0
    · subst h0
      exact go (loopEnd v20 ha) (loopEnd v21 ha)
    · have isro : ∃ f es, l = .ro f es ∧ es.length = ln := by
        have hp := ha.hlen
        cases l <;> simp [lenP] at hp
        · omega
        · omega
        · exact ⟨_, _, rfl, hp⟩
      obtain ⟨f, es, rfl, h1⟩ := isro
      subst h1
      obtain ⟨hd, hK⟩ := h f es rfl
      obtain ⟨b, l1, l2⟩ := loops ha hd hK es.length 0 (by omega)
      exact go l1 l2
  · have hB : Valid (nmF k n s l ln 0 0 0 s l 0) F0 := by
      intro f hf
      simp only [F0, kf, List.mem_cons, List.not_mem_nil, or_false] at hf
      rcases hf with rfl | rfl | rfl | rfl
      · exact kfv 1 false (no k1)
      · exact kfv 2 false (no k2)
      · exact kfv 3 false (no k3)
      · exact kfv 4 false (no k4)
    exact ⟨_, plain v20 ha hB nil_validT v20.k0, plain v21 ha hB nil_validT v21.k0⟩
end
theorem allK {P : Program} (D : DT P) : ∀ (d : Nat) (pa : List PV), PT P d 24 pa → K pa
  | 0, pa, h => (show False from h).elim
  | 1, pa, h => (pt_one D h).elim
  | d + 2, pa, ha => by
    obtain ⟨k, n, s, l, ln, a1, _, _, _, a2⟩ := pt_datum D ha
    exact step a1 fun f es hl => ⟨fun q hq => pt_isD D (a2 f es hl q hq), fun q hq => allK D d q (a2 f es hl q hq)⟩
end Go.Proofs.YtkiicnfpogdmgaaDoor.T.Frm
