/- Two lists of bytes are the same; what 'put' leaves, plainly. -/
import Derived.Test.YtnglipioaippoaaDk4
namespace Go.Proofs.Ytnglipioaippoaa.T.Disk
open Go.Dx Go.Proofs

/-! ### Plain lists -/
def elemsQ : PV → List (List PV)
  | .ro _ es => es
  | _ => []
theorem elemsP_eq (p : PV) : elemsP p = (elemsQ p).map (·.map up) := by cases p <;> rfl
def putG {α : Type} (es ns : List α) (x N : Nat) : List α := putL es x (ns.take (Nat.min ns.length (N - x)))
theorem puts_map (es ns : List (List PV)) (x N : Nat) : puts (es.map (·.map up)) (ns.map (·.map up)) x N = (putG es ns x N).map (·.map up) := by
  simp [puts, putG, putL, List.map_take, List.map_drop]
theorem putG_eq {α : Type} {es ns : List α} {x N : Nat} (h : x + ns.length ≤ N) : putG es ns x N = putL es x ns := by
  unfold putG
  rw [show Nat.min ns.length (N - x) = ns.length from Nat.min_eq_left (by omega), List.take_length]
theorem putL_all {α : Type} {es ns : List α} (h : ns.length = es.length) : putL es 0 ns = ns := by
  simp [putL, h]
def zsQ : List (List PV) := List.replicate 64 [.int .u8 0]
theorem zs_eq : zs = zsQ.map (·.map up) := by simp [zs, zsQ]; rfl
theorem cut_map (es : List (List PV)) : cut (es.map (·.map up)) = (es.take 64).map (·.map up) := by simp [cut, List.map_take]
/-- What is on the disk in the end. -/
def LQ (x y : Nat) (ea em : List (List PV)) : List (List PV) := putL (putL zsQ x ea) y em
section
variable {x y : Nat} {a b m : PV} {ea eb em : List (List PV)}
theorem zsQ_len : zsQ.length = 64 := by simp [zsQ]
theorem W1_eq (ha : elemsQ a = ea) (hx : x + ea.length ≤ 64) : W1 x a = (putL zsQ x ea).map (·.map up) := by
  unfold W1; rw [zs_eq, elemsP_eq, ha, puts_map, putG_eq hx]
theorem w1_len (hx : x + ea.length ≤ 64) : (putL zsQ x ea).length = 64 := by rw [putL_len (by rw [zsQ_len]; exact hx), zsQ_len]
theorem LQ_len (hx : x + ea.length ≤ 64) (hy : y + em.length ≤ 64) : (LQ x y ea em).length = 64 := by
  unfold LQ; rw [putL_len (by rw [w1_len hx]; exact hy), w1_len hx]
theorem cut_all {es : List (List PV)} (h : es.length = 64) : cut (es.map (·.map up)) = es.map (·.map up) := by
  rw [cut_map, List.take_of_length_le (by omega)]
theorem A1_eq (ha : elemsQ a = ea) (hx : x + ea.length ≤ 64) : A1 x a = (putL zsQ x ea).map (·.map up) := by
  unfold A1
  rw [W1_eq ha hx, cut_all (w1_len hx), zs_eq, puts_map, putG_eq (by rw [w1_len hx]; omega), putL_all (by rw [w1_len hx, zsQ_len])]
theorem A2_eq (ha : elemsQ a = ea) (hm : elemsQ m = em) (hx : x + ea.length ≤ 64) (hy : y + em.length ≤ 64) : A2 x y a m = (LQ x y ea em).map (·.map up) := by
  unfold A2 LQ; rw [A1_eq ha hx, elemsP_eq, hm, puts_map, putG_eq hy]
theorem N3_eq (ha : elemsQ a = ea) (hb : elemsQ b = eb) (hm : elemsQ m = em) (hx : x + ea.length ≤ 64) (hyb : y + eb.length ≤ 64) (hy : y + em.length ≤ 64) : N3 x y a b m = (LQ x y ea em).map (·.map up) := by
  unfold N3 W2
  rw [A2_eq ha hm hx hy, cut_all (LQ_len hx hy), W1_eq ha hx, elemsP_eq, hb, puts_map, putG_eq hyb, puts_map, putG_eq (by rw [LQ_len hx hy]; omega), putL_all (by rw [LQ_len hx hy, putL_len (by rw [w1_len hx]; exact hyb), w1_len hx])]
theorem N4_eq {l : List (List PV)} (h : l.length = 64) : N4 (l.map (·.map up)) (l.map (·.map up)) = l.map (·.map up) := by
  unfold N4; rw [cut_all h, puts_map, putG_eq (by omega), putL_all rfl]
/-- What stands at a place. -/
theorem LQ_at (hx : x + ea.length ≤ 64) (hy : y + em.length ≤ 64) {i : Nat} (hi : i < ea.length) : (y ≤ x + i ∧ x + i < y + em.length ∧ (LQ x y ea em)[x + i]? = em[x + i - y]?) ∨ (LQ x y ea em)[x + i]? = ea[i]? := by
  by_cases h : y ≤ x + i ∧ x + i < y + em.length
  · refine .inl ⟨h.1, h.2, ?_⟩
    have := putL_in (e := putL zsQ x ea) (cs := em) (sub := y) (j := x + i - y) (by rw [w1_len hx]; exact hy) (by omega)
    rw [show y + (x + i - y) = x + i by omega] at this
    exact this
  · refine .inr ?_
    unfold LQ
    rw [putL_out (by rw [w1_len hx]; exact hy) (by omega), putL_in (by rw [zsQ_len]; exact hx) hi]
def By (es : List (List PV)) : Prop := ∀ e ∈ es, ∃ n, e = [PV.int .u8 n]
theorem By.put {es ns : List (List PV)} {x : Nat} (h1 : By es) (h2 : By ns) : By (putL es x ns) := by
  intro e he
  unfold putL at he
  rcases List.mem_append.1 he with h | h
  · exact h1 e (List.mem_of_mem_take h)
  · rcases List.mem_append.1 h with h | h
    · exact h2 e h
    · exact h1 e (List.mem_of_mem_drop h)
theorem LQ_by (ha : By ea) (hm : By em) : By (LQ x y ea em) := by
  unfold LQ
  refine By.put (By.put (fun e he => ?_) ha) hm
  exact ⟨0, (List.mem_replicate.1 he).2⟩
end

/-! ### Two equal lists of bytes -/
noncomputable def c18 : Code := Try.f18.body.get!
noncomputable def d1 : Code := fstS (sndS c18)
theorem shape18 : c18 = .seq (fstS c18) (.seq d1 .ret) := by kernel_rfl
theorem ops18 : regOps d1 = [opAt d1 0, opAt d1 1, opAt d1 2, opAt d1 3, opAt d1 4, opAt d1 5] := by kernel_rfl
theorem reg18 : d1 = .region 1 (regOps d1).toArray false := by kernel_rfl
theorem u9 : Try.prog.underlying 9 = some .string := by kernel_rfl
theorem u5 : Try.prog.underlying 5 = some (.int .u8) := by kernel_rfl
theorem bytes_some : ∀ {es : List (List PV)}, By es → ∃ l, bytesA (es.map (·.map up)) = some l
  | [], _ => ⟨[], rfl⟩
  | e :: r, h => by
    obtain ⟨n, rfl⟩ := h e List.mem_cons_self
    obtain ⟨l, hl⟩ := bytes_some fun e he => h e (List.mem_cons_of_mem _ he)
    exact ⟨UInt8.ofNat n.toNat :: l, by simp only [List.map_cons, List.map_nil, up, bytesA, hl]⟩
theorem conv_ro {P : Program} (h22 : P.underlying 22 = some (.slice 5)) (h9 : P.underlying 9 = some .string) (h5 : P.underlying 5 = some (.int .u8)) {σ : Heap} {f : Bool} {es : List (List PV)} {l : List UInt8} (hl : bytesA (es.map (·.map up)) = some l) : convA P σ 22 9 (.ro f es) = some (.str ⟨l.toArray⟩) := by
  simp only [convA, h22, h9, isStr, Bool.false_eq_true, if_false, h5, elemsA, hl, Option.map_some]
theorem conv_op {P : Program} {call : CallF} {σ : Heap} {ρ : Env} {t : Nat} {v r : AV} (hv : evA ρ (.tmp t) = some v) (h : convA P σ 22 9 v = some r) : opA P false call ρ σ (.convert 22 9 (.tmp t)) = some (r, σ) := by
  show ((evA ρ (.tmp t)).bind fun v => (convA P σ 22 9 v).map (·, σ)) = _
  rw [hv, Option.bind_some, h]; rfl
theorem eql_op {P : Program} {call : CallF} {σ : Heap} {ρ : Env} {s : ByteArray} (h6 : evA ρ (.tmp 6) = some (.str s)) (h8 : evA ρ (.tmp 8) = some (.str s)) : opA P false call ρ σ (.binOp .eql 9 (.tmp 6) (.tmp 8) 9) = some (.bool true, σ) := by
  show (match evA ρ (.tmp 6), evA ρ (.tmp 8) with
    | some v, some u => (binC P .eql 9 (.tmp 8) v u).map (·, σ)
    | _, _ => none) = _
  rw [h6, h8]
  show some (AV.bool (s.data.toList == s.data.toList), σ) = _
  rw [beq_self_eq_true]
theorem same_call {V : Nm → Prop} {f f' : Bool} {es : List (List PV)} (h : By es) (σ : Heap) : CallIn V Try.prog 18 [.ro f es, .ro f' es] σ (.bool true, σ) := by
  obtain ⟨l, hl⟩ := bytes_some h
  have c1 : ∀ {g : Bool}, convA Try.prog σ 22 9 (.ro g es) = some (.str ⟨l.toArray⟩) := conv_ro u22 u9 u5 hl
  have r0 : ∀ keep fuel, codeA Try.prog false (fun _ _ _ => none) (fun _ _ => none) 10 fuel keep (fstS c18) ⟨σ, initE 0 [.ro f es, .ro f' es]⟩ = some (.nrm, ⟨σ, [(4, .bool false), (0, .ro f es), (1, .ro f' es)]⟩) := fun keep fuel => by kernel_rfl
  have r1 : ∀ keep fuel, codeA Try.prog false (fun _ _ _ => none) (fun _ _ => none) 10 fuel keep d1 ⟨σ, [(4, .bool false), (0, .ro f es), (1, .ro f' es)]⟩ = some (.nrm, ⟨σ, [(4, .bool true), (9, .bool true), (8, .str ⟨l.toArray⟩), (7, .ro f' es), (6, .str ⟨l.toArray⟩), (5, .ro f es), (4, .bool false), (0, .ro f es), (1, .ro f' es)]⟩) := by
    intro keep fuel
    rw [reg18]
    refine code_region ?_
    rw [show (regOps d1).toArray.toList = regOps d1 from rfl]
    generalize (regOps d1).toArray = all
    rw [ops18]
    refine (ops_step (op := .move (.tmp 0)) (dst := some 5) (v := .ro f es) (σ' := σ) (by kernel_rfl) (by kernel_rfl) (by kernel_rfl) rfl rfl).trans ?_
    refine (ops_step (op := .convert 22 9 (.tmp 5)) (dst := some 6) (v := .str ⟨l.toArray⟩) (σ' := σ) (by kernel_rfl) (by kernel_rfl) (by kernel_rfl) rfl (conv_op rfl c1)).trans ?_
    refine (ops_step (op := .move (.tmp 1)) (dst := some 7) (v := .ro f' es) (σ' := σ) (by kernel_rfl) (by kernel_rfl) (by kernel_rfl) rfl rfl).trans ?_
    refine (ops_step (op := .convert 22 9 (.tmp 7)) (dst := some 8) (v := .str ⟨l.toArray⟩) (σ' := σ) (by kernel_rfl) (by kernel_rfl) (by kernel_rfl) rfl (conv_op rfl c1)).trans ?_
    refine (ops_step (op := .binOp .eql 9 (.tmp 6) (.tmp 8) 9) (dst := some 9) (v := .bool true) (σ' := σ) (by kernel_rfl) (by kernel_rfl) (by kernel_rfl) rfl (eql_op rfl rfl)).trans ?_
    refine (ops_step (op := .assign (.tmp 9)) (dst := some 4) (v := .bool true) (σ' := σ) (by kernel_rfl) (by kernel_rfl) (by kernel_rfl) rfl rfl).trans ?_
    rfl
  have hrun : codeA Try.prog false (fun _ _ _ => none) (fun _ _ => none) 10 i18.rounds i18.keep c18 ⟨σ, initE 0 [.ro f es, .ro f' es]⟩ = some (.ret, ⟨σ, [(4, .bool true), (9, .bool true), (8, .str ⟨l.toArray⟩), (7, .ro f' es), (6, .str ⟨l.toArray⟩), (5, .ro f es), (4, .bool false), (0, .ro f es), (1, .ro f' es)]⟩) := by
    rw [shape18, codeA_seq, r0]
    simp only [codeA_seq, r1, codeA_ret]
  exact callIn_goes (f := 18) (i := i18) (c := c18) (by kernel_rfl) (by kernel_rfl) (by kernel_rfl) (args := [.ro f es, .ro f' es]) (Nat.le_of_ble_eq_true (by kernel_rfl)) (goes_plain (n := 10) hrun) (by kernel_rfl)
end Go.Proofs.Ytnglipioaippoaa.T.Disk
