/- Bytes of any content: what copies them, what clones them. -/
import Derived.Test.YtnglipioaippoaaEtab
import Derived.Test.YtnglipioaippoaaEyS
namespace Go.Dx
section
variable {P : Program} {n : Nat}
theorem goes_plain {heapy : Bool} {fuel : Nat} {keep : List Nat} {c : Code} {E : Env} {M : Heap} {x : AX} {s' : St} (run : codeA P heapy (fun _ _ _ => none) (fun _ _ => none) n fuel keep c ⟨M, E⟩ = some (x, s')) : Goes P n c E M x s'.ρ s'.σ :=
  fun V k w a D hR hE {_} hQ => code_ok (V := V) (fun _ _ _ _ h => by cases h) (fun _ _ _ _ _ _ _ _ h => by cases h) run hR hE hQ
/-- One operation. -/
theorem ops_step {heapy : Bool} {call : CallF} {all : Array Oper} {o : Oper} {r : List Oper} {σ σ' : Heap} {ρ : Env} {dst : Option Tmp} {op : Op} {v : AV} (hd : o.dst = dst) (ho : o.op = op) (hg : o.guard = none) (hok : okD dst n = true) (hop : opA P heapy call ρ σ op = some (v, σ')) :
    opsA P heapy call n all (o :: r) ⟨σ, ρ⟩ = opsA P heapy call n all r ⟨σ', putE ρ dst v⟩ := by
  rw [opsA_cons, hd, hok]
  simp only [if_true, wantedA, hg, ho, hop]
def regOps : Code → List Oper
  | .region _ ops _ => ops.toList
  | _ => []
noncomputable def opAt (c : Code) (i : Nat) : Oper := (regOps c)[i]?.getD default
theorem code_region {heapy : Bool} {call : CallF} {draw : DrawF} {fuel : Nat} {keep : List Nat} {s s' : St} {id : Nat} {ops : Array Oper} (h : opsA P heapy call n ops ops.toList s = some s') : codeA P heapy call draw n fuel keep (.region id ops false) s = some (.nrm, s') := by
  rw [codeA_region]
  simp only [Bool.false_eq_true, if_false, h]
end
end Go.Dx
namespace Go.Proofs.Ytnglipioaippoaa.T.Disk
open Go.Dx Go.Proofs

noncomputable def c42 : Code := Try.f42.body.get!
/-- Bytes of the call's own. -/
def bytes (nx : Nat) (es : List (List AV)) (N : Nat) : Blk := .row 5 1 es [(0, N)] nx
theorem ops42 : regOps c42 = [opAt c42 0, opAt c42 1, opAt c42 2, opAt c42 3, opAt c42 4, opAt c42 5, opAt c42 6, opAt c42 7] := by kernel_rfl
theorem reg42 : c42 = .region 0 (regOps c42).toArray false := by kernel_rfl
theorem szB : szA Try.prog 5 = some 1 := by kernel_rfl
theorem u22 : Try.prog.underlying 22 = some (.slice 5) := by kernel_rfl
theorem agg22 : aggA Try.prog 22 = some false := by kernel_rfl
theorem fld (D sub : Nat) : fieldAddrA Try.prog 67 (.ptr D 0 0 sub) 0 = some (.ptr D 0 0 (sub + 0)) := by kernel_rfl
theorem ble_ok {x n : Nat} (h : x ≤ n) : (Nat.ble 0 x && Nat.ble x n) = true := by simp [Nat.ble_eq, h]

/-- 'put': the bytes from a place on are copied. -/
theorem put_run {σ : Heap} {D A sub x N nx tyD szD nD : Nat} {cs rest : List AV} {es ns : List (List AV)} {liveD : List (Nat × Nat)} {xD : Nat} {src : AV} (hD : σ[D]? = some (.row tyD szD [cs] liveD nD)) (hlD : lookE 0 liveD = some xD) (hxD : 0 < xD)
    (hcs : cs.drop sub = .sl A 0 0 N :: rest) (hA : σ[A]? = some (bytes nx es N)) (hx : x ≤ N) (hns : elemsA σ src = some ns) (h1 : ns.all (·.length == 1) = true) (hmin : Nat.min ns.length (N - x) ≠ 0) (keep : List Nat) (fuel : Nat) :
    ∃ ρ, codeA Try.prog false (fun _ _ _ => none) (fun _ _ => none) 14 fuel keep c42 ⟨σ, initE 0 [.ptr D 0 0 sub, .int .i64 x, src]⟩ = some (.nrm, ⟨σ.set A (bytes nx (putL es x (ns.take (Nat.min ns.length (N - x)))) N), ρ⟩) := by
  apply Exists.intro
  rw [reg42]
  refine code_region ?_
  rw [show (regOps c42).toArray.toList = regOps c42 from rfl]
  generalize (regOps c42).toArray = all
  rw [ops42]
  have hcell : cellsAt σ (.ptr D 0 0 (sub + 0)) = some (cs.drop sub) := by
    simp only [cellsAt, hD, hlD]
    show (if 0 < xD then some (cs.drop (sub + 0)) else none) = _
    rw [if_pos hxD, Nat.add_zero]
  refine (ops_step (v := .ptr D 0 0 sub) (σ' := σ) rfl rfl rfl rfl rfl).trans ?_
  refine (ops_step (v := .ptr D 0 0 sub) (σ' := σ) rfl rfl rfl rfl rfl).trans ?_
  refine (ops_step (v := .ptr D 0 0 (sub + 0)) (σ' := σ) rfl rfl rfl rfl rfl).trans ?_
  refine (ops_step (v := .sl A 0 0 N) (σ' := σ) rfl rfl rfl rfl (by
    show ((some (AV.ptr D 0 0 (sub + 0))).bind fun v => (loadA Try.prog σ 22 v).map (·, σ)) = _
    simp only [Option.bind_some, loadA, hcell, hcs, agg22, Option.map_some])).trans ?_
  refine (ops_step (v := .int .i64 x) (σ' := σ) rfl rfl rfl rfl rfl).trans ?_
  have hsl : sliceA Try.prog σ 22 (.sl A 0 0 N) (some (.int .i64 (x : Nat))) none none = some (.sl A 0 x (N - x)) := by
    have hb : boundA (some (AV.int .i64 (x : Nat))) 0 0 N = some x := by
      show cond (Nat.ble 0 x && Nat.ble x N) (some x) none = some x
      rw [ble_ok hx]; rfl
    simp only [sliceA, sliceA0, u22, szB, sliceS, blkSz, hA, bytes, show boundA none N 0 N = some N from rfl, hb, beq_self_eq_true, if_true, Nat.zero_add]
  refine (ops_step (v := .sl A 0 x (N - x)) (σ' := σ) rfl rfl rfl rfl (by
    show (sliceA Try.prog σ 22 (.sl A 0 0 N) (some (.int .i64 (x : Nat))) none none).map (·, σ) = _
    rw [hsl]; rfl)).trans ?_
  refine (ops_step (v := src) (σ' := σ) rfl rfl rfl rfl rfl).trans ?_
  have hcp : copyA Try.prog σ 22 (.sl A 0 x (N - x)) src = some (.int .i64 (Nat.min ns.length (N - x) : Nat), σ.set A (bytes nx (putL es x (ns.take (Nat.min ns.length (N - x)))) N)) := by
    have hm : (Nat.min ns.length (N - x) == 0) = false := by simpa using hmin
    have hA' : σ[A]? = some (.row 5 1 es [(0, N)] nx) := hA
    simp only [copyA, u22, szB, hns, h1, Nat.lt_one_iff, decide_true, Bool.and_self, if_true, hm, Bool.false_eq_true, if_false, hA']
    have hl : lookE 0 [(0, N)] = some N := rfl
    have hle : decide (x + (N - x) ≤ N) = true := by simp; omega
    simp only [hl, beq_self_eq_true, hle, Bool.and_self, if_true]
    rfl
  refine (ops_step (v := .int .i64 (Nat.min ns.length (N - x) : Nat)) (σ' := σ.set A (bytes nx (putL es x (ns.take (Nat.min ns.length (N - x)))) N)) rfl rfl rfl rfl (by
    show copyA Try.prog σ 22 (.sl A 0 x (N - x)) src = _
    exact hcp)).trans ?_
  rfl
theorem put_zero {σ : Heap} {D A sub x N nx tyD szD nD : Nat} {cs rest : List AV} {es ns : List (List AV)} {liveD : List (Nat × Nat)} {xD : Nat} {src : AV} (hD : σ[D]? = some (.row tyD szD [cs] liveD nD)) (hlD : lookE 0 liveD = some xD) (hxD : 0 < xD)
    (hcs : cs.drop sub = .sl A 0 0 N :: rest) (hA : σ[A]? = some (bytes nx es N)) (hx : x ≤ N) (hns : elemsA σ src = some ns) (h1 : ns.all (·.length == 1) = true) (hmin : Nat.min ns.length (N - x) = 0) (keep : List Nat) (fuel : Nat) :
    ∃ ρ, codeA Try.prog false (fun _ _ _ => none) (fun _ _ => none) 14 fuel keep c42 ⟨σ, initE 0 [.ptr D 0 0 sub, .int .i64 x, src]⟩ = some (.nrm, ⟨σ, ρ⟩) := by
  apply Exists.intro
  rw [reg42]
  refine code_region ?_
  rw [show (regOps c42).toArray.toList = regOps c42 from rfl]
  generalize (regOps c42).toArray = all
  rw [ops42]
  have hcell : cellsAt σ (.ptr D 0 0 (sub + 0)) = some (cs.drop sub) := by
    simp only [cellsAt, hD, hlD]
    show (if 0 < xD then some (cs.drop (sub + 0)) else none) = _
    rw [if_pos hxD, Nat.add_zero]
  refine (ops_step (v := .ptr D 0 0 sub) (σ' := σ) rfl rfl rfl rfl rfl).trans ?_
  refine (ops_step (v := .ptr D 0 0 sub) (σ' := σ) rfl rfl rfl rfl rfl).trans ?_
  refine (ops_step (v := .ptr D 0 0 (sub + 0)) (σ' := σ) rfl rfl rfl rfl rfl).trans ?_
  refine (ops_step (v := .sl A 0 0 N) (σ' := σ) rfl rfl rfl rfl (by
    show ((some (AV.ptr D 0 0 (sub + 0))).bind fun v => (loadA Try.prog σ 22 v).map (·, σ)) = _
    simp only [Option.bind_some, loadA, hcell, hcs, agg22, Option.map_some])).trans ?_
  refine (ops_step (v := .int .i64 x) (σ' := σ) rfl rfl rfl rfl rfl).trans ?_
  have hsl : sliceA Try.prog σ 22 (.sl A 0 0 N) (some (.int .i64 (x : Nat))) none none = some (.sl A 0 x (N - x)) := by
    have hb : boundA (some (AV.int .i64 (x : Nat))) 0 0 N = some x := by
      show cond (Nat.ble 0 x && Nat.ble x N) (some x) none = some x
      rw [ble_ok hx]; rfl
    simp only [sliceA, sliceA0, u22, szB, sliceS, blkSz, hA, bytes, show boundA none N 0 N = some N from rfl, hb, beq_self_eq_true, if_true, Nat.zero_add]
  refine (ops_step (v := .sl A 0 x (N - x)) (σ' := σ) rfl rfl rfl rfl (by
    show (sliceA Try.prog σ 22 (.sl A 0 0 N) (some (.int .i64 (x : Nat))) none none).map (·, σ) = _
    rw [hsl]; rfl)).trans ?_
  refine (ops_step (v := src) (σ' := σ) rfl rfl rfl rfl rfl).trans ?_
  have hcp : copyA Try.prog σ 22 (.sl A 0 x (N - x)) src = some (.int .i64 0, σ) := by
    have hm : (Nat.min ns.length (N - x) == 0) = true := by rw [hmin]; rfl
    simp only [copyA, u22, szB, hns, h1, Nat.lt_one_iff, decide_true, Bool.and_self, if_true, hm]
  refine (ops_step (v := .int .i64 0) (σ' := σ) rfl rfl rfl rfl (by
    show copyA Try.prog σ 22 (.sl A 0 x (N - x)) src = _
    exact hcp)).trans ?_
  rfl
theorem set_self {α : Type} {l : List α} {i : Nat} {a : α} (h : l[i]? = some a) : l.set i a = l := by
  apply List.ext_getElem?
  intro j
  by_cases hj : i = j
  · subst hj; rw [List.getElem?_set_self (List.getElem?_eq_some_iff.1 h).1, h]
  · rw [List.getElem?_set_ne hj]
/-- What 'put' leaves. -/
def puts (es ns : List (List AV)) (x N : Nat) : List (List AV) := putL es x (ns.take (Nat.min ns.length (N - x)))
theorem end42 (σ : Heap) (ρ : Env) : endA Try.prog i42 (some (.nrm, ⟨σ, ρ⟩)) = some (.tup [], σ) := by kernel_rfl
theorem put_call {V : Nm → Prop} {σ : Heap} {D A sub x N nx tyD szD nD : Nat} {cs rest : List AV} {es ns : List (List AV)} {liveD : List (Nat × Nat)} {xD : Nat} {src : AV} (hD : σ[D]? = some (.row tyD szD [cs] liveD nD)) (hlD : lookE 0 liveD = some xD) (hxD : 0 < xD)
    (hcs : cs.drop sub = .sl A 0 0 N :: rest) (hA : σ[A]? = some (bytes nx es N)) (hx : x ≤ N) (hns : elemsA σ src = some ns) (h1 : ns.all (·.length == 1) = true) :
    CallIn V Try.prog 42 [.ptr D 0 0 sub, .int .i64 x, src] σ (.tup [], σ.set A (bytes nx (puts es ns x N) N)) := by
  by_cases hm : Nat.min ns.length (N - x) = 0
  · obtain ⟨ρ, hrun⟩ := put_zero hD hlD hxD hcs hA hx hns h1 hm i42.keep i42.rounds
    have he : σ.set A (bytes nx (puts es ns x N) N) = σ := by
      have : puts es ns x N = es := by unfold puts; rw [hm]; simp [putL]
      rw [this]
      exact set_self hA
    rw [he]
    exact callIn_goes (f := 42) (i := i42) (c := c42) (by kernel_rfl) (by kernel_rfl) (by kernel_rfl) (args := [.ptr D 0 0 sub, .int .i64 x, src]) (Nat.le_of_ble_eq_true (by kernel_rfl)) (goes_plain (n := 14) hrun) (end42 _ _)
  · obtain ⟨ρ, hrun⟩ := put_run hD hlD hxD hcs hA hx hns h1 hm i42.keep i42.rounds
    exact callIn_goes (f := 42) (i := i42) (c := c42) (by kernel_rfl) (by kernel_rfl) (by kernel_rfl) (args := [.ptr D 0 0 sub, .int .i64 x, src]) (Nat.le_of_ble_eq_true (by kernel_rfl)) (goes_plain (n := 14) hrun) (end42 _ _)

/-! ### Clone -/
noncomputable def c41 : Code := Try.f41.body.get!
noncomputable def k1 : Code := fstS c41
noncomputable def k2 : Code := fstS (fstS (sndS c41))
noncomputable def k3 : Code := fstS (sndS (sndS c41))
noncomputable def kT : Code := match sndS (fstS (sndS c41)) with | .cond _ x _ => x | c => c
theorem shape41 : c41 = .seq k1 (.seq (.seq k2 (.cond (.tmp 4) kT .skip)) (.seq k3 .ret)) := by kernel_rfl
theorem ops3 : regOps k3 = [opAt k3 0, opAt k3 1, opAt k3 2, opAt k3 3] := by kernel_rfl
theorem reg3 : k3 = .region 3 (regOps k3).toArray false := by kernel_rfl
theorem info5s : (Try.prog.info? 5).map (fun i => (i.size, i.bytes)) = some (1, 1) := by kernel_rfl
theorem info5 : ∃ inf, Try.prog.info? 5 = some inf ∧ inf.size = 1 ∧ inf.bytes = 1 := by
  obtain ⟨i, h1, h2⟩ := Option.map_eq_some_iff.1 info5s
  simp only [Prod.mk.injEq] at h2
  exact ⟨i, h1, h2.1, h2.2⟩
theorem zero5 : zeroA Try.prog 5 = some [.int .u8 0] := by kernel_rfl
theorem seq22 : isSeq Try.prog 22 = true := by kernel_rfl
theorem empty_op {P : Program} {call : CallF} {σ : Heap} (h : ∀ id, buildSliceM P false id 22 0 [] = some (.emp, none)) (ρ : Env) : opA P false call ρ σ (.buildSlice 22 0 #[]) = some (.emp, σ) := by
  show ((evps ρ []).bind fun vs => (buildSliceM P false σ.length 22 0 vs).map (putM σ)) = _
  rw [show evps ρ [] = some [] from rfl, Option.bind_some, h]
  simp [putM]
theorem append_op {P : Program} {call : CallF} {σ : Heap} {ρ : Env} {a b : AV} {r : AV × Heap} (ha : evA ρ (.tmp 5) = some a) (hb : evA ρ (.tmp 6) = some b) (h : builtinA P σ .append [22, 22] [a, b] = some r) : opA P false call ρ σ (.call ⟨.builtin .append, #[.tmp 5, .tmp 6], #[22, 22]⟩) = some r := by
  show (match evs ρ [.tmp 5, .tmp 6] with
    | some vs => builtinA P σ .append [22, 22] vs
    | none => none) = some r
  simp only [evs, ha, hb, h]
theorem builtin_app {P : Program} {σ : Heap} {s x : AV} (hx : ∀ k n, x ≠ .int k n) : builtinA P σ .append [22, 22] [s, x] = appendA P σ 22 22 s x := by
  cases x <;> first
    | rfl
    | exact absurd rfl (hx _ _)
theorem build0 (id : Nat) : buildSliceM Try.prog false id 22 0 [] = some (.emp, none) := by kernel_rfl
/-- 'append' to nothing. -/
theorem app_run {σ : Heap} {x : AV} {ns : List (List AV)} (hns : elemsA σ x = some ns) (h1 : ns.all (·.length == 1) = true) (hne : ns.isEmpty = false) (hl : ns.length ≤ 1000000) : appendA Try.prog σ 22 22 .emp x = some (.sl σ.length 0 0 ns.length, newA σ 5 1 ns) := by
  obtain ⟨inf, hi, hs, hb⟩ := info5
  have hc1 : decide (ns.length * inf.bytes ≤ capBytes) = true := by rw [hb]; unfold capBytes; simp; omega
  have hc2 : decide (ns.length ≤ capBytes) = true := by unfold capBytes; simp; omega
  have h1' : ns.all (fun y => y.length == inf.size) = true := by rw [hs]; exact h1
  have h2' : ([AV.int IntKind.u8 0].length == inf.size) = true := by rw [hs]; rfl
  have h3' : decide (0 < inf.size) = true := by rw [hs]; rfl
  simp only [appendA, u22, hi, zero5, hns, seq22, h1', h2', h3', hc1, hc2, Bool.and_self, if_true, hne, Bool.false_eq_true, if_false, appendTo, hs]
  rw [h1]; rfl
theorem clone_run {σ : Heap} {x : AV} {ns : List (List AV)} (hnil : evA [(4, .bool false), (3, x), (2, .nils), (0, x)] (.tmp 4) = some (.bool false)) (h2 : ∀ (keep : List Nat) (fuel : Nat), codeA Try.prog false (fun _ _ _ => none) (fun _ _ => none) 8 fuel keep k2 ⟨σ, [(2, .nils), (0, x)]⟩ = some (.nrm, ⟨σ, [(4, .bool false), (3, x), (2, .nils), (0, x)]⟩))
    (hns : elemsA σ x = some ns) (h1 : ns.all (·.length == 1) = true) (hne : ns.isEmpty = false) (hl : ns.length ≤ 1000000) (keep : List Nat) (fuel : Nat) :
    ∃ ρ, codeA Try.prog false (fun _ _ _ => none) (fun _ _ => none) 8 fuel keep c41 ⟨σ, initE 0 [x]⟩ = some (.ret, ⟨newA σ 5 1 ns, ρ⟩) ∧ resA Try.prog ⟨newA σ 5 1 ns, ρ⟩ i41.fn.results.toList = some [.sl σ.length 0 0 ns.length] := by
  have r1 : codeA Try.prog false (fun _ _ _ => none) (fun _ _ => none) 8 fuel keep k1 ⟨σ, initE 0 [x]⟩ = some (.nrm, ⟨σ, [(2, .nils), (0, x)]⟩) := by kernel_rfl
  have r3 : codeA Try.prog false (fun _ _ _ => none) (fun _ _ => none) 8 fuel keep k3 ⟨σ, [(4, .bool false), (3, x), (2, .nils), (0, x)]⟩ = some (.nrm, ⟨newA σ 5 1 ns, [(2, .sl σ.length 0 0 ns.length), (7, .sl σ.length 0 0 ns.length), (6, x), (5, .emp), (4, .bool false), (3, x), (2, .nils), (0, x)]⟩) := by
    rw [reg3]
    refine code_region ?_
    rw [show (regOps k3).toArray.toList = regOps k3 from rfl]
    generalize (regOps k3).toArray = all
    rw [ops3]
    have hb : ∀ ρ, opA Try.prog false (fun _ _ _ => none) ρ σ (.buildSlice 22 0 #[]) = some (.emp, σ) := fun ρ => empty_op build0 ρ
    refine (ops_step (op := .buildSlice 22 0 #[]) (v := .emp) (σ' := σ) rfl rfl rfl rfl (hb _)).trans ?_
    refine (ops_step (v := x) (σ' := σ) rfl rfl rfl rfl rfl).trans ?_
    have hx : builtinA Try.prog σ .append [22, 22] [.emp, x] = some (.sl σ.length 0 0 ns.length, newA σ 5 1 ns) := by
      rw [builtin_app fun k n he => by subst he; cases hns]
      exact app_run hns h1 hne hl
    refine (ops_step (op := .call ⟨.builtin .append, #[.tmp 5, .tmp 6], #[22, 22]⟩) (dst := some 7) (v := .sl σ.length 0 0 ns.length) (σ' := newA σ 5 1 ns) (by kernel_rfl) (by kernel_rfl) (by kernel_rfl) rfl (append_op rfl rfl hx)).trans ?_
    refine (ops_step (op := .assign (.tmp 7)) (dst := some 2) (v := .sl σ.length 0 0 ns.length) (σ' := newA σ 5 1 ns) (by kernel_rfl) (by kernel_rfl) (by kernel_rfl) rfl rfl).trans ?_
    rfl
  refine ⟨[(2, .sl σ.length 0 0 ns.length), (7, .sl σ.length 0 0 ns.length), (6, x), (5, .emp), (4, .bool false), (3, x), (2, .nils), (0, x)], ?_, by kernel_rfl⟩
  rw [shape41, codeA_seq, r1]
  simp only [codeA_seq, h2, codeA_cond, hnil, codeA_skip, r3, codeA_ret]
theorem clone_call {V : Nm → Prop} {σ : Heap} {x : AV} {ns : List (List AV)} (hnil : evA [(4, .bool false), (3, x), (2, .nils), (0, x)] (.tmp 4) = some (.bool false)) (h2 : ∀ (keep : List Nat) (fuel : Nat), codeA Try.prog false (fun _ _ _ => none) (fun _ _ => none) 8 fuel keep k2 ⟨σ, [(2, .nils), (0, x)]⟩ = some (.nrm, ⟨σ, [(4, .bool false), (3, x), (2, .nils), (0, x)]⟩))
    (hns : elemsA σ x = some ns) (h1 : ns.all (·.length == 1) = true) (hne : ns.isEmpty = false) (hl : ns.length ≤ 1000000) : CallIn V Try.prog 41 [x] σ (.sl σ.length 0 0 ns.length, newA σ 5 1 ns) := by
  obtain ⟨ρ, hrun, hres⟩ := clone_run hnil h2 hns h1 hne hl i41.keep i41.rounds
  refine callIn_goes (f := 41) (i := i41) (c := c41) (by kernel_rfl) (by kernel_rfl) (by kernel_rfl) (args := [x]) (Nat.le_of_ble_eq_true (by kernel_rfl)) (goes_plain (n := 8) hrun) ?_
  simp only [endA]
  rw [show (i41.fn.results.toList) = i41.fn.results.toList from rfl, hres]
  rfl
/-- An own slice is cloned. -/
theorem clone_own {V : Nm → Prop} {σ : Heap} {A N nx : Nat} {es : List (List AV)} (hA : σ[A]? = some (bytes nx es N)) (h1 : ((es.drop 0).take N).all (·.length == 1) = true) (hN : ((es.drop 0).take N).length = N) (hp : 0 < N) (hl : N ≤ 1000000) :
    CallIn V Try.prog 41 [.sl A 0 0 N] σ (.sl σ.length 0 0 N, newA σ 5 1 ((es.drop 0).take N)) := by
  have hns : elemsA σ (.sl A 0 0 N) = some ((es.drop 0).take N) := by
    have hA' : σ[A]? = some (.row 5 1 es [(0, N)] nx) := hA
    simp only [elemsA, hA', show lookE 0 [(0, N)] = some N from rfl, Nat.zero_add, Nat.le_refl, if_true]
  have := clone_call (V := V) (x := .sl A 0 0 N) rfl (fun keep fuel => by kernel_rfl) hns h1 (by
    cases h : (es.drop 0).take N with
    | nil => rw [h] at hN; simp at hN; omega
    | cons => rfl) (by rw [hN]; exact hl)
  rw [hN] at this
  exact this
/-- A frozen one. -/
theorem clone_ro {V : Nm → Prop} {σ : Heap} {f : Bool} {es : List (List PV)} (h1 : ∀ e ∈ es, e.length = 1) (hne : es ≠ []) (hl : es.length ≤ 1000000) :
    CallIn V Try.prog 41 [.ro f es] σ (.sl σ.length 0 0 es.length, newA σ 5 1 (es.map (·.map up))) := by
  have := clone_call (V := V) (σ := σ) (x := .ro f es) (ns := es.map (·.map up)) rfl (fun keep fuel => by kernel_rfl) rfl (by
    rw [List.all_eq_true]; intro e he; obtain ⟨e', he', rfl⟩ := List.mem_map.1 he; simp [h1 e' he']) (by cases es <;> simp_all) (by simpa using hl)
  simpa using this
end Go.Proofs.Ytnglipioaippoaa.T.Disk
