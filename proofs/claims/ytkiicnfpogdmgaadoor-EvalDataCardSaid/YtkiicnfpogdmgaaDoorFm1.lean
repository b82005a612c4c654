/- Which data are valid: the runs of both functions. -/
import Derived.Test.YtkiicnfpogdmgaaDoorVw3
namespace Go.Proofs.YtkiicnfpogdmgaaDoor.T.Frm
open Go.Dx Go.Proofs Same Wgh

def elC : Code → Code
  | .cond _ _ y => y
  | c => c
def thC : Code → Code
  | .cond _ x _ => x
  | c => c
noncomputable def c20 : Code := Tryd.f20.body.get!
noncomputable def c21 : Code := Tryd.f21.body.get!
noncomputable def sw (c : Code) : Code := inB (sndS (fstS (sndS c)))
noncomputable def s2 (c : Code) : Code := elC (sndS (sw c))
noncomputable def s3 (c : Code) : Code := elC (sndS (s2 c))
noncomputable def s4 (c : Code) : Code := elC (sndS (s3 c))
noncomputable def lp (c : Code) : Code := thC (sndS (s4 c))
/-- The list's loop, its inside; what is behind it. -/
noncomputable def lpB (c : Code) : Code := inL (inB (sndS (fstS (lp c))))

/-- Names: 0 kind, 1 number, 2 the list's length, 3 the index, 4 the next one, 10 the text's length; text 0, list 1. -/
def dF (E : List (Nat × Option Nat × Bool)) (B : List Fact) : List AV := tD E B 0 1 0 10 2 1
def eF (B : List Fact) : List AV := tD [] B 11 12 2 14 13 3
def wF (B : List Fact) : List AV := tW [] B 0 1 0 10 2 1 3 (eF B)
def kf (j : Nat) (b : Bool) : Fact := ⟨.eql, .i64, .tok 0, .lit j, .bool b⟩
def F0 : List Fact := [kf 1 false, kf 2 false, kf 3 false, kf 4 false]
def F1 (z : Bool) : List Fact := [kf 1 true, ⟨.eql, .i64, .tok 2, .lit 0, .bool z⟩]
def F2 (n z : Bool) : List Fact := [kf 1 false, kf 2 true, ⟨.eql, .i64, .tok 1, .lit 0, .bool n⟩, ⟨.eql, .i64, .tok 2, .lit 0, .bool z⟩]
def F3 (n m z : Bool) : List Fact := [kf 1 false, kf 2 false, kf 3 true, ⟨.eql, .i64, .tok 1, .lit 0, .bool n⟩, ⟨.eql, .i64, .tok 1, .lit 1, .bool m⟩, ⟨.eql, .i64, .tok 2, .lit 0, .bool z⟩]
def F4 : List Fact := [kf 1 false, kf 2 false, kf 3 false, kf 4 true]
def F5 (n : Bool) : List Fact := [⟨.eql, .i64, .tok 1, .lit 0, .bool n⟩]
def Ee (e : Bool) : List (Nat × Option Nat × Bool) := [(0, none, e)]
def Lw : List Fact := [⟨.lss, .i64, .tok 3, .tok 2, .bool true⟩, ⟨.add, .i64, .tok 3, .lit 1, .tok 4⟩]
def Le : List Fact := [⟨.lss, .i64, .tok 3, .tok 2, .bool false⟩]

/-- What is run of such a function. -/
structure Sv (f : FuncId) (i : FnI) (c : Code) (ks q1 q2 q3 q4 : Nat) (pE : PV → Nat → Int → Env) (tE : List Fact → AV → AV → Env) (junk : Heap) : Prop where
  fn : Tryd.prog.funcs[f]? = some i.fn
  name : (i.fn.name == "runtime.NumGoroutine") = false
  body : i.fn.body = some c
  nt : 1 ≤ i.fn.ntmps
  mode : modesOf tab f = 0
  shape : c = .seq (pre1 c) (.seq (.seq (fstS (fstS (sndS c))) (.block 0 (.seq (fstS (sw c)) (.cond (.tmp q1) (thC (sndS (sw c))) (.seq (fstS (s2 c)) (.cond (.tmp q2) (thC (sndS (s2 c))) (.seq (fstS (s3 c)) (.cond (.tmp q3) (thC (sndS (s3 c))) (.seq (fstS (s4 c)) (.cond (.tmp q4)
    (.seq (.seq (fstS (fstS (lp c))) (.block 1 (.loop (lpB c)))) (sndS (lp c))) .skip))))))))) ) (sndS (sndS c)))
  k0 : run i [] [2] c (initE 0 [.agg (dF [] F0)]) [] = some (.ret, [(2, .bool false)], [box (dF [] F0)])
  k1 : ∀ e z, run i [] [2] c (initE 0 [.agg (dF (Ee e) (F1 z))]) [] = some (.ret, [(2, .bool (e && z))], [box (dF (Ee e) (F1 z))])
  k2 : ∀ n z, run i [] [2] c (initE 0 [.agg (dF [] (F2 n z))]) [] = some (.ret, [(2, .bool (n && z))], [box (dF [] (F2 n z))])
  k3 : ∀ n m e z, run i [] [2] c (initE 0 [.agg (dF (Ee e) (F3 n m z))]) [] = some (.ret, [(2, .bool ((n || m) && e && z))], [box (dF (Ee e) (F3 n m z))])
  p1 : run i [] [1] (pre1 c) (initE 0 [.agg (dF [] [])]) [] = some (.nrm, [(1, .ptr 0 0 0 0)], [box (dF [] [])])
  p2 : run i [] [1, ks] (fstS (fstS (sndS c))) [(1, .ptr 0 0 0 0)] [box (dF [] [])] = some (.nrm, [(1, .ptr 0 0 0 0), (ks, .tok [] .i64 0)], [box (dF [] [])])
  t1 : run i [] [1, ks, q1] (fstS (sw c)) [(1, .ptr 0 0 0 0), (ks, .tok F4 .i64 0)] [box (dF [] F4)] = some (.nrm, [(1, .ptr 0 0 0 0), (ks, .tok F4 .i64 0), (q1, .bool false)], [box (dF [] F4)])
  t2 : run i [] [1, ks, q2] (fstS (s2 c)) [(1, .ptr 0 0 0 0), (ks, .tok F4 .i64 0), (q1, .bool false)] [box (dF [] F4)] = some (.nrm, [(1, .ptr 0 0 0 0), (ks, .tok F4 .i64 0), (q2, .bool false)], [box (dF [] F4)])
  t3 : run i [] [1, ks, q3] (fstS (s3 c)) [(1, .ptr 0 0 0 0), (ks, .tok F4 .i64 0), (q2, .bool false)] [box (dF [] F4)] = some (.nrm, [(1, .ptr 0 0 0 0), (ks, .tok F4 .i64 0), (q3, .bool false)], [box (dF [] F4)])
  t4 : run i [] [1, ks, q4] (fstS (s4 c)) [(1, .ptr 0 0 0 0), (ks, .tok F4 .i64 0), (q3, .bool false)] [box (dF [] F4)] = some (.nrm, [(1, .ptr 0 0 0 0), (ks, .tok F4 .i64 0), (q4, .bool true)], [box (dF [] F4)])
  lead : run i [] ((tE [] .und .und).map (·.1)) (fstS (fstS (lp c))) [(1, .ptr 0 0 0 0), (ks, .tok F4 .i64 0), (q4, .bool true)] [box (dF [] F4)] = some (.nrm, tE F4 (.lsl F4 1 2 (.lit 0) []) (.int .i64 0), [box (dF [] F4)])
  yes : run i [(f, [.agg (eF Lw)], .bool true)] ((tE [] .und .und).map (·.1)) (lpB c) (tE Lw (.lsl Lw 1 2 (.tok 3) (eF Lw)) (.tok Lw .i64 3)) [box (wF Lw)] = some (.nrm, tE Lw (.lsl Lw 1 2 (.tok 3) (eF Lw)) (.tok Lw .i64 4), box (wF Lw) :: junk.map (fun _ => box (eF Lw)))
  no : run i [(f, [.agg (eF Lw)], .bool false)] [2] (lpB c) (tE Lw (.lsl Lw 1 2 (.tok 3) (eF Lw)) (.tok Lw .i64 3)) [box (wF Lw)] = some (.ret, [(2, .bool false)], box (wF Lw) :: junk.map (fun _ => box (eF Lw)))
  fin : run i [] [1] (lpB c) (tE Le (.lsl Le 1 2 (.lit 0) []) (.tok Le .i64 3)) [box (dF [] Le)] = some (.ext 1, [(1, .ptr 0 0 0 0)], [box (dF [] Le)])
  last : ∀ n e, run i [] [2] (sndS (lp c)) [(1, .ptr 0 0 0 0)] [box (dF (Ee e) (F5 n))] = some (.ret, [(2, .bool (n && e))], [box (dF (Ee e) (F5 n))])
  res : ∀ b, endA Tryd.prog i (some (.ret, ⟨[.hole], [(2, .bool b)]⟩)) = some (.bool b, [.hole])
  up : ∀ {v : Nm} {B : List Fact} {l : PV} {len : Nat} {i : Int} {x y : AV}, Valid v B → v 2 = (len : Int) → Up v (up l) x → Up v (.int .i64 i) y → ET (Up v) (pE l len i) (tE B x y)
  down : ∀ {v : Nm} {B : List Fact} {l : PV} {len : Nat} {i : Int} {x y : AV}, v 2 = (len : Int) → Down v x (Dx.up l) → Down v y (.int .i64 i) → ET (Down v) (tE B x y) (pE l len i)
  lo : ∀ l len i, (pE l len i).all (fun p => loV 1 p.2) = true
  g1 : evA [(1, .ptr 0 0 0 0), (ks, .int .i64 4), (q1, .bool false)] (.tmp q1) = some (.bool false)
  g2 : evA [(1, .ptr 0 0 0 0), (ks, .int .i64 4), (q2, .bool false)] (.tmp q2) = some (.bool false)
  g3 : evA [(1, .ptr 0 0 0 0), (ks, .int .i64 4), (q3, .bool false)] (.tmp q3) = some (.bool false)
  g4 : evA [(1, .ptr 0 0 0 0), (ks, .int .i64 4), (q4, .bool true)] (.tmp q4) = some (.bool true)

def p20 (l : PV) (len : Nat) (i : Int) : Env := [(1, .ptr 0 0 0 0), (53, up l), (54, .int .i64 len), (55, .int .i64 i)]
def t20 (B : List Fact) (x y : AV) : Env := [(1, .ptr 0 0 0 0), (53, x), (54, .tok B .i64 2), (55, y)]
def p21 (_ : PV) (_ : Nat) (i : Int) : Env := [(1, .ptr 0 0 0 0), (3, .int .i64 i)]
def t21 (_ : List Fact) (_ y : AV) : Env := [(1, .ptr 0 0 0 0), (3, y)]
theorem lo_up (n : Nat) (l : PV) : loV n (up l) = true := by cases l <;> rfl
theorem v20 : Sv 20 i20 c20 6 7 18 29 50 p20 t20 [.hole] where
  fn := by kernel_rfl
  name := by kernel_rfl
  body := by kernel_rfl
  nt := Nat.le_of_ble_eq_true (by kernel_rfl)
  mode := by kernel_rfl
  shape := by kernel_rfl
  k0 := by kernel_rfl
  k1 e z := by cases e <;> cases z <;> kernel_rfl
  k2 e z := by cases e <;> cases z <;> kernel_rfl
  k3 n m e z := by cases n <;> cases m <;> cases e <;> cases z <;> kernel_rfl
  p1 := by kernel_rfl
  p2 := by kernel_rfl
  t1 := by kernel_rfl
  t2 := by kernel_rfl
  t3 := by kernel_rfl
  t4 := by kernel_rfl
  lead := by kernel_rfl
  yes := by kernel_rfl
  no := by kernel_rfl
  fin := by kernel_rfl
  last n e := by cases n <;> cases e <;> kernel_rfl
  res b := by cases b <;> kernel_rfl
  up hB h2 hx hy := .cons ⟨rfl, Up.same rfl⟩ (.cons ⟨rfl, hx⟩ (.cons ⟨rfl, Up.tok hB _ _ h2⟩ (.cons ⟨rfl, hy⟩ .nil)))
  down h2 hx hy := .cons ⟨rfl, Down.same rfl⟩ (.cons ⟨rfl, hx⟩ (.cons ⟨rfl, Down.tok _ _ h2⟩ (.cons ⟨rfl, hy⟩ .nil)))
  lo l len i := by simp only [p20, List.all_cons, List.all_nil, lo_up]; rfl
  g1 := by kernel_rfl
  g2 := by kernel_rfl
  g3 := by kernel_rfl
  g4 := by kernel_rfl
theorem v21 : Sv 21 i21 c21 5 6 17 28 49 p21 t21 [] where
  fn := by kernel_rfl
  name := by kernel_rfl
  body := by kernel_rfl
  nt := Nat.le_of_ble_eq_true (by kernel_rfl)
  mode := by kernel_rfl
  shape := by kernel_rfl
  k0 := by kernel_rfl
  k1 e z := by cases e <;> cases z <;> kernel_rfl
  k2 e z := by cases e <;> cases z <;> kernel_rfl
  k3 n m e z := by cases n <;> cases m <;> cases e <;> cases z <;> kernel_rfl
  p1 := by kernel_rfl
  p2 := by kernel_rfl
  t1 := by kernel_rfl
  t2 := by kernel_rfl
  t3 := by kernel_rfl
  t4 := by kernel_rfl
  lead := by kernel_rfl
  yes := by kernel_rfl
  no := by kernel_rfl
  fin := by kernel_rfl
  last n e := by cases n <;> cases e <;> kernel_rfl
  res b := by cases b <;> kernel_rfl
  up hB h2 hx hy := .cons ⟨rfl, Up.same rfl⟩ (.cons ⟨rfl, hy⟩ .nil)
  down h2 hx hy := .cons ⟨rfl, Down.same rfl⟩ (.cons ⟨rfl, hy⟩ .nil)
  lo l len i := rfl
  g1 := by kernel_rfl
  g2 := by kernel_rfl
  g3 := by kernel_rfl
  g4 := by kernel_rfl
end Go.Proofs.YtkiicnfpogdmgaaDoor.T.Frm
