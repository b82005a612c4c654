/- The law on what a disk keeps: told arguments; what is run ahead of its loop. -/
import Derived.Test.YtnglipioaippoaaDk3
namespace Go.Proofs.Ytnglipioaippoaa.T.Disk
open Go.Dx Go.Proofs

noncomputable def c3 : Code := Try.f3.body.get!
/-- The i-th piece of a chain, and what stands behind it. -/
def tailS : Nat → Code → Code
  | 0, c => c
  | n + 1, c => tailS n (sndS c)
noncomputable def pc (i : Nat) : Code := fstS (tailS i c3)
theorem shape3 : c3 = seqs [pc 0, pc 1, pc 2, pc 3] (.seq (pc 4) (seqs [pc 5, pc 6, pc 7, pc 8, pc 9] (.seq (pc 10) (seqs [pc 11, pc 12] (.seq (pc 13) (tailS 14 c3)))))) := by kernel_rfl
def G0 : List Fact := [⟨.gtr, .i64, .tok 5, .lit 200, .bool false⟩,
  ⟨.sub, .i64, .lit 64, .tok 0, .tok 6⟩, ⟨.lss, .i64, .tok 6, .lit 1, .bool false⟩, ⟨.rem, .i64, .tok 2, .tok 6, .tok 7⟩, ⟨.add, .i64, .tok 7, .tok 6, .tok 8⟩, ⟨.rem, .i64, .tok 8, .tok 6, .tok 9⟩,
  ⟨.sub, .i64, .lit 64, .tok 1, .tok 10⟩, ⟨.lss, .i64, .tok 10, .lit 1, .bool false⟩, ⟨.rem, .i64, .tok 3, .tok 10, .tok 11⟩, ⟨.add, .i64, .tok 11, .tok 10, .tok 12⟩, ⟨.rem, .i64, .tok 12, .tok 10, .tok 13⟩,
  ⟨.geq, .i64, .tok 9, .lit 0, .bool true⟩, ⟨.geq, .i64, .tok 0, .lit 0, .bool true⟩, ⟨.leq, .i64, .tok 9, .lit 64, .bool true⟩, ⟨.sub, .i64, .lit 64, .tok 9, .tok 23⟩, ⟨.leq, .i64, .tok 0, .tok 23, .bool true⟩,
  ⟨.geq, .i64, .tok 13, .lit 0, .bool true⟩, ⟨.geq, .i64, .tok 1, .lit 0, .bool true⟩, ⟨.leq, .i64, .tok 13, .lit 64, .bool true⟩, ⟨.sub, .i64, .lit 64, .tok 13, .tok 24⟩, ⟨.leq, .i64, .tok 1, .tok 24, .bool true⟩]
/-- Whether something is to be kept; the least of the parts. -/
def G1 : List Fact := ⟨.lss, .i64, .lit 0, .tok 5, .bool true⟩ :: G0
def G2 (l : Bool) : List Fact := ⟨.lss, .i64, .lit 0, .tok 5, .bool l⟩ :: ⟨.gtr, .i64, .lit 0, .tok 4, .bool true⟩ :: ⟨.lss, .i64, .tok 1, .lit 0, .bool false⟩ :: G0
def G3 (l t : Bool) : List Fact := ⟨.lss, .i64, .lit 0, .tok 5, .bool l⟩ :: ⟨.gtr, .i64, .lit 0, .tok 4, .bool false⟩ :: ⟨.lss, .i64, .tok 1, .tok 4, .bool t⟩ :: G0
def tEnv (B : List Fact) (kc : List AV) : Env := [(0, .lsl B 0 0 (.lit 0) []), (1, .lsl B 1 1 (.lit 0) []), (2, .tok B .i64 2), (3, .tok B .i64 3), (4, .lsl B 2 5 (.lit 0) kc), (5, .tok B .i64 4)]
def tT (h : IV) : List (Nat × IV × Nat × Nat) := [(4, h, 5, 22)]
noncomputable def ovr (B : List Fact) (T : List (Nat × IV × Nat × Nat)) (x y : Nat) (a b m : PV) : CallF := fun f args σ => match Nat.beq f 42 with
  | true => ovrPut [(.tok B .i64 9, 64, x), (.tok B .i64 13, 64, y)] [(.lsl B 0 0 (.lit 0) [], a), (.lsl B 1 1 (.lit 0) [], b), (.lsq T B 4 1, cloneP b), (.lsl B 5 22 (.lit 0) [], m)] f args σ
  | false => ovrClone [(.lsl B 0 0 (.lit 0) [], .lsq T B 3 0), (.lsl B 1 1 (.lit 0) [], .lsq T B 4 1)] f args σ
noncomputable def preR (B : List Fact) (T : List (Nat × IV × Nat × Nat)) (kc : List AV) (x y : Nat) (a b m : PV) : Option (AX × Env × Heap) :=
  runL Try.prog tab i3 (ovr B T x y a b m) [0, 1, 4, 5, 13, 15, 16, 17] [pc 3, pc 4, pc 5, pc 6, pc 7, pc 8, pc 9] (tEnv B kc) []
/-! ### What the blocks hold -/
def zs : List (List AV) := List.replicate 64 [.int .u8 0]
def cut (es : List (List AV)) : List (List AV) := (es.drop 0).take 64
def W1 (x : Nat) (a : PV) : List (List AV) := puts zs (elemsP a) x 64
def A1 (x : Nat) (a : PV) : List (List AV) := puts zs (cut (W1 x a)) 0 64
def A2 (x y : Nat) (a m : PV) : List (List AV) := puts (A1 x a) (elemsP m) y 64
def W2 (x y : Nat) (a b : PV) : List (List AV) := puts (W1 x a) (elemsP b) y 64
def N3 (x y : Nat) (a b m : PV) : List (List AV) := puts (W2 x y a b) (cut (A2 x y a m)) 0 64
def dRow : Blk := .row 72 6 [[.sl 0 0 0 64, .bool false, .bool false, .int .i64 0, .sl 1 0 0 64, .nils]] [(0, 1)] 1
def resB (es : List (List AV)) : Blk := .row 5 1 es [(0, es.length)] 1
def eT (B : List Fact) (kc : List AV) : Env := [(0, .lsl B 0 0 (.lit 0) []), (1, .lsl B 1 1 (.lit 0) []), (4, .lsl B 2 5 (.lit 0) kc), (5, .tok B .i64 4), (13, .ptr 2 0 0 0), (15, .tok B .i64 9), (16, .tok B .i64 13), (17, .sl 7 0 0 64)]
def seen (r : AX × Env × Heap) : AX × Env × Option Blk × Option Blk × Option Blk × Option Blk × Nat := (r.1, r.2.1, r.2.2[0]?, r.2.2[1]?, r.2.2[2]?, r.2.2[7]?, r.2.2.length)
def sees (B : List Fact) (kc : List AV) (x y : Nat) (a b m : PV) : Option (AX × Env × Option Blk × Option Blk × Option Blk × Option Blk × Nat) :=
  some (.nrm, eT B kc, some (bytes 1 (A2 x y a m) 64), some (bytes 1 (N3 x y a b m) 64), some dRow, some (resB (cut (N3 x y a b m))), 8)
theorem pre1 (x y : Nat) (a b m : PV) : (preR G1 [] [.bool true] x y a b m).map seen = sees G1 [.bool true] x y a b (cloneP b) := by kernel_rfl
theorem pre2 (x y : Nat) (a b m : PV) : (preR (G2 true) (tT (.lit 0)) [.bool false] x y a b m).map seen = sees (G2 true) [.bool false] x y a b m := by kernel_rfl
theorem pre2e (x y : Nat) (a b m : PV) : (preR (G2 false) (tT (.lit 0)) [] x y a b m).map seen = sees (G2 false) [] x y a b m := by kernel_rfl
theorem pre3 (x y : Nat) (a b m : PV) : (preR (G3 true true) (tT (.tok 1)) [.bool false] x y a b m).map seen = sees (G3 true true) [.bool false] x y a b m := by kernel_rfl
theorem pre3e (x y : Nat) (a b m : PV) : (preR (G3 false true) (tT (.tok 1)) [] x y a b m).map seen = sees (G3 false true) [] x y a b m := by kernel_rfl
theorem pre4 (x y : Nat) (a b m : PV) : (preR (G3 true false) (tT (.tok 4)) [.bool false] x y a b m).map seen = sees (G3 true false) [.bool false] x y a b m := by kernel_rfl
theorem pre4e (x y : Nat) (a b m : PV) : (preR (G3 false false) (tT (.tok 4)) [] x y a b m).map seen = sees (G3 false false) [] x y a b m := by kernel_rfl

/-! ### Ahead of that -/
noncomputable def none3 : CallF := fun _ _ _ => none
noncomputable def run1 (ovr : CallF) (live : List Nat) (cs : List Code) (ρ : Env) (σ : Heap) : Option (AX × Env × Heap) := runL Try.prog tab i3 ovr live cs ρ σ
def e6 (q0 q1 q2 q3 q4 q5 : AV) : Env := [(0, q0), (1, q1), (2, q2), (3, q3), (4, q4), (5, q5)]
theorem z0 (q0 q1 q2 q3 q4 q5 : AV) : run1 none3 [0, 1, 2, 3, 4, 5] [pc 0] (initE 0 [q0, q1, q2, q3, q4, q5]) [] = some (.nrm, e6 q0 q1 q2 q3 q4 q5, []) := by kernel_rfl
def C0 (b : Bool) : List Fact := [⟨.gtr, .i64, .tok 15, .lit 30, .bool b⟩]
def raw : AV := .lsq [(8, .lit 30, 0, 0)] (C0 true) 8 15
theorem za1 (q1 q2 q3 q4 q5 : AV) : run1 none3 [0, 1, 2, 3, 4, 5] [pc 1] (e6 raw q1 q2 q3 q4 q5) [] = some (.nrm, e6 (.lsl (C0 true) 0 0 (.lit 0) []) q1 q2 q3 q4 q5, []) := by kernel_rfl
theorem za2 (q1 q2 q3 q4 q5 : AV) : run1 none3 [0, 1, 2, 3, 4, 5] [pc 1] (e6 (.lsl (C0 false) 8 15 (.lit 0) []) q1 q2 q3 q4 q5) [] = some (.nrm, e6 (.lsl (C0 false) 8 15 (.lit 0) []) q1 q2 q3 q4 q5, []) := by kernel_rfl
theorem zb1 (q0 q2 q3 q4 q5 : AV) : run1 none3 [0, 1, 2, 3, 4, 5] [pc 2] (e6 q0 raw q2 q3 q4 q5) [] = some (.nrm, e6 q0 (.lsl (C0 true) 0 0 (.lit 0) []) q2 q3 q4 q5, []) := by kernel_rfl
theorem zb2 (q0 q2 q3 q4 q5 : AV) : run1 none3 [0, 1, 2, 3, 4, 5] [pc 2] (e6 q0 (.lsl (C0 false) 8 15 (.lit 0) []) q2 q3 q4 q5) [] = some (.nrm, e6 q0 (.lsl (C0 false) 8 15 (.lit 0) []) q2 q3 q4 q5, []) := by kernel_rfl
/-- Too much to be kept. -/
def C5 : List Fact := [⟨.gtr, .i64, .tok 5, .lit 200, .bool true⟩]
def kn12 : List (FuncId × List AV × AV) := [(12, [], .bool true)]
noncomputable def bigR : Option (AX × Env × Heap) := run1 (ovrL kn12) [12] [pc 3, pc 4] [(4, .lsl C5 2 5 (.lit 0) [])] []
theorem big3 : run1 none3 [4, 13, 14] [pc 3] [(4, .lsl C5 2 5 (.lit 0) [])] [] = some (.nrm, [(4, .lsl C5 2 5 (.lit 0) []), (13, .ptr 2 0 0 0), (14, .int .i64 0)], [bytes 1 zs 64, bytes 1 zs 64, dRow]) := by kernel_rfl
theorem big4 : runI Try.prog tab i3 kn12 [12] (pc 4) [(4, .lsl C5 2 5 (.lit 0) []), (13, .ptr 2 0 0 0), (14, .int .i64 0)] [bytes 1 zs 64, bytes 1 zs 64, dRow] = some (.ret, [(12, .bool true)], [bytes 1 zs 64, bytes 1 zs 64, dRow]) := by kernel_rfl

/-! ### The loop -/
noncomputable def lpC : Code := inL (inB (sndS (pc 10)))
theorem shape10 : pc 10 = .seq (fstS (pc 10)) (.block 0 (.loop lpC)) := by kernel_rfl
def mem8 (a n : List (List AV)) : Heap := [bytes 1 a 64, bytes 1 n 64, dRow, .hole, .hole, .hole, .hole, .hole]
/-- Slots in the loop: the two inputs, what is to be kept, the part, the places, what was read, the index. -/
def eL (qa qb q4 q5 q15 q16 q17 q19 : AV) : Env := [(0, qa), (1, qb), (4, q4), (5, q5), (13, .ptr 2 0 0 0), (15, q15), (16, q16), (17, q17), (19, q19)]
theorem lead (qa qb q4 q5 q15 q16 q17 : AV) (a n : List (List AV)) : runI Try.prog tab i3 [] [0, 1, 4, 5, 13, 15, 16, 17, 19] (fstS (pc 10)) [(0, qa), (1, qb), (4, q4), (5, q5), (13, .ptr 2 0 0 0), (15, q15), (16, q16), (17, q17)] (mem8 a n) = some (.nrm, eL qa qb q4 q5 q15 q16 q17 (.int .i64 0), mem8 a n) := by kernel_rfl
def L1 : List Fact := [⟨.lss, .i64, .tok 14, .tok 0, .bool true⟩, ⟨.add, .i64, .tok 9, .tok 14, .tok 16⟩, ⟨.sub, .i64, .tok 16, .tok 13, .tok 17⟩, ⟨.neq, .u8, .tok 18, .tok 19, .bool false⟩, ⟨.add, .i64, .tok 14, .lit 1, .tok 15⟩]
def L2 : List Fact := [⟨.lss, .i64, .tok 14, .tok 0, .bool true⟩, ⟨.add, .i64, .tok 9, .tok 14, .tok 16⟩, ⟨.sub, .i64, .tok 16, .tok 13, .tok 17⟩, ⟨.neq, .u8, .tok 18, .tok 19, .bool true⟩, ⟨.lss, .i64, .tok 17, .lit 0, .bool false⟩, ⟨.geq, .i64, .tok 17, .tok 1, .bool false⟩, ⟨.neq, .u8, .tok 18, .tok 20, .bool false⟩, ⟨.add, .i64, .tok 14, .lit 1, .tok 15⟩]
def L3 : List Fact := [⟨.lss, .i64, .tok 14, .tok 0, .bool false⟩]
def wa (B : List Fact) : AV := .lsl B 0 0 (.tok 14) [.tok B .u8 19]
def wb (B : List Fact) : AV := .lsl B 1 1 (.tok 17) [.tok B .u8 20]
def wl (B : List Fact) : AV := .lsl B 6 21 (.tok 16) [.tok B .u8 18]
theorem round1 (qb q4 q5 : AV) (a n : List (List AV)) : runI Try.prog tab i3 [] [0, 1, 4, 5, 13, 15, 16, 17, 19] lpC (eL (wa L1) qb q4 q5 (.tok L1 .i64 9) (.tok L1 .i64 13) (wl L1) (.tok L1 .i64 14)) (mem8 a n) = some (.nrm, eL (wa L1) qb q4 q5 (.tok L1 .i64 9) (.tok L1 .i64 13) (wl L1) (.tok L1 .i64 15), mem8 a n) := by kernel_rfl
theorem round2 (q4 q5 : AV) (a n : List (List AV)) : runI Try.prog tab i3 [] [0, 1, 4, 5, 13, 15, 16, 17, 19] lpC (eL (wa L2) (wb L2) q4 q5 (.tok L2 .i64 9) (.tok L2 .i64 13) (wl L2) (.tok L2 .i64 14)) (mem8 a n) = some (.nrm, eL (wa L2) (wb L2) q4 q5 (.tok L2 .i64 9) (.tok L2 .i64 13) (wl L2) (.tok L2 .i64 15), mem8 a n) := by kernel_rfl
theorem round3 (qb q4 q5 q15 q16 q17 : AV) (a n : List (List AV)) : runI Try.prog tab i3 [] [4, 5, 13, 17] lpC (eL (.lsl L3 0 0 (.lit 0) []) qb q4 q5 q15 q16 q17 (.tok L3 .i64 14)) (mem8 a n) = some (.ext 0, [(4, q4), (5, q5), (13, .ptr 2 0 0 0), (17, q17)], mem8 a n) := by kernel_rfl

/-! ### Behind it -/
noncomputable def ovr2 : CallF := fun f args σ => match Nat.beq f 42 with
  | true => ovrPut [] [] f args σ
  | false => ovrClone [] f args σ
def N4 (a n : List (List AV)) : List (List AV) := puts n (cut a) 0 64
def seen2 (r : AX × Env × Heap) : AX × Env × Option Blk × Nat := (r.1, r.2.1, r.2.2[8]?, r.2.2.length)
theorem again (q17 : AV) (a n : List (List AV)) : (run1 ovr2 [17, 21] [pc 11, pc 12] [(4, .lsl [] 2 5 (.lit 0) []), (5, .tok [] .i64 4), (13, .ptr 2 0 0 0), (17, q17)] (mem8 a n)).map seen2 = some (.nrm, [(17, q17), (21, .sl 8 0 0 64)], some (resB (cut (N4 a n))), 9) := by kernel_rfl
def kn18 : List (FuncId × List AV × AV) := [(18, [.lsl [] 0 0 (.lit 0) [], .lsl [] 1 1 (.lit 0) []], .bool true), (12, [], .bool true)]
theorem fin : runI Try.prog tab i3 kn18 [12] (.seq (pc 13) (tailS 14 c3)) [(17, .lsl [] 0 0 (.lit 0) []), (21, .lsl [] 1 1 (.lit 0) [])] (List.replicate 9 .hole) = some (.ret, [(12, .bool true)], List.replicate 9 .hole) := by kernel_rfl
end Go.Proofs.Ytnglipioaippoaa.T.Disk
