/- The weight of a datum, reckoned by the program and by the reference: the runs. -/
import Derived.Test.YtkiicnfpogdmgaaDoorWg1
import Derived.Test.YtkiicnfpogdmgaaDoorEyS
namespace Go.Proofs.YtkiicnfpogdmgaaDoor.T.Wei
open Go.Dx Go.Proofs Same Wgh

noncomputable def c23 : Code := Tryd.f23.body.get!
noncomputable def c22 : Code := Tryd.f22.body.get!
/-- 'tE', 'dT', 'eT', 'wT' are those of 'weigh' of the law: 5 is the budget, 6 what is reckoned so far, 7 what is left, 8 an element's weight, 9 what is reckoned then; 15 is one more than the text's length. -/
def Bn : List Fact := [⟨.add, .i64, .lit 1, .tok 10, .tok 15⟩]
theorem shape23 : c23 = .seq (pre1 c23) (.seq (pre2 c23) (.seq (.seq (pre3 c23) (.block 0 (.loop (inL (loopB c23))))) (post c23))) := by kernel_rfl
theorem a1 : run i23 [] [1, 2] (pre1 c23) (initE 0 [.agg (dT []), .tok [] .i64 5]) [] = some (.nrm, [(1, .tok [] .i64 5), (2, .ptr 0 0 0 0)], [box (dT [])]) := by kernel_rfl
theorem a2 : run i23 [] [1, 2, 5] (pre2 c23) [(1, .tok Bn .i64 5), (2, .ptr 0 0 0 0)] [box (dT Bn)] = some (.nrm, [(1, .tok Bn .i64 5), (2, .ptr 0 0 0 0), (5, .tok Bn .i64 15)], [box (dT Bn)]) := by kernel_rfl
theorem a3 : run i23 [] [1, 2, 5, 6] (pre3 c23) [(1, .tok [] .i64 5), (2, .ptr 0 0 0 0), (5, .tok [] .i64 15)] [box (dT [])] = some (.nrm, tE [] (.tok [] .i64 15) (.int .i64 0), [box (dT [])]) := by kernel_rfl
theorem ayes : run i23 [(23, [.agg (eT By), .tok By .i64 7], .tok By .i64 8)] [1, 2, 5, 6] (inL (loopB c23)) (tE By (.tok By .i64 6) (.tok By .i64 3)) [box (wT By)] = some (.nrm, tE By (.tok By .i64 9) (.tok By .i64 4), [box (wT By)]) := by kernel_rfl
theorem afin1 : run i23 [] [1, 5] (inL (loopB c23)) (tE Be (.tok Be .i64 6) (.tok Be .i64 3)) [box (dT Be)] = some (.ext 0, [(1, .tok Be .i64 5), (5, .tok Be .i64 6)], [box (dT Be)]) := by kernel_rfl
theorem afin2 : run i23 [] [1, 5] (inL (loopB c23)) (tE Bf (.tok Bf .i64 6) (.tok Bf .i64 3)) [box (dT Bf)] = some (.ext 0, [(1, .tok Bf .i64 5), (5, .tok Bf .i64 6)], [box (dT Bf)]) := by kernel_rfl
def Bm (b : Bool) : List Fact := [⟨.lss, .i64, .tok 5, .tok 6, .bool b⟩]
theorem alast1 : run i23 [] [4] (post c23) [(1, .tok (Bm true) .i64 5), (5, .tok (Bm true) .i64 6)] [.hole] = some (.ret, [(4, .tok (Bm true) .i64 5)], [.hole]) := by kernel_rfl
theorem alast2 : run i23 [] [4] (post c23) [(1, .tok (Bm false) .i64 5), (5, .tok (Bm false) .i64 6)] [.hole] = some (.ret, [(4, .tok (Bm false) .i64 6)], [.hole]) := by kernel_rfl
theorem ares (n : Int) : endA Tryd.prog i23 (some (.ret, ⟨[.hole], [(4, .int .i64 n)]⟩)) = some (.int .i64 n, [.hole]) := by kernel_rfl

noncomputable def lp22 : Code := inL (inB (sndS (sndS (sndS c22))))
noncomputable def r22 : Code := fstS (sndS (sndS c22))
theorem shape22 : c22 = .seq (pre1 c22) (.seq (pre2 c22) (.seq r22 (.block 0 (.loop lp22)))) := by kernel_rfl
def fE (B : List Fact) (l i : AV) : Env := [(1, .ptr 0 0 0 0), (20, l), (21, .tok B .i64 2), (22, i)]
def B1 : List Fact := [⟨.add, .i64, .lit 1, .tok 10, .tok 15⟩, ⟨.lss, .i64, .tok 15, .tok 5, .bool true⟩, ⟨.sub, .i64, .tok 5, .tok 15, .tok 7⟩]
def B2 : List Fact := [⟨.add, .i64, .lit 1, .tok 10, .tok 15⟩, ⟨.lss, .i64, .tok 15, .tok 5, .bool false⟩, ⟨.sub, .i64, .tok 5, .tok 5, .lit 0⟩]
theorem b1 : run i22 [] [1, 2] (pre1 c22) (initE 0 [.agg (dT []), .ptr 0 0 0 0]) [lrow 3 (.tok [] .i64 5)] = some (.nrm, [(1, .ptr 0 0 0 0), (2, .ptr 1 0 0 0)], [lrow 3 (.tok [] .i64 5), box (dT [])]) := by kernel_rfl
theorem b2 : run i22 [] [1, 2] (pre2 c22) [(1, .ptr 0 0 0 0), (2, .ptr 1 0 0 0)] [lrow 3 (.tok Wei.B1 .i64 5), box (dT Wei.B1)] = some (.nrm, [(1, .ptr 0 0 0 0), (2, .ptr 1 0 0 0)], [lrow 3 (.tok Wei.B1 .i64 7), box (dT Wei.B1)]) := by kernel_rfl
theorem b2z : run i22 [] [1, 2] (pre2 c22) [(1, .ptr 0 0 0 0), (2, .ptr 1 0 0 0)] [lrow 3 (.tok Wei.B2 .i64 5), box (dT Wei.B2)] = some (.nrm, [(1, .ptr 0 0 0 0), (2, .ptr 1 0 0 0)], [lrow 3 (.int .i64 0), box (dT Wei.B2)]) := by kernel_rfl
theorem b3 : run i22 [] [1, 20, 21, 22] r22 [(1, .ptr 0 0 0 0), (2, .ptr 1 0 0 0)] [lrow 3 (.tok [] .i64 7), box (dT [])] = some (.nrm, fE [] (.lsl [] 1 2 (.lit 0) []) (.int .i64 0), [lrow 3 (.tok [] .i64 7), box (dT [])]) := by kernel_rfl
def Bz : List Fact := [⟨.lss, .i64, .tok 3, .tok 2, .bool true⟩]
def Bw : List Fact := [⟨.lss, .i64, .tok 3, .tok 2, .bool true⟩, ⟨.eql, .i64, .tok 7, .lit 0, .bool false⟩, ⟨.add, .i64, .tok 3, .lit 1, .tok 4⟩]
def wL (B : List Fact) : AV := .lsl B 1 2 (.tok 3) (eT B)
noncomputable def runN (ovr : CallF) (live : List Nat) (c : Code) (ρ : Env) (σ : Heap) : Option (AX × Env × Heap) := runO Tryd.prog tab i22 ovr live c ρ σ
theorem byes : runN (ovrN 22 (.agg (eT Bw)) 3 (.tok Bw .i64 7) (.tok Bw .i64 16)) [1, 20, 21, 22] lp22 (fE Bw (wL Bw) (.tok Bw .i64 3)) [lrow 3 (.tok Bw .i64 7), .hole] = some (.nrm, fE Bw (wL Bw) (.tok Bw .i64 4), [lrow 3 (.tok Bw .i64 16), .hole, box (eT Bw)]) := by kernel_rfl
theorem bzero : run i22 [] [] lp22 (fE Bz (wL Bz) (.tok Bz .i64 3)) [lrow 3 (.int .i64 0), .hole] = some (.ret, [], [lrow 3 (.int .i64 0), .hole, box (eT Bz)]) := by kernel_rfl
theorem bfin : run i22 [] [] lp22 (fE Be (.lsl Be 1 2 (.lit 0) []) (.tok Be .i64 3)) [lrow 3 (.tok Be .i64 7), .hole] = some (.ext 0, [], [lrow 3 (.tok Be .i64 7), .hole]) := by kernel_rfl
theorem bres1 (L : Int) : endA Tryd.prog i22 (some (.nrm, ⟨[lrow 3 (.int .i64 L), .hole], []⟩)) = some (.tup [], [lrow 3 (.int .i64 L), .hole]) := by kernel_rfl
theorem bres2 (L : Int) : endA Tryd.prog i22 (some (.ret, ⟨[lrow 3 (.int .i64 L), .hole], []⟩)) = some (.tup [], [lrow 3 (.int .i64 L), .hole]) := by kernel_rfl
end Go.Proofs.YtkiicnfpogdmgaaDoor.T.Wei
