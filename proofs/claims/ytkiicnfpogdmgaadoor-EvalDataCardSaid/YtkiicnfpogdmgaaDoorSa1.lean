/- The two functions that compare data: told data; what is run. -/
import Derived.Test.YtkiicnfpogdmgaaDoorEtab
import Derived.Test.YtkiicnfpogdmgaaDoorEyR
namespace Go.Proofs.YtkiicnfpogdmgaaDoor.T.Same
open Go.Dx Go.Proofs

/-- A datum that is told: its kind, number, text, list. -/
def tD (E : List (Nat × Option Nat × Bool)) (B : List Fact) (k n s p l q : Nat) : List AV := [.tok B .i64 k, .tok B .i64 n, .stk E B s p, .lsl B q l (.lit 0) []]
/-- A datum, of which one element is told. -/
def tW (E : List (Nat × Option Nat × Bool)) (B : List Fact) (k n s p l q i : Nat) (cs : List AV) : List AV := [.tok B .i64 k, .tok B .i64 n, .stk E B s p, .lsl B q l (.tok i) cs]
def dA (E : List (Nat × Option Nat × Bool)) (B : List Fact) : List AV := tD E B 0 2 0 8 4 2
def dB (E : List (Nat × Option Nat × Bool)) (B : List Fact) : List AV := tD E B 1 3 1 9 5 3
def cA (E : List (Nat × Option Nat × Bool)) (B : List Fact) : List AV := tD E B 10 11 4 16 12 6
def cB (E : List (Nat × Option Nat × Bool)) (B : List Fact) : List AV := tD E B 13 14 5 17 15 7
def wA (E : List (Nat × Option Nat × Bool)) (B : List Fact) : List AV := tW E B 0 2 0 8 4 2 6 (cA E B)
def wB (E : List (Nat × Option Nat × Bool)) (B : List Fact) : List AV := tW E B 1 3 1 9 5 3 6 (cB E B)
def box (cs : List AV) : Blk := .row 24 4 [cs] [(0, 1)] 1
/-- Facts: ahead of the loop; in a round. -/
def Bp (b0 b1 b3 : Bool) : List Fact := [⟨.neq, .i64, .tok 0, .tok 1, .bool b0⟩, ⟨.neq, .i64, .tok 2, .tok 3, .bool b1⟩, ⟨.neq, .i64, .tok 4, .tok 5, .bool b3⟩]
def Ep (b : Bool) : List (Nat × Option Nat × Bool) := [(0, some 1, b)]
def Bl : Bool → List Fact
  | true => [⟨.lss, .i64, .tok 6, .tok 4, .bool true⟩, ⟨.add, .i64, .tok 6, .lit 1, .tok 7⟩]
  | false => [⟨.lss, .i64, .tok 6, .tok 4, .bool false⟩]

noncomputable def c13 : Code := Tryd.f13.body.get!
noncomputable def c14 : Code := Tryd.f14.body.get!
/-- The loop's inside; what is ahead of it, in three parts; what is behind. -/
noncomputable def loopB (c : Code) : Code := inB (sndS (fstS (sndS (sndS c))))
noncomputable def pre1 (c : Code) : Code := fstS c
noncomputable def pre2 (c : Code) : Code := fstS (sndS c)
noncomputable def pre3 (c : Code) : Code := fstS (fstS (sndS (sndS c)))
noncomputable def post (c : Code) : Code := sndS (sndS (sndS c))
noncomputable def preC (c : Code) : Code := .seq (pre1 c) (.seq (pre2 c) (pre3 c))
noncomputable def run (i : FnI) (known : List (FuncId × List AV × AV)) (live : List Nat) (c : Code) (ρ : Env) (σ : Heap) : Option (AX × Env × Heap) := runI Tryd.prog tab i known live c ρ σ
end Go.Proofs.YtkiicnfpogdmgaaDoor.T.Same
