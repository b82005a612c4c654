/- The sums: a call of the function, in a small memory. -/
import Derived.Test.YtppbeklokajeaaaDoorPa
import Derived.Test.YtppbeklokajeaaaDoorEyP
namespace Go.Proofs.YtppbeklokajeaaaDoor.T.Sums
open Go.Dx Go.Proofs

/-- The module's tree, the function's tree. -/
noncomputable def mT : List PV := match v5 with
  | .tup (.agg cs :: _) => (downs cs).getD []
  | _ => []
noncomputable def fT : AV := match v5 with
  | .tup (.agg [_, _, _, .ro _ (r :: _)] :: _) => .agg (r.map up)
  | _ => .und
noncomputable def argsC : List AV := [.ptr 0 0 0 0, .int .i64 0, fT, .sl 5 0 0 1]
def mach (x : Nat) (y : AV) : Blk := .row 63 2 [[.ptr x 0 0 0, y]] [(0, 1)] 1
/-- The machine (with its fuel y), the index of names, the arguments (the number x). -/
noncomputable def Hc (x y : AV) : Heap := [mach 1 y, .row 79 3 [[.ro true [mT], .map 2, .sl 3 0 0 1]] [(0, 1)] 1, .mp [(.str ⟨#[77]⟩, .int .i64 0)], .row 76 1 [[.map 4]] [(0, 1)] 1, .mp [(.str ⟨#[102]⟩, .int .i64 0)], .row 24 4 [[.int .i64 1, x, .str ⟨#[]⟩, .nils]] [(0, 1)] 1]
def resC (z : AV) : AV := .tup [.agg [.int .i64 1, z, .str ⟨#[]⟩, .nils], .int .i64 0]

/-- Equal rows, blocks. -/
noncomputable def eqEs : List (List AV) → List (List AV) → Bool
  | [], [] => true
  | a :: r, b :: s => eqAs a b && eqEs r s
  | _, _ => false
noncomputable def eqMs : List (AV × AV) → List (AV × AV) → Bool
  | [], [] => true
  | (a, b) :: r, (a', b') :: s => eqA a a' && eqA b b' && eqMs r s
  | _, _ => false
noncomputable def eqBk : Blk → Blk → Bool
  | .row a b es l n, .row a' b' es' l' n' => decide (a = a') && decide (b = b') && decide (l = l') && decide (n = n') && eqEs es es'
  | .mp es, .mp es' => eqMs es es'
  | _, _ => false
def renL (l : List Nat) (id : Nat) : Nat := (l[id]?).getD 0
noncomputable def chk (σ : Heap) (ren : Nat → Nat) (tv : IntKind → Nat → AV) : Nat → List Blk → Bool
  | _, [] => true
  | i, b :: r => (match σ[ren i]? with
    | some b' => eqBk b' (trB ren tv b)
    | none => false) && chk σ ren tv (i + 1) r
def t0 (j : Nat) : AV := .tok [] .i64 j
/-- A call of 'body' that is known: where the first five blocks lie, and what stands for the number, the fuel, the sum, the fuel behind it. -/
noncomputable def ovr28 (R : List Nat) (tv : IntKind → Nat → AV) (f : FuncId) (args : List AV) (σ : Heap) : Option (AV × Heap) :=
  match Nat.beq f 28, args with
  | true, [.ptr iM a b c, m, t, .sl iA o1 o2 o3] =>
    if eqAs [.ptr iM a b c, m, t, .sl iA o1 o2 o3] (trVs (renL (R ++ [iA])) tv argsC) && decide ((R ++ [iA]).Nodup) && chk σ (renL (R ++ [iA])) tv 0 (Hc (t0 0) (t0 1)) then
      some (trV (renL (R ++ [iA])) tv (resC (t0 2)), σ.set (renL (R ++ [iA]) 0) (trB (renL (R ++ [iA])) tv (mach 1 (t0 3))))
    else none
  | _, _ => none

def fuelF : Nat → Nat → List Fact
  | _, 0 => []
  | j, c + 1 => ⟨.eql, .i64, .tok j, .lit 0, .bool false⟩ :: ⟨.sub, .i64, .tok j, .lit 1, .tok (j + 1)⟩ :: fuelF (j + 1) c
def factsS : List Fact := ⟨.lss, .i64, .tok 0, .lit 1, .bool false⟩ :: ⟨.sub, .i64, .tok 0, .lit 1, .tok 1⟩ :: ⟨.add, .i64, .tok 0, .tok 4, .tok 5⟩ :: fuelF 10 10
def factsZ : List Fact := ⟨.lss, .i64, .tok 0, .lit 1, .bool true⟩ :: fuelF 10 5
def tvS (B : List Fact) (k : IntKind) (j : Nat) : AV := match j with
  | 0 => .tok B k 1
  | 1 => .tok B k 20
  | 2 => .tok B k 4
  | _ => .tok B k 40
noncomputable def stepR (B : List Fact) : Option (AV × Heap) := bodyW Tryd.prog tab (callW Tryd.prog tab (ovr28 [0, 1, 2, 3, 4] (tvS B)) 40) i28 Tryd.f28.body.get! argsC (Hc (.tok B .i64 0) (.tok B .i64 10))
noncomputable def zeroR (B : List Fact) : Option (AV × Heap) := bodyW Tryd.prog tab (callW Tryd.prog tab (fun _ _ _ => none) 40) i28 Tryd.f28.body.get! argsC (Hc (.tok B .i64 0) (.tok B .i64 10))
end Go.Proofs.YtppbeklokajeaaaDoor.T.Sums
