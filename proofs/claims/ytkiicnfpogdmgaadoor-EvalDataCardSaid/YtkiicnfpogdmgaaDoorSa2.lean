/- The two functions that compare data: the runs; data, told. -/
import Derived.Test.YtkiicnfpogdmgaaDoorSa1
namespace Go.Proofs.YtkiicnfpogdmgaaDoor.T.Same
open Go.Dx Go.Proofs

def e23 : Env := [(2, .ptr 0 0 0 0), (3, .ptr 1 0 0 0)]
def B1 : List Fact := [⟨.neq, .i64, .tok 0, .tok 1, .bool true⟩]
def B2 : List Fact := [⟨.neq, .i64, .tok 0, .tok 1, .bool false⟩, ⟨.neq, .i64, .tok 2, .tok 3, .bool true⟩]
def B3 : List Fact := [⟨.neq, .i64, .tok 0, .tok 1, .bool false⟩, ⟨.neq, .i64, .tok 2, .tok 3, .bool false⟩]
def B4 : List Fact := [⟨.neq, .i64, .tok 0, .tok 1, .bool false⟩, ⟨.neq, .i64, .tok 2, .tok 3, .bool false⟩, ⟨.neq, .i64, .tok 4, .tok 5, .bool true⟩]
def B5 : List Fact := [⟨.neq, .i64, .tok 0, .tok 1, .bool false⟩, ⟨.neq, .i64, .tok 2, .tok 3, .bool false⟩, ⟨.neq, .i64, .tok 4, .tok 5, .bool false⟩]
def memD (E : List (Nat × Option Nat × Bool)) (B : List Fact) : Heap := [box (dA E B), box (dB E B)]
def memW (E : List (Nat × Option Nat × Bool)) (B : List Fact) : Heap := [box (wA E B), box (wB E B)]

/-- What is run of such a function. -/
structure Sm (f : FuncId) (i : FnI) (c : Code) (pE : Int → Int → Env) (tE : List Fact → AV → Env) : Prop where
  fn : Tryd.prog.funcs[f]? = some i.fn
  name : (i.fn.name == "runtime.NumGoroutine") = false
  body : i.fn.body = some c
  nt : 2 ≤ i.fn.ntmps
  shape : c = .seq (pre1 c) (.seq (pre2 c) (.seq (.seq (pre3 c) (.block 0 (.loop (inL (loopB c))))) (post c)))
  r1 : run i [] [2, 3] (pre1 c) (initE 0 [.agg (dA [] []), .agg (dB [] [])]) [] = some (.nrm, e23, memD [] [])
  x1 : run i [] [4] (pre2 c) e23 (memD [] B1) = some (.ret, [(4, .bool false)], memD [] B1)
  x2 : run i [] [4] (pre2 c) e23 (memD [] B2) = some (.ret, [(4, .bool false)], memD [] B2)
  x3 : run i [] [4] (pre2 c) e23 (memD (Ep false) B3) = some (.ret, [(4, .bool false)], memD (Ep false) B3)
  x4 : run i [] [4] (pre2 c) e23 (memD (Ep true) B4) = some (.ret, [(4, .bool false)], memD (Ep true) B4)
  x5 : run i [] [2, 3] (pre2 c) e23 (memD (Ep true) B5) = some (.nrm, e23, memD (Ep true) B5)
  r3 : run i [] ((tE [] .und).map (·.1)) (pre3 c) e23 (memD [] []) = some (.nrm, tE [] (.int .i64 0), memD [] [])
  yes : run i [(f, [.agg (cA [] (Bl true)), .agg (cB [] (Bl true))], .bool true)] ((tE [] .und).map (·.1)) (inL (loopB c)) (tE (Bl true) (.tok (Bl true) .i64 6)) (memW [] (Bl true)) = some (.nrm, tE (Bl true) (.tok (Bl true) .i64 7), memW [] (Bl true))
  no : run i [(f, [.agg (cA [] (Bl true)), .agg (cB [] (Bl true))], .bool false)] [4] (inL (loopB c)) (tE (Bl true) (.tok (Bl true) .i64 6)) (memW [] (Bl true)) = some (.ret, [(4, .bool false)], memW [] (Bl true))
  fin : run i [] [] (inL (loopB c)) (tE (Bl false) (.tok (Bl false) .i64 6)) (memD [] (Bl false)) = some (.ext 0, [], memD [] (Bl false))
  last : run i [] [4] (post c) [] [.hole, .hole] = some (.ret, [(4, .bool true)], [.hole, .hole])
  res : ∀ b, endA Tryd.prog i (some (.ret, ⟨[.hole, .hole], [(4, .bool b)]⟩)) = some (.bool b, [.hole, .hole])
  up : ∀ {v : Nm} {B : List Fact} {len i : Int} {x : AV}, Valid v B → v 4 = len → Up v (.int .i64 i) x → ET (Up v) (pE len i) (tE B x)
  down : ∀ {v : Nm} {B : List Fact} {len i : Int} {x : AV}, v 4 = len → Down v x (.int .i64 i) → ET (Down v) (tE B x) (pE len i)

def p13 (len i : Int) : Env := [(2, .ptr 0 0 0 0), (3, .ptr 1 0 0 0), (36, .int .i64 len), (37, .int .i64 i)]
def t13 (B : List Fact) (x : AV) : Env := [(2, .ptr 0 0 0 0), (3, .ptr 1 0 0 0), (36, .tok B .i64 4), (37, x)]
def p14 (_ i : Int) : Env := [(2, .ptr 0 0 0 0), (3, .ptr 1 0 0 0), (5, .int .i64 i)]
def t14 (_ : List Fact) (x : AV) : Env := [(2, .ptr 0 0 0 0), (3, .ptr 1 0 0 0), (5, x)]
theorem s13 : Sm 13 i13 c13 p13 t13 where
  fn := by kernel_rfl
  name := by kernel_rfl
  body := by kernel_rfl
  nt := Nat.le_of_ble_eq_true (by kernel_rfl)
  shape := by kernel_rfl
  r1 := by kernel_rfl
  x1 := by kernel_rfl
  x2 := by kernel_rfl
  x3 := by kernel_rfl
  x4 := by kernel_rfl
  x5 := by kernel_rfl
  r3 := by kernel_rfl
  yes := by kernel_rfl
  no := by kernel_rfl
  fin := by kernel_rfl
  last := by kernel_rfl
  res b := by cases b <;> kernel_rfl
  up hB h4 hx := .cons ⟨rfl, Up.same rfl⟩ (.cons ⟨rfl, Up.same rfl⟩ (.cons ⟨rfl, Up.tok hB _ _ h4⟩ (.cons ⟨rfl, hx⟩ .nil)))
  down h4 hx := .cons ⟨rfl, Down.same rfl⟩ (.cons ⟨rfl, Down.same rfl⟩ (.cons ⟨rfl, Down.tok _ _ h4⟩ (.cons ⟨rfl, hx⟩ .nil)))
theorem s14 : Sm 14 i14 c14 p14 t14 where
  fn := by kernel_rfl
  name := by kernel_rfl
  body := by kernel_rfl
  nt := Nat.le_of_ble_eq_true (by kernel_rfl)
  shape := by kernel_rfl
  r1 := by kernel_rfl
  x1 := by kernel_rfl
  x2 := by kernel_rfl
  x3 := by kernel_rfl
  x4 := by kernel_rfl
  x5 := by kernel_rfl
  r3 := by kernel_rfl
  yes := by kernel_rfl
  no := by kernel_rfl
  fin := by kernel_rfl
  last := by kernel_rfl
  res b := by cases b <;> kernel_rfl
  up hB h4 hx := .cons ⟨rfl, Up.same rfl⟩ (.cons ⟨rfl, Up.same rfl⟩ (.cons ⟨rfl, hx⟩ .nil))
  down h4 hx := .cons ⟨rfl, Down.same rfl⟩ (.cons ⟨rfl, Down.same rfl⟩ (.cons ⟨rfl, hx⟩ .nil))

/-! ### Data -/
def pD (k n : Int) (s : ByteArray) (l : PV) : List PV := [.int .i64 k, .int .i64 n, .str s, l]
section
variable {v : Nm} {E : List (Nat × Option Nat × Bool)} {B : List Fact} {k n : Int} {s : ByteArray} {l : PV} {len : Nat} {ki ni si pi li qi : Nat}
theorem upD (hB : Valid v B) (hE : ValidT v.p E) (hl : lenP l = some len) (h1 : v ki = k) (h2 : v ni = n) (h3 : v.p si = .str s) (h4 : v pi = (s.size : Int)) (h5 : v.p qi = l) (h6 : v li = (len : Int)) :
    All2 (fun p c => Up v (up p) c) (pD k n s l) (tD E B ki ni si pi li qi) :=
  .cons (Up.tok hB _ _ h1) (.cons (Up.tok hB _ _ h2) (.cons (Up.stk hE hB _ _ h3 h4) (.cons (Up.lst hB _ _ _ h5 hl h6) .nil)))
theorem downD (h1 : v ki = k) (h2 : v ni = n) (h3 : v.p si = .str s) (h5 : v.p qi = l) : All2 (fun c p => Down v c (up p)) (tD E B ki ni si pi li qi) (pD k n s l) :=
  .cons (Down.tok _ _ h1) (.cons (Down.tok _ _ h2) (.cons (Down.stk _ _ h3) (.cons (Down.lsl _ _ _ _ h5) .nil)))
theorem downW {i : Nat} {cs : List AV} (h1 : v ki = k) (h2 : v ni = n) (h3 : v.p si = .str s) (h5 : v.p qi = l) : All2 (fun c p => Down v c (up p)) (tW E B ki ni si pi li qi i cs) (pD k n s l) :=
  .cons (Down.tok _ _ h1) (.cons (Down.tok _ _ h2) (.cons (Down.stk _ _ h3) (.cons (Down.lsl _ _ _ _ h5) .nil)))
theorem upW {f : Bool} {es : List (List PV)} {i m : Nat} {e : List PV} {cs : List AV} (hB : Valid v B) (hE : ValidT v.p E) (h1 : v ki = k) (h2 : v ni = n) (h3 : v.p si = .str s) (h4 : v pi = (s.size : Int)) (h5 : v.p qi = .ro f es) (h6 : v li = (es.length : Int)) (hi : v i = (m : Int)) (he : es[m]? = some e)
    (hcs : All2 (fun p c => Up v (up p) c) e cs) : All2 (fun p c => Up v (up p) c) (pD k n s (.ro f es)) (tW E B ki ni si pi li qi i cs) :=
  .cons (Up.tok hB _ _ h1) (.cons (Up.tok hB _ _ h2) (.cons (Up.stk hE hB _ _ h3 h4) (.cons (Up.lsl hB _ _ (.tok i) h5 h6 hi he hcs) .nil)))
end
def memP (pa pb : List PV) : Heap := [box (pa.map Dx.up), box (pb.map Dx.up)]
theorem upMem {v : Nm} {pa pb : List PV} {ta tb : List AV} (ha : All2 (fun p c => Up v (up p) c) pa ta) (hb : All2 (fun p c => Up v (up p) c) pb tb) (h1 : ta.all one = true) (h2 : tb.all one = true) : All2 (BT (Up v)) (memP pa pb) [box ta, box tb] :=
  .cons (.row (.cons ha.map .nil) (by simp [h1])) (.cons (.row (.cons hb.map .nil) (by simp [h2])) .nil)
theorem one_all (l : List PV) : (l.map up).all one = true := by
  rw [List.all_eq_true]
  intro x hx
  obtain ⟨p, _, rfl⟩ := List.mem_map.1 hx
  exact one_up p
theorem downMem {v : Nm} {pa pb : List PV} {ta tb : List AV} (ha : All2 (fun c p => Down v c (up p)) ta pa) (hb : All2 (fun c p => Down v c (up p)) tb pb) : All2 (BD (Down v)) [box ta, box tb] (memP pa pb) :=
  .cons (.keep (.row (.cons ha.mapR .nil) (by simp only [List.all_cons, one_all, List.all_nil, Bool.and_self]))) (.cons (.keep (.row (.cons hb.mapR .nil) (by simp only [List.all_cons, one_all, List.all_nil, Bool.and_self]))) .nil)
theorem dropMem {v : Nm} {b b' : Blk} : All2 (BD (Down v)) [b, b'] [.hole, .hole] := .cons (.drop _) (.cons (.drop _) .nil)
end Go.Proofs.YtkiicnfpogdmgaaDoor.T.Same
