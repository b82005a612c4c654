/- Plain values and a plain memory in which a call can be reckoned without the tape; what they say of the machine's own values and memory. -/
import Derived.Tactics
import Derived.Orders
import Derived.Below
import Derived.Laws.Append
import Derived.Laws.CopyRow
import Derived.Laws.Rows
import Derived.Laws.Tables
import Derived.Laws.Slices
import Derived.Laws.Strings
import Derived.Laws.Small
import Derived.Laws.Pointers
namespace Go.Dx

/-- Values without memory of the call's own. -/
inductive PV where
  | bool (b : Bool)
  | int (k : IntKind) (n : Int)
  | str (s : ByteArray)
  | nilp
  | nils
  | emp
  | ro (full : Bool) (es : List (List PV))
  | nilm
  | nilf
  | nili
  deriving Inhabited


/-- What names stand for: numbers; plain values. -/
structure Nm where
  i : Nat → Int
  p : Nat → PV
instance : CoeFun Nm (fun _ => Nat → Int) := ⟨Nm.i⟩
instance : Coe Nm (Nat → Int) := ⟨Nm.i⟩
variable {V : Nm → Prop}

/-- Numbers that are told by a name, and what is known of them. -/
inductive IV where
  | lit (n : Int)
  | tok (j : Nat)
  deriving DecidableEq
inductive FR where
  | bool (b : Bool)
  | tok (j : Nat)
  | lit (n : Int)
  deriving DecidableEq
structure Fact where
  op : BinOp
  k : IntKind
  x : IV
  y : IV
  r : FR
  deriving DecidableEq

/-- Values of a call. -/
inductive AV where
  | und
  | bool (b : Bool)
  | int (k : IntKind) (n : Int)
  | str (s : ByteArray)
  | nilp
  | ptr (id ep idx sub : Nat)
  | rptr (cs : List PV)
  | nils
  | emp
  | sl (id ep off len : Nat)
  | ro (full : Bool) (es : List (List PV))
  | agg (cs : List AV)
  | tup (vs : List AV)
  | nilm
  | map (id : Nat)
  | fn (f : FuncId) (first cap : List AV)
  | nilf
  | nili
  | ifc (t : TypeId) (v : AV)
  | mfn (name : String) (v : AV)
  | tok (B : List Fact) (k : IntKind) (j : Nat)
  | osl (B : List Fact) (j : Nat)
  | stk (E : List (Nat × Option Nat × Bool)) (B : List Fact) (j l : Nat)
  | lsl (B : List Fact) (j n : Nat) (i : IV) (cs : List AV)
  | wptr (cs : List AV)
  | lsq (T : List (Nat × IV × Nat × Nat)) (B : List Fact) (j n : Nat)
  deriving Inhabited

def arithA (op : BinOp) (k : IntKind) (a b : Int) : Option AV :=
  match op with
  | .add => some (.int k (k.wrap (a + b)))
  | .sub => some (.int k (k.wrap (a - b)))
  | .mul => some (.int k (k.wrap (a * b)))
  | .quo => if b = 0 then none else some (.int k (k.wrap (a.tdiv b)))
  | .rem => if b = 0 then none else some (.int k (a.tmod b))
  | .and => some (.int k (k.wrap (BitVec.ofInt k.bits a &&& BitVec.ofInt k.bits b).toNat))
  | .or => some (.int k (k.wrap (BitVec.ofInt k.bits a ||| BitVec.ofInt k.bits b).toNat))
  | .xor => some (.int k (k.wrap (BitVec.ofInt k.bits a ^^^ BitVec.ofInt k.bits b).toNat))
  | .andNot => some (.int k (k.wrap (BitVec.ofInt k.bits a &&& ~~~ BitVec.ofInt k.bits b).toNat))
  | .eql => some (.bool (a == b))
  | .neq => some (.bool (a != b))
  | .lss => some (.bool (decide (a < b)))
  | .leq => some (.bool (decide (a ≤ b)))
  | .gtr => some (.bool (decide (a > b)))
  | .geq => some (.bool (decide (a ≥ b)))
  | _ => none

def IV.val (v : Nat → Int) : IV → Int
  | .lit n => n
  | .tok j => v j
def FR.av (v : Nat → Int) (k : IntKind) : FR → AV
  | .bool b => .bool b
  | .tok j => .int k (v j)
  | .lit n => .int k n
/-- What is said to be known is so. -/
def Valid (v : Nat → Int) (B : List Fact) : Prop := ∀ f ∈ B, arithA f.op f.k (f.x.val v) (f.y.val v) = some (f.r.av v f.k)

/-- What is said of texts: which are equal; none is the empty one. -/
def tv1 (p : Nat → PV) : Option Nat → PV
  | some j => p j
  | none => .str ⟨#[]⟩
def ValidT (p : Nat → PV) (E : List (Nat × Option Nat × Bool)) : Prop := ∀ x ∈ E, (x.2.2 = true ↔ p x.1 = tv1 p x.2.1)
/-- How many elements. -/
def lenP : PV → Option Nat
  | .nils => some 0
  | .emp => some 0
  | .ro _ es => some es.length
  | _ => none
/-- The beginning of a list of bytes. -/
def takeP : PV → Nat → Option PV
  | .nils, 0 => some .nils
  | .emp, 0 => some .emp
  | .ro f es, k => if k ≤ es.length ∧ ∀ e ∈ es, e.length = 1 then some (.ro (f && k == es.length) (es.take k)) else none
  | _, _ => none
/-- What is said of beginnings: of which list, how many, which list, its length. -/
def ValidP (v : Nm) (T : List (Nat × IV × Nat × Nat)) : Prop := ∀ x ∈ T, ∃ k : Nat, x.2.1.val v = k ∧ takeP (v.p x.1) k = some (v.p x.2.2.1) ∧ v x.2.2.2 = (k : Int)
def WinOK (H : Nat → Option Obj) (u : Value) (x : Int) (l : Nat) (g : Nat → Value) : Prop :=
  ∃ (a : Addr) (len cap : Nat) (c : Array Value) (ty : TypeId) (fz : Nat × Nat) (m : Nat), u = .slice (some a) len cap ∧ a.spot = none ∧ H a.block = some (.cells c ty fz) ∧ x = (m : Nat) ∧ m < len ∧ ∀ q, q < l → c[a.off + (m * l + q)]? = some (g q)
theorem WinOK.mono {H H' : Nat → Option Obj} (hH : ∀ b o, H b = some o → H' b = some o) {u : Value} {x : Int} {l : Nat} {g : Nat → Value} (h : WinOK H u x l g) : WinOK H' u x l g := by
  obtain ⟨a, len, cap, c, ty, fz, m, h1, h2, h3, h4⟩ := h
  exact ⟨a, len, cap, c, ty, fz, m, h1, h2, hH _ _ h3, h4⟩

def up : PV → AV
  | .bool b => .bool b
  | .int k n => .int k n
  | .str s => .str s
  | .nilp => .nilp
  | .nils => .nils
  | .emp => .emp
  | .ro f es => .ro f es
  | .nilm => .nilm
  | .nilf => .nilf
  | .nili => .nili

inductive Blk where
  | hole
  | row (ty : TypeId) (sz : Nat) (es : List (List AV)) (live : List (Nat × Nat)) (next : Nat)
  | mp (es : List (AV × AV))
  deriving Inhabited

abbrev Heap := List Blk

structure Loc where
  cb : Nat
  s : Nat
  sz : Nat
  n : Nat

/-- What is known of the machine's memory: blocks that stay as they are; where the blocks of the call's own lie. -/
structure Kn (V : Nm → Prop) where
  H : Nat → Option Obj
  μ : Nat → Nat → Option Loc
  val : Nm
  hv : V val

inductive PRel (H : Nat → Option Obj) : PV → Value → Prop
  | bool (b : Bool) : PRel H (.bool b) (.bool b)
  | int (k : IntKind) (n : Int) : PRel H (.int k n) (.int k n)
  | str (s : ByteArray) : PRel H (.str s) (.string s)
  | nilp : PRel H .nilp (.pointer none)
  | nils : PRel H .nils (.slice none 0 0)
  | emp (a : Addr) : PRel H .emp (.slice (some a) 0 0)
  | ro (full : Bool) (es : List (List PV)) (a : Addr) (cap sz : Nat) (c : Array Value) (ty : TypeId) (fz : Nat × Nat) (f : Nat → Nat → Value)
      (hs : a.spot = none) (hH : es ≠ [] → H a.block = some (.cells c ty fz)) (hl : es.length ≤ cap) (hf : full = true → cap = es.length)
      (hz : ∀ (i : Nat) (e : List PV), es[i]? = some e → e.length = sz) (hc : ∀ (i : Nat) (e : List PV) (j : Nat) (v : PV), es[i]? = some e → e[j]? = some v → c[a.off + (i * sz + j)]? = some (f i j))
      (hv : ∀ (i : Nat) (e : List PV) (j : Nat) (v : PV), es[i]? = some e → e[j]? = some v → PRel H v (f i j)) : PRel H (.ro full es) (.slice (some a) es.length cap)
  | nilm : PRel H .nilm (.map none)
  | nilf : PRel H .nilf .nilFunc
  | nili : PRel H .nili .nilIface

inductive VRel (k : Kn V) : AV → Value → Prop
  | und : VRel k .und (.tuple #[])
  | bool (b : Bool) : VRel k (.bool b) (.bool b)
  | int (i : IntKind) (n : Int) : VRel k (.int i n) (.int i n)
  | str (s : ByteArray) : VRel k (.str s) (.string s)
  | nilp : VRel k .nilp (.pointer none)
  | ptr (id ep idx sub : Nat) (l : Loc) (hm : k.μ id ep = some l) (hs : l.s ≤ idx) : VRel k (.ptr id ep idx sub) (.pointer (some ⟨l.cb, (idx - l.s) * l.sz + sub, none⟩))
  | rptr (cs : List PV) (b o : Nat) (c : Array Value) (ty : TypeId) (fz : Nat × Nat) (f : Nat → Value) (hH : k.H b = some (.cells c ty fz))
      (hc : ∀ (j : Nat) (v : PV), cs[j]? = some v → c[o + j]? = some (f j)) (hv : ∀ (j : Nat) (v : PV), cs[j]? = some v → PRel k.H v (f j)) : VRel k (.rptr cs) (.pointer (some ⟨b, o, none⟩))
  | nils : VRel k .nils (.slice none 0 0)
  | emp (a : Addr) : VRel k .emp (.slice (some a) 0 0)
  | sl (id ep off len : Nat) (l : Loc) (a : Addr) (cap : Nat) (hm : k.μ id ep = some l) (hs : l.s ≤ off) (hl : len ≤ cap) (ha : (cap = 0 ∧ a.spot = none) ∨ a = ⟨l.cb, (off - l.s) * l.sz, none⟩)
      (hn : (off - l.s + cap) * l.sz ≤ l.n) : VRel k (.sl id ep off len) (.slice (some a) len cap)
  | ro (full : Bool) (es : List (List PV)) (u : Value) (h : PRel k.H (.ro full es) u) : VRel k (.ro full es) u
  | agg (cs : List AV) (us : Array Value) (hl : cs.length = us.size) (h : ∀ (j : Nat) (v : AV) (u : Value), cs[j]? = some v → us[j]? = some u → VRel k v u) : VRel k (.agg cs) (.agg us)
  | tup (cs : List AV) (us : Array Value) (hl : cs.length = us.size) (h : ∀ (j : Nat) (v : AV) (u : Value), cs[j]? = some v → us[j]? = some u → VRel k v u) : VRel k (.tup cs) (.tuple us)
  | nilm : VRel k .nilm (.map none)
  | fn (f : FuncId) (fs cs : List AV) (us vs : Array Value) (hf : fs.length = us.size) (hfr : ∀ (j : Nat) (v : AV) (u : Value), fs[j]? = some v → us[j]? = some u → VRel k v u)
      (hc : cs.length = vs.size) (hcr : ∀ (j : Nat) (v : AV) (u : Value), cs[j]? = some v → vs[j]? = some u → VRel k v u) : VRel k (.fn f fs cs) (.func (.func f) us vs)
  | nilf : VRel k .nilf .nilFunc
  | nili : VRel k .nili .nilIface
  | map (id : Nat) (l : Loc) (hm : k.μ id 0 = some l) : VRel k (.map id) (.map (some l.cb))
  | ifc (t : TypeId) (v : AV) (u : Value) (h : VRel k v u) : VRel k (.ifc t v) (.iface t u)
  | mfn (name : String) (v : AV) (u : Value) (h : VRel k v u) : VRel k (.mfn name v) (.func (.method name) #[u] #[])
  | tok (B : List Fact) (i : IntKind) (j : Nat) (h : Valid k.val B) : VRel k (.tok B i j) (.int i (k.val j))
  | osl (B : List Fact) (j : Nat) (a : Addr) (len cap : Nat) (h : Valid k.val B) (hl : (len : Int) = k.val j) : VRel k (.osl B j) (.slice (some a) len cap)
  | stk (E : List (Nat × Option Nat × Bool)) (B : List Fact) (j l : Nat) (s : ByteArray) (hp : k.val.p j = .str s) (hE : ValidT k.val.p E) (hB : Valid k.val B) (hl : (s.size : Int) = k.val l) : VRel k (.stk E B j l) (.string s)
  | lsl (B : List Fact) (j n : Nat) (i : IV) (cs : List AV) (u : Value) (len : Nat) (g : Nat → Value) (hp : PRel k.H (k.val.p j) u) (hB : Valid k.val B) (hl : lenP (k.val.p j) = some len) (hn : (len : Int) = k.val n)
      (hw : cs ≠ [] → WinOK k.H u (i.val k.val) cs.length g) (hc : ∀ (q : Nat) (c : AV), cs[q]? = some c → VRel k c (g q)) : VRel k (.lsl B j n i cs) u
  | wptr (cs : List AV) (b o : Nat) (c : Array Value) (ty : TypeId) (fz : Nat × Nat) (g : Nat → Value) (hH : k.H b = some (.cells c ty fz))
      (hc : ∀ (j : Nat) (v : AV), cs[j]? = some v → c[o + j]? = some (g j)) (hv : ∀ (j : Nat) (v : AV), cs[j]? = some v → VRel k v (g j)) : VRel k (.wptr cs) (.pointer (some ⟨b, o, none⟩))
  | lsq (T : List (Nat × IV × Nat × Nat)) (B : List Fact) (j n : Nat) (u : Value) (len : Nat) (hp : PRel k.H (k.val.p j) u) (hB : Valid k.val B) (hT : ValidP k.val T) (hl : lenP (k.val.p j) = some len) (hn : (len : Int) = k.val n) : VRel k (.lsq T B j n) u

/-- Lists, member by member. -/
def VRels (k : Kn V) (cs : List AV) (us : List Value) : Prop := cs.length = us.length ∧ ∀ (j : Nat) (v : AV) (u : Value), cs[j]? = some v → us[j]? = some u → VRel k v u

theorem PRel.mono {H H' : Nat → Option Obj} (hH : ∀ b o, H b = some o → H' b = some o) {v : PV} {u : Value} (h : PRel H v u) : PRel H' v u := by
  induction h with
  | bool b => exact .bool b
  | int k n => exact .int k n
  | str s => exact .str s
  | nilp => exact .nilp
  | nils => exact .nils
  | emp a => exact .emp a
  | ro full es a cap sz c ty fz f hs hh hl hf hz hc _ ih => exact .ro full es a cap sz c ty fz f hs (fun he => hH _ _ (hh he)) hl hf hz hc ih
  | nilm => exact .nilm
  | nilf => exact .nilf
  | nili => exact .nili

/-- What is known has only grown. -/
structure Kn.Le (k k' : Kn V) : Prop where
  H : ∀ b o, k.H b = some o → k'.H b = some o
  μ : ∀ id ep l, k.μ id ep = some l → k'.μ id ep = some l
  val : k'.val = k.val
theorem Kn.Le.refl (k : Kn V) : k.Le k := ⟨fun _ _ h => h, fun _ _ _ h => h, rfl⟩
theorem Kn.Le.trans {a b c : Kn V} (h : a.Le b) (h' : b.Le c) : a.Le c := ⟨fun _ _ x => h'.H _ _ (h.H _ _ x), fun _ _ _ x => h'.μ _ _ _ (h.μ _ _ _ x), h'.val.trans h.val⟩

theorem VRel.mono {k k' : Kn V} (hk : k.Le k') {v : AV} {u : Value} (h : VRel k v u) : VRel k' v u := by
  induction h with
  | und => exact .und
  | bool b => exact .bool b
  | int i n => exact .int i n
  | str s => exact .str s
  | nilp => exact .nilp
  | ptr id ep idx sub l hm hs => exact .ptr id ep idx sub l (hk.μ _ _ _ hm) hs
  | rptr cs b o c ty fz f hH hc hv => exact .rptr cs b o c ty fz f (hk.H _ _ hH) hc (fun j v hj => (hv j v hj).mono hk.H)
  | nils => exact .nils
  | emp a => exact .emp a
  | sl id ep off len l a cap hm hs hl ha hn => exact .sl id ep off len l a cap (hk.μ _ _ _ hm) hs hl ha hn
  | ro full es u h => exact .ro full es u (h.mono hk.H)
  | agg cs us hl _ ih => exact .agg cs us hl ih
  | tup cs us hl _ ih => exact .tup cs us hl ih
  | nilm => exact .nilm
  | fn f fs cs us vs hf _ hc _ ih1 ih2 => exact .fn f fs cs us vs hf ih1 hc ih2
  | nilf => exact .nilf
  | nili => exact .nili
  | map id l hm => exact .map id l (hk.μ _ _ _ hm)
  | ifc t v u _ ih => exact .ifc t v u ih
  | mfn n v u _ ih => exact .mfn n v u ih
  | tok B i j h => rw [← hk.val]; exact .tok B i j (by rw [hk.val]; exact h)
  | osl B j a len cap h hl => exact .osl B j a len cap (by rw [hk.val]; exact h) (by rw [hk.val]; exact hl)
  | stk E B j l s hp hE hB hl => exact .stk E B j l s (by rw [hk.val]; exact hp) (by rw [hk.val]; exact hE) (by rw [hk.val]; exact hB) (by rw [hk.val]; exact hl)
  | lsl B j n i cs u len g hp hB hl hn hw _ ih => exact .lsl B j n i cs u len g (by rw [hk.val]; exact hp.mono hk.H) (by rw [hk.val]; exact hB) (by rw [hk.val]; exact hl) (by rw [hk.val]; exact hn) (fun h => by rw [hk.val]; exact (hw h).mono hk.H) ih
  | wptr cs b o c ty fz g hH hc _ ih => exact .wptr cs b o c ty fz g (hk.H _ _ hH) hc ih
  | lsq T B j n u len hp hB hT hl hn => exact .lsq T B j n u len (by rw [hk.val]; exact hp.mono hk.H) (by rw [hk.val]; exact hB) (by rw [hk.val]; exact hT) (by rw [hk.val]; exact hl) (by rw [hk.val]; exact hn)
theorem VRels.mono {k k' : Kn V} (hk : k.Le k') {cs : List AV} {us : List Value} (h : VRels k cs us) : VRels k' cs us := ⟨h.1, fun j v u hv hu => (h.2 j v u hv hu).mono hk⟩

theorem VRel.of_up {k : Kn V} {v : PV} {u : Value} (h : PRel k.H v u) : VRel k (up v) u := by
  cases h with
  | bool b => exact .bool b
  | int i n => exact .int i n
  | str s => exact .str s
  | nilp => exact .nilp
  | nils => exact .nils
  | emp a => exact .emp a
  | ro full es a cap sz c ty fz f hs hh hl hf hz hc hv => exact .ro full es _ (.ro full es a cap sz c ty fz f hs hh hl hf hz hc hv)
  | nilm => exact .nilm
  | nilf => exact .nilf
  | nili => exact .nili

/-- One cell. -/
def one : AV → Bool
  | .agg _ | .tup _ | .und => false
  | _ => true
theorem VRel.one {k : Kn V} {v : AV} {u : Value} (h : VRel k v u) (h1 : one v = true) : u.oneCell' = true := by
  cases h with
  | ro full es u h => cases h; rfl
  | lsl B j n i cs u len g hp hB hl hn hw hc =>
    generalize k.val.p j = p at *
    cases hp <;> first | rfl | cases hl
  | lsq T B j n u len hp hB hT hl hn =>
    generalize k.val.p j = p at *
    cases hp <;> first | rfl | cases hl
  | agg => cases h1
  | tup => cases h1
  | und => cases h1
  | _ => rfl

def cellsA : AV → List AV
  | .agg cs => cs
  | v => [v]
theorem VRel.cells {k : Kn V} {v : AV} {u : Value} (h : VRel k v u) : VRels k (cellsA v) u.cells.toList := by
  have single : ∀ {v : AV} {u : Value}, VRel k v u → VRels k [v] [u] := fun h => ⟨rfl, fun j v u hv hu => by
    cases j with
    | zero => simp at hv hu; subst hv; subst hu; exact h
    | succ j => simp at hv⟩
  cases h with
  | agg cs us hl h => exact ⟨by simpa [cellsA, Value.cells] using hl, fun j v u hv hu => h j v u hv (by simpa [Value.cells] using hu)⟩
  | ro full es u h => cases h with | ro => exact single (.ro full es _ (.ro _ _ _ _ _ _ _ _ _ ‹_› ‹_› ‹_› ‹_› ‹_› ‹_› ‹_›))
  | und => exact single .und
  | bool b => exact single (.bool b)
  | int i n => exact single (.int i n)
  | str s => exact single (.str s)
  | nilp => exact single .nilp
  | ptr id ep idx sub l hm hs => exact single (.ptr id ep idx sub l hm hs)
  | rptr cs b o c ty fz f hH hc hv => exact single (.rptr cs b o c ty fz f hH hc hv)
  | nils => exact single .nils
  | emp a => exact single (.emp a)
  | sl id ep off len l a cap hm hs hl ha hn => exact single (.sl id ep off len l a cap hm hs hl ha hn)
  | tup cs us hl h => exact single (.tup cs us hl h)
  | nilm => exact single .nilm
  | fn f fs cs us vs hf h1 hc h2 => exact single (.fn f fs cs us vs hf h1 hc h2)
  | nilf => exact single .nilf
  | nili => exact single .nili
  | map id l hm => exact single (.map id l hm)
  | ifc t v u h => exact single (.ifc t v u h)
  | mfn n v u h => exact single (.mfn n v u h)
  | tok B i j h => exact single (.tok B i j h)
  | osl B j a len cap h hl => exact single (.osl B j a len cap h hl)
  | stk E B j l s hp hE hB hl => exact single (.stk E B j l s hp hE hB hl)
  | lsl B j n i cs u len g hp hB hl hn hw hc =>
    have h' := VRel.lsl B j n i cs u len g hp hB hl hn hw hc
    have hu : u.cells = #[u] := by
      generalize k.val.p j = p at *
      cases hp <;> first | rfl | cases hl
    rw [hu]
    exact single h'
  | wptr cs b o c ty fz g hH hc hv => exact single (.wptr cs b o c ty fz g hH hc hv)
  | lsq T B j n u len hp hB hT hl hn =>
    have h' := VRel.lsq T B j n u len hp hB hT hl hn
    have hu : u.cells = #[u] := by
      generalize k.val.p j = p at *
      cases hp <;> first | rfl | cases hl
    rw [hu]
    exact single h'

/-- Nothing of a row is frozen. -/
def FzOK (fz : Nat × Nat) (n : Nat) : Prop := fz.1 = fz.2 ∨ n ≤ fz.1
theorem FzOK.out {fz : Nat × Nat} {n : Nat} (h : FzOK fz n) : ∀ i, i < n → ¬ (fz.1 ≤ i ∧ i < fz.2) := by
  intro i hi h2
  rcases h with h | h <;> omega

/-- What a block of the call's own says of the machine's memory. -/
structure RowOK (k : Kn V) (w : World) (id : Nat) (ty : TypeId) (sz : Nat) (es : List (List AV)) (live : List (Nat × Nat)) (next : Nat) : Prop where
  pos : 0 < sz
  eps : ∀ (ep ext : Nat), (ep, ext) ∈ live → ep < next ∧ ext ≤ es.length
  len : ∀ (i : Nat) (e : List AV), es[i]? = some e → e.length = sz ∧ ∀ v ∈ e, one v = true
  loc : ∀ (ep ext : Nat), (ep, ext) ∈ live → ∃ (l : Loc) (c : Array Value) (fz : Nat × Nat), k.μ id ep = some l ∧ l.sz = sz ∧ l.s ≤ ext ∧ k.H l.cb = none ∧ w.heap[l.cb]? = some (.cells c ty fz) ∧ c.size = l.n ∧
    FzOK fz c.size ∧ (ext - l.s) * sz ≤ l.n ∧
    ∀ (p : Nat) (e : List AV) (j : Nat) (v : AV), l.s ≤ p → p < ext → es[p]? = some e → e[j]? = some v → ∃ u, c[(p - l.s) * sz + j]? = some u ∧ VRel k v u

/-- What a map of the call's own says of the machine's memory. -/
def MRel (k : Kn V) (es : List (AV × AV)) (l : List MapEntry) : Prop := es.length = l.length ∧ ∀ (j : Nat) (a : AV × AV) (e : MapEntry), es[j]? = some a → l[j]? = some e → VRel k a.1 e.key ∧ VRel k a.2 e.val
def MapOK (k : Kn V) (w : World) (id : Nat) (es : List (AV × AV)) : Prop := ∃ (l : Loc) (ents : Array MapEntry) (clock : Nat), k.μ id 0 = some l ∧ k.H l.cb = none ∧ w.heap[l.cb]? = some (.map ents clock) ∧ MRel k es ents.toList
theorem MRel.mono {k k' : Kn V} (hk : k.Le k') {es : List (AV × AV)} {l : List MapEntry} (h : MRel k es l) : MRel k' es l := ⟨h.1, fun j a e ha he => let x := h.2 j a e ha he; ⟨x.1.mono hk, x.2.mono hk⟩⟩

def IsRow (b : Option Blk) : Prop := (∃ ty sz es live next, b = some (.row ty sz es live next)) ∨ ∃ es, b = some (.mp es)

structure Rel (k : Kn V) (σ : Heap) (w : World) : Prop where
  row : ∀ (id : Nat) ty sz es live next, σ[id]? = some (.row ty sz es live next) → RowOK k w id ty sz es live next
  sep : ∀ (id id' ep ep' : Nat) (l l' : Loc), k.μ id ep = some l → k.μ id' ep' = some l' → l.cb = l'.cb → id = id' ∧ l = l'
  H : ∀ b o, k.H b = some o → w.heap[b]? = some o
  fresh : ∀ id ep l, k.μ id ep = some l → l.cb < w.heap.size ∧ id < σ.length ∧ ∀ ty sz es live next, σ[id]? = some (.row ty sz es live next) → ep < next ∧ l.sz = sz
  nodup : ∀ (id : Nat) ty sz es live next, σ[id]? = some (.row ty sz es live next) → (live.map (·.1)).Nodup
  mp : ∀ (id : Nat) es, σ[id]? = some (.mp es) → MapOK k w id es

/-- A block of the machine that is a row's. -/
def Owns (k : Kn V) (σ : Heap) (b : Nat) : Prop := ∃ id ep l, k.μ id ep = some l ∧ l.cb = b ∧ IsRow σ[id]?

/-- From w to w' only blocks of the call's own have turned. -/
structure Frame (k : Kn V) (σ : Heap) (w : World) (k' : Kn V) (σ' : Heap) (w' : World) : Prop where
  os : w'.os = w.os
  tape : w'.tape = w.tape
  output : w'.output = w.output
  size : w.heap.size ≤ w'.heap.size
  block : ∀ b, b < w.heap.size → ¬ Owns k σ b → w'.heap[b]? = w.heap[b]?
  newH : ∀ b o, k'.H b = some o → k.H b = some o ∨ w.heap.size ≤ b ∨ Owns k σ b
  newμ : ∀ id ep l, k'.μ id ep = some l → k.μ id ep = some l ∨ w.heap.size ≤ l.cb ∨ Owns k σ l.cb
  rows : ∀ id : Nat, id < σ.length → IsRow σ'[id]? → IsRow σ[id]?
  len : σ.length ≤ σ'.length
  hol : ∀ id ep, id < σ.length → ¬ IsRow σ[id]? → k'.μ id ep = k.μ id ep

structure Step (k : Kn V) (σ : Heap) (w : World) (k' : Kn V) (σ' : Heap) (w' : World) : Prop where
  rel0 : Rel k σ w
  le : k.Le k'
  rel : Rel k' σ' w'
  fr : Frame k σ w k' σ' w'

theorem Frame.refl (k : Kn V) (σ : Heap) (w : World) : Frame k σ w k σ w :=
  ⟨rfl, rfl, rfl, Nat.le_refl _, fun _ _ _ => rfl, fun _ _ h => .inl h, fun _ _ _ h => .inl h, fun _ _ h => h, Nat.le_refl _, fun _ _ _ _ => rfl⟩

theorem Frame.own {k k1 : Kn V} {σ σ1 : Heap} {w w1 : World} (hR : Rel k σ w) (h : Frame k σ w k1 σ1 w1) {b : Nat} (hb : b < w.heap.size) (ho : Owns k1 σ1 b) : Owns k σ b := by
  obtain ⟨id, ep, l, h1, h2, h3⟩ := ho
  rcases h.newμ id ep l h1 with h4 | h4 | h4
  · exact ⟨id, ep, l, h4, h2, h.rows id (hR.fresh id ep l h4).2.1 h3⟩
  · omega
  · rw [← h2]; exact h4

theorem Frame.trans {k k1 k2 : Kn V} {σ σ1 σ2 : Heap} {w w1 w2 : World} (hR : Rel k σ w) (h : Frame k σ w k1 σ1 w1) (h' : Frame k1 σ1 w1 k2 σ2 w2) : Frame k σ w k2 σ2 w2 where
  os := h'.os.trans h.os
  tape := h'.tape.trans h.tape
  output := h'.output.trans h.output
  size := Nat.le_trans h.size h'.size
  block b hb hn := by rw [h'.block b (Nat.lt_of_lt_of_le hb h.size) fun ho => hn (h.own hR hb ho), h.block b hb hn]
  newH b o hb := by
    rcases h'.newH b o hb with h1 | h1 | h1
    · exact h.newH b o h1
    · exact .inr (.inl (Nat.le_trans h.size h1))
    · rcases Nat.lt_or_ge b w.heap.size with h2 | h2
      · exact .inr (.inr (h.own hR h2 h1))
      · exact .inr (.inl h2)
  newμ id ep l hm := by
    rcases h'.newμ id ep l hm with h1 | h1 | h1
    · exact h.newμ id ep l h1
    · exact .inr (.inl (Nat.le_trans h.size h1))
    · rcases Nat.lt_or_ge l.cb w.heap.size with h2 | h2
      · exact .inr (.inr (h.own hR h2 h1))
      · exact .inr (.inl h2)
  rows id hi hr := h.rows id hi (h'.rows id (Nat.lt_of_lt_of_le hi h.len) hr)
  len := Nat.le_trans h.len h'.len
  hol id ep hi hr := by rw [h'.hol id ep (Nat.lt_of_lt_of_le hi h.len) fun hr1 => hr (h.rows id hi hr1), h.hol id ep hi hr]

theorem Step.refl {k : Kn V} {σ : Heap} {w : World} (h : Rel k σ w) : Step k σ w k σ w := ⟨h, .refl k, h, .refl k σ w⟩
theorem Step.trans {k k1 k2 : Kn V} {w w1 w2 : World} {σ σ1 σ2 : Heap} (h : Step k σ w k1 σ1 w1) (h' : Step k1 σ1 w1 k2 σ2 w2) : Step k σ w k2 σ2 w2 := ⟨h.rel0, h.le.trans h'.le, h'.rel, h.fr.trans h.rel0 h'.fr⟩

theorem Rel.drew {k : Kn V} {σ : Heap} {w : World} (h : Rel k σ w) : Rel k σ w.drew :=
  ⟨fun id ty sz es live next hb => let r := h.row id ty sz es live next hb; ⟨r.pos, r.eps, r.len, r.loc⟩, h.sep, h.H, h.fresh, h.nodup, h.mp⟩
theorem Step.drew {k : Kn V} {σ : Heap} {w : World} (h : Rel k σ w) : Step k σ w k σ w.drew :=
  ⟨h, .refl k, h.drew, ⟨rfl, rfl, rfl, Nat.le_refl _, fun _ _ _ => rfl, fun _ _ h => .inl h, fun _ _ _ h => .inl h, fun _ _ h => h, Nat.le_refl _, fun _ _ _ _ => rfl⟩⟩

end Go.Dx
