/- Numbers, strings, comparisons, conversions. -/
import Derived.Test.YtnglipioaippoaaEyA
namespace Go.Dx
variable {V : Nm → Prop}
section
variable {P : Program} {k : Kn V} {σ : Heap} {w : World}

/-! ### Two operands -/
def shiftA (op : BinOp) (k : IntKind) (a b : Int) : Option AV :=
  if b < 0 then none else
  match op with
  | .shl => some (.int k (k.wrap (a * 2 ^ (min b.toNat k.bits))))
  | .shr => some (.int k (a.fdiv (2 ^ (min b.toNat k.bits))))
  | _ => none
def cat (a b : ByteArray) : ByteArray := ⟨(a.data.toList ++ b.data.toList).toArray⟩
theorem cat_eq (a b : ByteArray) : cat a b = a ++ b := by
  apply ByteArray.ext
  apply Array.ext'
  simp [cat, ByteArray.data_append]
def strA (op : BinOp) (a b : ByteArray) : Option AV :=
  match op with
  | .add => if a.size + b.size ≤ capBytes then some (.str (cat a b)) else none
  | .eql => some (.bool (a.data.toList == b.data.toList))
  | .neq => some (.bool (!(a.data.toList == b.data.toList)))
  | .lss => some (.bool (Op.bytesLess a.data.toList b.data.toList))
  | .leq => some (.bool (Op.bytesLess a.data.toList b.data.toList || a.data.toList == b.data.toList))
  | .gtr => some (.bool (!(Op.bytesLess a.data.toList b.data.toList || a.data.toList == b.data.toList)))
  | .geq => some (.bool (!(Op.bytesLess a.data.toList b.data.toList)))
  | _ => none

/-- What is known of two texts. -/
def textA (a : Nat) (b : Option Nat) : List (Nat × Option Nat × Bool) → Option Bool
  | [] => none
  | (x, y, r) :: l => if decide (x = a) && decide (y = b) then some r else textA a b l
theorem textA_mem {a : Nat} {b : Option Nat} {r : Bool} : ∀ {l : List (Nat × Option Nat × Bool)}, textA a b l = some r → (a, b, r) ∈ l
  | [], h => by cases h
  | (x, y, z) :: l, h => by
    simp only [textA] at h
    split at h
    · rename_i hc
      simp only [Bool.and_eq_true, decide_eq_true_eq] at hc
      obtain ⟨rfl, rfl⟩ := hc
      injection h with h; subst h
      exact List.mem_cons_self
    · exact List.mem_cons_of_mem _ (textA_mem h)
def eqR (op : BinOp) (r : Option Bool) : Option AV :=
  match op, r with
  | .eql, some b => some (.bool b)
  | .neq, some b => some (.bool (!b))
  | _, _ => none
def isE0 (s : ByteArray) : Bool := match s.data.toList with | [] => true | _ => false
theorem isE0_eq {s : ByteArray} (h : isE0 s = true) : s = ⟨#[]⟩ := by
  unfold isE0 at h
  split at h
  · rename_i hs
    apply ByteArray.ext
    apply Array.ext'
    exact hs
  · cases h

def isNil : AV → Option Bool
  | .nilp => some true
  | .ptr _ _ _ _ => some false
  | .rptr _ => some false
  | .nils => some true
  | .emp => some false
  | .sl _ _ _ _ => some false
  | .ro _ _ => some false
  | .nilm => some true
  | .nilf => some true
  | .fn _ _ _ => some false
  | _ => none
def nilOf (P : Program) (t : TypeId) (y : AV) : Bool :=
  match P.underlying t, y with
  | some (.pointer _), .nilp => true
  | some (.slice _), .nils => true
  | some (.map _ _), .nilm => true
  | some (.func _ _ _), .nilf => true
  | _, _ => false
def shapeOf (P : Program) (t : TypeId) (y : AV) : Bool :=
  match P.underlying t, y with
  | some (.pointer _), .nilp => true
  | some (.pointer _), .ptr _ _ _ _ => true
  | some (.pointer _), .rptr _ => true
  | some (.slice _), .nils => true
  | some (.slice _), .emp => true
  | some (.slice _), .sl _ _ _ _ => true
  | some (.slice _), .ro _ _ => true
  | some (.map _ _), .nilm => true
  | some (.func _ _ _), .nilf => true
  | some (.func _ _ _), .fn _ _ _ => true
  | _, _ => false

/-- What is known of an operation on numbers that are told by a name. -/
def tokA (B : List Fact) (op : BinOp) (k : IntKind) (x y : IV) : List Fact → Option AV
  | [] => none
  | f :: r => if decide (f.op = op) && decide (f.k = k) && decide (f.x = x) && decide (f.y = y) then (match f.r with
      | .bool b => some (.bool b)
      | .tok j => some (.tok B k j)
      | .lit n => some (.int k n)) else tokA B op k x y r
theorem tokA_some {B : List Fact} {op : BinOp} {k : IntKind} {x y : IV} {r : AV} : ∀ {l : List Fact}, tokA B op k x y l = some r → ∃ f ∈ l, f.op = op ∧ f.k = k ∧ f.x = x ∧ f.y = y ∧ ((∃ b, f.r = .bool b ∧ r = .bool b) ∨ (∃ j, f.r = .tok j ∧ r = .tok B k j) ∨ ∃ n, f.r = .lit n ∧ r = .int k n)
  | [], h => by cases h
  | f :: l, h => by
    simp only [tokA] at h
    split at h
    · rename_i hc
      simp only [Bool.and_eq_true, decide_eq_true_eq] at hc
      obtain ⟨⟨⟨h1, h2⟩, h3⟩, h4⟩ := hc
      refine ⟨f, List.mem_cons_self, h1, h2, h3, h4, ?_⟩
      split at h
      · rename_i b hb; injection h with h; exact .inl ⟨b, hb, h.symm⟩
      · rename_i j hj; injection h with h; exact .inr (.inl ⟨j, hj, h.symm⟩)
      · rename_i j hj; injection h with h; exact .inr (.inr ⟨j, hj, h.symm⟩)
    · obtain ⟨f', hf, h'⟩ := tokA_some h
      exact ⟨f', List.mem_cons_of_mem _ hf, h'⟩

def binA (P : Program) (op : BinOp) (t : TypeId) (x y : AV) : Option AV :=
  match x, y with
  | .tok B k i, .int k' b => if k = k' then tokA B op k (.tok i) (.lit b) B else none
  | .int k a, .tok B k' j => if k = k' then tokA B op k (.lit a) (.tok j) B else none
  | .tok B k i, .tok _ k' j => if k = k' then tokA B op k (.tok i) (.tok j) B else none
  | .int k a, .int k' b =>
    match op with
    | .shl => shiftA .shl k a b
    | .shr => shiftA .shr k a b
    | _ => if k = k' then arithA op k a b else none
  | .str a, .str b => strA op a b
  | .stk E _ j _, .stk _ _ j' _ => eqR op (textA j (some j') E)
  | .stk E _ j _, .str s => if isE0 s then eqR op (textA j none E) else none
  | .bool a, .bool b =>
    match P.underlying t with
    | some .bool => match op with
      | .eql => some (.bool (a == b))
      | .neq => some (.bool (!(a == b)))
      | _ => none
    | _ => none
  | x, y =>
    if nilOf P t y && shapeOf P t x then
      match op, isNil x with
      | .eql, some b => some (.bool b)
      | .neq, some b => some (.bool (!b))
      | _, _ => none
    else none

/-! The same, laid out so that the kernel has little to put in. -/
noncomputable def aDiv (k : IntKind) (a b : Int) : Option AV := if b = 0 then none else some (.int k (k.wrap (a.tdiv b)))
noncomputable def aRem (k : IntKind) (a b : Int) : Option AV := if b = 0 then none else some (.int k (a.tmod b))
def eqI : Int → Int → Bool
  | .ofNat m, .ofNat n => Nat.beq m n
  | .negSucc m, .negSucc n => Nat.beq m n
  | _, _ => false
def ltI : Int → Int → Bool
  | .ofNat m, .ofNat n => Nat.blt m n
  | .negSucc _, .ofNat _ => true
  | .ofNat _, .negSucc _ => false
  | .negSucc m, .negSucc n => Nat.blt n m
theorem beq_dec (m n : Nat) : Nat.beq m n = decide (m = n) := by
  cases h : Nat.beq m n with
  | true => simp [Nat.eq_of_beq_eq_true h]
  | false =>
    have : ¬ m = n := fun he => by rw [he, Nat.beq_refl] at h; cases h
    simp [this]
theorem blt_dec (m n : Nat) : Nat.blt m n = decide (m < n) := by
  cases h : Nat.blt m n with
  | true => simp [Nat.lt_of_succ_le (Nat.le_of_ble_eq_true h)]
  | false =>
    have : ¬ m < n := fun hl => by
      have h2 : Nat.blt m n = true := Nat.ble_eq_true_of_le hl
      rw [h2] at h; cases h
    simp [this]
theorem eqI_eq (a b : Int) : eqI a b = decide (a = b) := by
  cases a <;> cases b <;> simp [eqI, beq_dec]
  rename_i m n
  by_cases h : m = n
  · simp [h]
  · simp [h]; omega
theorem ltI_eq (a b : Int) : ltI a b = decide (a < b) := by
  cases a <;> cases b <;> simp [ltI, blt_dec]
  · rename_i m n
    have : (0 : Int) ≤ m := Int.natCast_nonneg _
    omega
  · rename_i m n
    omega
  · rename_i m n
    by_cases h : n < m
    · simp [h]; omega
    · simp [h]; omega
noncomputable def wrapF (k : IntKind) (n : Int) : Int :=
  match k, n with
  | .i64, .ofNat m => cond (Nat.blt m 9223372036854775808) (.ofNat m) (IntKind.wrap .i64 (.ofNat m))
  | k, n => k.wrap n
theorem wrapF_eq (k : IntKind) (n : Int) : wrapF k n = k.wrap n := by
  unfold wrapF
  split
  · rename_i m
    rw [blt_dec]
    by_cases h : m < 9223372036854775808
    · rw [decide_eq_true h, cond_true]
      have hb : (2 : Int) ^ IntKind.bits .i64 = 18446744073709551616 := rfl
      have hb1 : (2 : Int) ^ (IntKind.bits .i64 - 1) = 9223372036854775808 := rfl
      have hs : IntKind.signed .i64 = true := rfl
      unfold IntKind.wrap
      simp only [hb, hb1, hs, Bool.true_and, decide_eq_true_eq, ge_iff_le, Int.ofNat_eq_natCast]
      split <;> omega
    · rw [decide_eq_false h]; rfl
  · rfl
noncomputable def aAdd (k : IntKind) (a b : Int) : Option AV := some (.int k (wrapF k (a + b)))
noncomputable def aSub (k : IntKind) (a b : Int) : Option AV := some (.int k (wrapF k (a - b)))
noncomputable def aMul (k : IntKind) (a b : Int) : Option AV := some (.int k (wrapF k (a * b)))
noncomputable def aEql (_ : IntKind) (a b : Int) : Option AV := some (.bool (eqI a b))
noncomputable def aNeq (_ : IntKind) (a b : Int) : Option AV := some (.bool (!eqI a b))
noncomputable def aLss (_ : IntKind) (a b : Int) : Option AV := some (.bool (ltI a b))
noncomputable def aLeq (_ : IntKind) (a b : Int) : Option AV := some (.bool (!ltI b a))
noncomputable def aGtr (_ : IntKind) (a b : Int) : Option AV := some (.bool (ltI b a))
noncomputable def aGeq (_ : IntKind) (a b : Int) : Option AV := some (.bool (!ltI a b))
noncomputable def arithF (op : BinOp) : IntKind → Int → Int → Option AV :=
  match op with
  | .add => aAdd
  | .sub => aSub
  | .mul => aMul
  | .quo => aDiv
  | .rem => aRem
  | .and => arithA .and
  | .or => arithA .or
  | .xor => arithA .xor
  | .andNot => arithA .andNot
  | .eql => aEql
  | .neq => aNeq
  | .lss => aLss
  | .leq => aLeq
  | .gtr => aGtr
  | .geq => aGeq
  | .shl => shiftA .shl
  | .shr => shiftA .shr
theorem arithF_eq (op : BinOp) (hs : op ≠ .shl ∧ op ≠ .shr) (k : IntKind) (a b : Int) : arithF op k a b = arithA op k a b := by
  have h1 : (!ltI b a) = decide (a ≤ b) := by
    rw [ltI_eq]; by_cases h : a ≤ b
    · have : ¬ b < a := by omega
      simp [h, this]
    · have : b < a := by omega
      simp [h, this]
  have h2 : (!ltI a b) = decide (a ≥ b) := by
    rw [ltI_eq]; by_cases h : a ≥ b
    · have : ¬ a < b := by omega
      simp [h, this]
    · have : a < b := by omega
      simp [h, this]
  cases op <;> first
    | rfl
    | (exact absurd rfl hs.1)
    | (exact absurd rfl hs.2)
    | (simp only [arithF, arithA, aAdd, aSub, aMul, wrapF_eq]; done)
    | (simp only [arithF, arithA, aLss, aGtr, ltI_eq, gt_iff_lt]; done)
    | (simp only [arithF, arithA, aLeq, h1]; done)
    | (simp only [arithF, arithA, aGeq, h2]; done)
    | (simp only [arithF, arithA, aEql, aNeq, eqI_eq]; rfl)
def isSh : BinOp → Bool
  | .shl => true
  | .shr => true
  | _ => false
/-- Equal texts. -/
def eqB : List UInt8 → List UInt8 → Bool
  | [], [] => true
  | x :: r, y :: s => cond (Nat.beq x.toNat y.toNat) (eqB r s) false
  | _, _ => false
theorem eqB_eq : ∀ (a b : List UInt8), eqB a b = (a == b)
  | [], [] => rfl
  | [], _ :: _ => rfl
  | _ :: _, [] => rfl
  | x :: r, y :: s => by
    simp only [eqB, eqB_eq r s, beq_dec]
    by_cases h : x = y
    · subst h; simp
    · have : ¬ x.toNat = y.toNat := fun he => h (UInt8.toNat_inj.1 he)
      simp [h, this]
noncomputable def sEql (a b : ByteArray) : Option AV := some (.bool (eqB a.data.toList b.data.toList))
noncomputable def sNeq (a b : ByteArray) : Option AV := some (.bool (!eqB a.data.toList b.data.toList))
noncomputable def strF (op : BinOp) : ByteArray → ByteArray → Option AV :=
  match op with
  | .add => strA .add
  | .eql => sEql
  | .neq => sNeq
  | .lss => strA .lss
  | .leq => strA .leq
  | .gtr => strA .gtr
  | .geq => strA .geq
  | _ => fun _ _ => none
/-- A number, written out. -/
noncomputable def forceN {α : Type} (m : Nat) (next : Nat → α) : α := Nat.rec (motive := fun _ => α) (next 0) (fun p _ => next (Nat.succ p)) m
theorem forceN_eq {α : Type} (m : Nat) (next : Nat → α) : forceN m next = next m := by cases m <;> rfl
noncomputable def forceI {α : Type} (n : Int) (next : Int → α) : α := match n with
  | .ofNat m => forceN m fun m => next (.ofNat m)
  | .negSucc m => forceN m fun m => next (.negSucc m)
theorem forceI_eq {α : Type} (n : Int) (next : Int → α) : forceI n next = next n := by
  cases n with
  | ofNat m => exact forceN_eq m fun m => next (.ofNat m)
  | negSucc m => exact forceN_eq m fun m => next (.negSucc m)
noncomputable def forceB {α : Type} (b : Bool) (next : Bool → α) : α := match b with
  | true => next true
  | false => next false
theorem forceB_eq {α : Type} (b : Bool) (next : Bool → α) : forceB b next = next b := by cases b <;> rfl
/-- A value, written out as far as it pays. -/
noncomputable def forceV {α : Type} (v : AV) (next : AV → α) : α := match v with
  | .int k n => forceI n fun n => next (.int k n)
  | .bool b => forceB b fun b => next (.bool b)
  | v => next v
theorem forceV_eq {α : Type} (v : AV) (next : AV → α) : forceV v next = next v := by
  cases v with
  | int k n => exact forceI_eq n fun n => next (.int k n)
  | bool b => exact forceB_eq b fun b => next (.bool b)
  | _ => rfl
noncomputable def bRest (P : Program) (op : BinOp) (t : TypeId) (x y : AV) : Option AV :=
  if nilOf P t y && shapeOf P t x then
      match op, isNil x with
      | .eql, some b => some (.bool b)
      | .neq, some b => some (.bool (!b))
      | _, _ => none
    else none
noncomputable def bInt (P : Program) (op : BinOp) (t : TypeId) (k : IntKind) (a : Int) (y : AV) : Option AV :=
  match y with
  | .int k' b => cond (isSh op || decide (k = k')) (arithF op k a b) none
  | .tok B k' j => if k = k' then tokA B op k (.lit a) (.tok j) B else none
  | y => bRest P op t (.int k a) y
noncomputable def bStr (P : Program) (op : BinOp) (t : TypeId) (a : ByteArray) (y : AV) : Option AV :=
  match y with
  | .str b => strF op a b
  | y => bRest P op t (.str a) y
noncomputable def bTok (P : Program) (op : BinOp) (t : TypeId) (B : List Fact) (k : IntKind) (i : Nat) (y : AV) : Option AV :=
  match y with
  | .int k' b => if k = k' then tokA B op k (.tok i) (.lit b) B else none
  | .tok _ k' j => if k = k' then tokA B op k (.tok i) (.tok j) B else none
  | y => bRest P op t (.tok B k i) y
noncomputable def binF (P : Program) (op : BinOp) (t : TypeId) (x : AV) : AV → Option AV :=
  match x with
  | .int k a => bInt P op t k a
  | .str a => bStr P op t a
  | .tok B k i => bTok P op t B k i
  | x => binA P op t x
theorem bII (P : Program) (op : BinOp) (t : TypeId) (k k' : IntKind) (a b : Int) : cond (isSh op || decide (k = k')) (arithF op k a b) none = binA P op t (.int k a) (.int k' b) := by
  by_cases hk : k = k'
  · have : decide (k = k') = true := decide_eq_true hk
    rw [this, Bool.or_true, cond_true]
    subst hk
    cases op <;> first | rfl | (show _ = if k = k then _ else none; rw [if_pos rfl]; exact arithF_eq _ ⟨(by intro h; cases h), (by intro h; cases h)⟩ _ _ _)
  · have : decide (k = k') = false := decide_eq_false hk
    rw [this, Bool.or_false]
    cases op <;> first | rfl | (show none = if k = k' then _ else none; rw [if_neg hk])
theorem binF_eq (P : Program) (op : BinOp) (t : TypeId) (x y : AV) : binF P op t x y = binA P op t x y := by
  cases x <;> first
    | rfl
    | (cases y <;> first
        | rfl
        | exact bII P op t _ _ _ _
        | (cases op <;> first | rfl | (simp only [binF, bStr, strF, sEql, sNeq, eqB_eq]; rfl)))

theorem eqGuard_plain (op : BinOp) (t : TypeId) (ox oy : Operand) (a b : Value) (h1 : ¬ (a = .nilIface ∧ b = .nilIface)) (h2 : ∀ x, a ≠ .agg x) : (eqGuard op t ox oy a b).run P w = .ok () w := by
  cases op <;> first
    | rfl
    | (cases a <;> first
        | rfl
        | (cases b <;> first | rfl | exact absurd ⟨rfl, rfl⟩ h1 | exact absurd rfl (h2 _)))

theorem run_arith {t : TypeId} {op : BinOp} {kk : IntKind} {a b : Int} {r : AV} (hop : op ≠ .shl ∧ op ≠ .shr) (h : arithA op kk a b = some r) : ∃ u, (binOp op t (.int kk a) (.int kk b)).run P w = .ok u w ∧ VRel k r u := by
  unfold arithA at h
  split at h <;> first
    | (injection h with h; subst h; first | exact ⟨_, by simp only [binOp, ne_eq, not_true_eq_false, if_false]; rfl, .int _ _⟩ | exact ⟨_, by simp only [binOp, ne_eq, not_true_eq_false, if_false]; rfl, .bool _⟩)
    | (split at h
       · cases h
       · rename_i hb
         injection h with h; subst h
         exact ⟨_, by simp [binOp, Op.intDiv, hb], .int _ _⟩)
    | cases h

theorem eqIn_ptr (d : Nat) {t e : TypeId} (p : Option Addr) (h : P.underlying t = some (.pointer e)) : (Op.equalIn (d + 1) t (.pointer p) (.pointer none)).run P w = .ok p.isNone w := by cases p <;> simp [Op.equalIn, run_underlying h]
theorem eqIn_slice (d : Nat) {t e : TypeId} (p : Option Addr) (n c : Nat) (h : P.underlying t = some (.slice e)) : (Op.equalIn (d + 1) t (.slice p n c) (.slice none 0 0)).run P w = .ok p.isNone w := by cases p <;> simp [Op.equalIn, run_underlying h]
theorem eqIn_map (d : Nat) {t e e' : TypeId} (p : Option Nat) (h : P.underlying t = some (.map e e')) : (Op.equalIn (d + 1) t (.map p) (.map none)).run P w = .ok p.isNone w := by cases p <;> simp [Op.equalIn, run_underlying h]
theorem eqIn_nilf (d : Nat) {t : TypeId} {a b : Array TypeId} {c : Bool} (h : P.underlying t = some (.func a b c)) : (Op.equalIn (d + 1) t .nilFunc .nilFunc).run P w = .ok true w := by simp [Op.equalIn, run_underlying h]
theorem eqIn_fn (d : Nat) {t : TypeId} {a b : Array TypeId} {c : Bool} (f : Fn) (us vs : Array Value) (h : P.underlying t = some (.func a b c)) : (Op.equalIn (d + 1) t (.func f us vs) .nilFunc).run P w = .ok false w := by simp [Op.equalIn, run_underlying h]

theorem bin_ok (hR : Rel k σ w) {op : BinOp} {t : TypeId} {ox oy : Operand} {x y r : AV} {ux uy : Value} (hx : VRel k x ux) (hy : VRel k y uy) (h : binA P op t x y = some r) :
    Ok P k σ w (do eqGuard op t ox oy ux uy; binOp op t ux uy) (r, σ) := by
  have fin : ∀ {u : Value}, (¬ (ux = .nilIface ∧ uy = .nilIface)) → (∀ z, ux ≠ .agg z) → (binOp op t ux uy).run P w = .ok u w → VRel k r u → Ok P k σ w (do eqGuard op t ox oy ux uy; binOp op t ux uy) (r, σ) :=
    fun h1 h2 h3 h4 => Ok.same hR (by simp [eqGuard_plain op t ox oy ux uy h1 h2, h3]) h4
  have tk : ∀ {B : List Fact} {kk : IntKind} {x1 y1 : IV}, Valid k.val B → tokA B op kk x1 y1 B = some r → ux = .int kk (x1.val k.val) → uy = .int kk (y1.val k.val) → Ok P k σ w (do eqGuard op t ox oy ux uy; binOp op t ux uy) (r, σ) := by
    intro B kk x1 y1 hB ht hux huy
    obtain ⟨f, hf, rfl, rfl, rfl, rfl, hr⟩ := tokA_some ht
    have ha := hB f hf
    have hop : f.op ≠ .shl ∧ f.op ≠ .shr := ⟨fun he => (by rw [he] at ha; cases ha), fun he => (by rw [he] at ha; cases ha)⟩
    subst hux; subst huy
    obtain ⟨u, hu, hru⟩ := run_arith (P := P) (w := w) (t := t) (k := k) hop ha
    refine fin (by simp) (by simp) hu ?_
    rcases hr with ⟨b, h1, rfl⟩ | ⟨j, h1, rfl⟩ | ⟨j, h1, rfl⟩
    · rw [h1] at hru; exact hru
    · rw [h1] at hru; cases hru; exact .tok _ _ _ hB
    · rw [h1] at hru; exact hru
  have tx : ∀ {E : List (Nat × Option Nat × Bool)} {j : Nat} {b : Option Nat} {s s' : ByteArray}, ValidT k.val.p E → k.val.p j = .str s → tv1 k.val.p b = .str s' → eqR op (textA j b E) = some r → ux = .string s → uy = .string s' → Ok P k σ w (do eqGuard op t ox oy ux uy; binOp op t ux uy) (r, σ) := by
    intro E j b s s' hE hp hp' h hux huy
    subst hux; subst huy
    have key : ∀ z, textA j b E = some z → (s.data.toList == s'.data.toList) = z := by
      intro z hz
      have := hE _ (textA_mem hz)
      simp only [hp, hp', PV.str.injEq] at this
      cases z with
      | true => rw [this.1 rfl]; exact beq_self_eq_true _
      | false =>
        refine beq_eq_false_iff_ne.2 fun he => ?_
        have := this.2 (by apply ByteArray.ext; exact Array.ext' he)
        cases this
    cases hz : textA j b E with
    | none => rw [hz] at h; cases op <;> cases h
    | some z =>
      rw [hz] at h
      have hk := key z hz
      subst hk
      cases op <;> first
        | (cases h; done)
        | (injection h with h; subst h; exact fin (by simp) (by simp) (u := .bool (s.data.toList == s'.data.toList)) (by simp [binOp, Op.stringOp, ByteArray.toList_eq]) (.bool _))
        | (injection h with h; subst h; exact fin (by simp) (by simp) (u := .bool (!(s.data.toList == s'.data.toList))) (by simp [binOp, Op.stringOp, ByteArray.toList_eq]) (.bool _))
  unfold binA at h
  split at h
  · split at h
    · rename_i hk; subst hk; cases hx with | tok _ _ _ hB => cases hy; exact tk hB h rfl rfl
    · cases h
  · split at h
    · rename_i hk; subst hk; cases hy with | tok _ _ _ hB => cases hx; exact tk hB h rfl rfl
    · cases h
  · split at h
    · rename_i hk; subst hk; cases hx with | tok _ _ _ hB => cases hy; exact tk hB h rfl rfl
    · cases h
  · rename_i kk a kk' b
    cases hx; cases hy
    split at h
    · unfold shiftA at h
      split at h
      · cases h
      · rename_i hb
        simp at h; subst h
        exact fin (by simp) (by simp) (u := .int kk _) (by simp [binOp, Op.shift, hb]) (.int _ _)
    · unfold shiftA at h
      split at h
      · cases h
      · rename_i hb
        simp at h; subst h
        exact fin (by simp) (by simp) (u := .int kk _) (by simp [binOp, Op.shift, hb]) (.int _ _)
    · rename_i h1 h2
      split at h
      · rename_i hk
        subst hk
        obtain ⟨u, hu, hr⟩ := run_arith (P := P) (w := w) (t := t) (k := k) ⟨fun h => h1 h, fun h => h2 h⟩ h
        exact fin (by simp) (by simp) hu hr
      · cases h
  · rename_i a b
    cases hx; cases hy
    unfold strA at h
    split at h
    · split at h
      · rename_i hc
        injection h with h; subst h
        unfold capBytes at hc
        have : ¬ (9223372036854775807 < (a.size : Int) + (b.size : Int)) := by omega
        exact fin (by simp) (by simp) (u := .string (a ++ b)) (by simp [binOp, Op.stringOp, this]) (by rw [cat_eq]; exact .str _)
      · cases h
    all_goals first
      | (injection h with h; subst h; exact fin (by simp) (by simp) (u := .bool _) (by simp [binOp, Op.stringOp, ByteArray.toList_eq]) (.bool _))
      | cases h
  · rename_i E B j l E' B' j' l'
    cases hx with
    | stk _ _ _ _ s hp hE hB hl =>
    cases hy with
    | stk _ _ _ _ s' hp' hE' hB' hl' =>
    refine tx (E := E) (j := j) (b := some j') hE hp ?_ h rfl rfl
    exact hp'
  · rename_i E B j l s2
    split at h
    · rename_i h0
      cases hx with
      | stk _ _ _ _ s hp hE hB hl =>
      cases hy
      have := isE0_eq h0
      subst this
      exact tx (E := E) (j := j) (b := none) hE hp rfl h rfl rfl
    · cases h
  · rename_i a b
    cases hx; cases hy
    split at h
    · rename_i hu
      split at h
      · injection h with h; subst h
        exact fin (by simp) (by simp) (run_eql_bool w t a b hu) (.bool _)
      · injection h with h; subst h
        exact fin (by simp) (by simp) (run_neq_bool w t a b hu) (.bool _)
      · cases h
    · cases h
  · rename_i n1 n2 n3 n4 n5 n6 n7 n8
    clear n1 n2 n3 n4 n5 n6 n7 n8
    split at h
    · rename_i hc
      simp only [Bool.and_eq_true] at hc
      obtain ⟨hn, hs⟩ := hc
      have hop : (op = .eql ∧ ∃ b, isNil x = some b ∧ r = .bool b) ∨ (op = .neq ∧ ∃ b, isNil x = some b ∧ r = .bool (!b)) := by
        split at h
        · rename_i b hb; injection h with h; exact .inl ⟨rfl, b, hb, h.symm⟩
        · rename_i b hb; injection h with h; exact .inr ⟨rfl, b, hb, h.symm⟩
        · cases h
      clear h
      have core : ∀ b, isNil x = some b → (Op.equal t ux uy).run P w = .ok b w ∧ (¬ (ux = .nilIface ∧ uy = .nilIface)) ∧ (∀ z, ux ≠ .agg z) ∧ (∀ o, o = BinOp.eql ∨ o = BinOp.neq → binOp o t ux uy = (if o = .eql then (do pure (.bool (← Op.equal t ux uy))) else (do pure (.bool (!(← Op.equal t ux uy)))))) := by
        intro b hb
        unfold nilOf at hn
        split at hn
        · rename_i e hu
          cases hy
          unfold shapeOf at hs
          rw [hu] at hs
          cases hx with
          | nilp => simp [isNil] at hb; subst hb; exact ⟨eqIn_ptr 9999 none hu, by simp, by simp, fun o ho => by rcases ho with rfl | rfl <;> rfl⟩
          | ptr => simp [isNil] at hb; subst hb; exact ⟨eqIn_ptr 9999 (some _) hu, by simp, by simp, fun o ho => by rcases ho with rfl | rfl <;> rfl⟩
          | rptr => simp [isNil] at hb; subst hb; exact ⟨eqIn_ptr 9999 (some _) hu, by simp, by simp, fun o ho => by rcases ho with rfl | rfl <;> rfl⟩
          | _ => simp at hs
        · rename_i e hu
          cases hy
          unfold shapeOf at hs
          rw [hu] at hs
          cases hx with
          | ro _ _ _ hp => cases hp; simp [isNil] at hb; subst hb; exact ⟨eqIn_slice 9999 (some _) _ _ hu, by simp, by simp, fun o ho => by rcases ho with rfl | rfl <;> rfl⟩
          | nils => simp [isNil] at hb; subst hb; exact ⟨eqIn_slice 9999 none _ _ hu, by simp, by simp, fun o ho => by rcases ho with rfl | rfl <;> rfl⟩
          | emp a => simp [isNil] at hb; subst hb; exact ⟨eqIn_slice 9999 (some _) _ _ hu, by simp, by simp, fun o ho => by rcases ho with rfl | rfl <;> rfl⟩
          | sl => simp [isNil] at hb; subst hb; exact ⟨eqIn_slice 9999 (some _) _ _ hu, by simp, by simp, fun o ho => by rcases ho with rfl | rfl <;> rfl⟩
          | _ => simp at hs
        · rename_i a b' hu
          cases hy
          unfold shapeOf at hs
          rw [hu] at hs
          cases hx with
          | nilm => simp [isNil] at hb; subst hb; exact ⟨eqIn_map 9999 none hu, by simp, by simp, fun o ho => by rcases ho with rfl | rfl <;> rfl⟩
          | _ => simp at hs
        · rename_i a b' c hu
          cases hy
          unfold shapeOf at hs
          rw [hu] at hs
          cases hx with
          | nilf => simp [isNil] at hb; subst hb; exact ⟨eqIn_nilf 9999 hu, by simp, by simp, fun o ho => by rcases ho with rfl | rfl <;> rfl⟩
          | fn => simp [isNil] at hb; subst hb; exact ⟨eqIn_fn 9999 _ _ _ hu, by simp, by simp, fun o ho => by rcases ho with rfl | rfl <;> rfl⟩
          | _ => simp at hs
        · cases hn
      rcases hop with ⟨rfl, b, hb, rfl⟩ | ⟨rfl, b, hb, rfl⟩
      · obtain ⟨h1, h2, h3, h4⟩ := core b hb
        exact fin h2 h3 (u := .bool b) (by rw [h4 _ (.inl rfl)]; simp [h1]) (.bool _)
      · obtain ⟨h1, h2, h3, h4⟩ := core b hb
        exact fin h2 h3 (u := .bool (!b)) (by rw [h4 _ (.inr rfl)]; simp [h1]) (.bool _)
    · cases h

/-! ### An interface value against nil -/
def isK : Operand → Bool
  | .const _ => true
  | _ => false
def ifcNil (P : Program) (op : BinOp) (t : TypeId) (x : AV) : Option AV :=
  match P.underlying t with
  | some (.interface _) => match x with
    | .nili => match op with
      | .eql => some (.bool true)
      | .neq => some (.bool false)
      | _ => none
    | .ifc _ _ => match op with
      | .eql => some (.bool false)
      | .neq => some (.bool true)
      | _ => none
    | _ => none
  | _ => none
def binC (P : Program) (op : BinOp) (t : TypeId) (oy : Operand) (x y : AV) : Option AV :=
  match y with
  | .nili => if isK oy then ifcNil P op t x else none
  | y => binA P op t x y
noncomputable def binCF (P : Program) (op : BinOp) (t : TypeId) (oy : Operand) (x y : AV) : Option AV :=
  match y with
  | .nili => if isK oy then ifcNil P op t x else none
  | y => binF P op t x y
theorem binCF_eq (P : Program) (op : BinOp) (t : TypeId) (oy : Operand) (x y : AV) : binCF P op t oy x y = binC P op t oy x y := by
  unfold binCF binC
  split
  · rfl
  · exact binF_eq P op t x _
theorem eqIn_nili (d : Nat) {t : TypeId} {ms : Array (String × TypeId)} (h : P.underlying t = some (.interface ms)) : (Op.equalIn (d + 1) t .nilIface .nilIface).run P w = .ok true w := by simp [Op.equalIn, run_underlying h]
theorem eqIn_ifc (d : Nat) {t u : TypeId} {v : Value} {ms : Array (String × TypeId)} (h : P.underlying t = some (.interface ms)) : (Op.equalIn (d + 1) t (.iface u v) .nilIface).run P w = .ok false w := by simp [Op.equalIn, run_underlying h]
theorem binC_ok (hR : Rel k σ w) {op : BinOp} {t : TypeId} {ox oy : Operand} {x y r : AV} {ux uy : Value} (hx : VRel k x ux) (hy : VRel k y uy) (h : binC P op t oy x y = some r) :
    Ok P k σ w (do eqGuard op t ox oy ux uy; binOp op t ux uy) (r, σ) := by
  unfold binC at h
  split at h
  · split at h
    · rename_i hk
      cases hy
      unfold ifcNil at h
      split at h
      · rename_i ms hu
        have hc : ∃ c, oy = .const c := by cases oy <;> first | exact ⟨_, rfl⟩ | cases hk
        obtain ⟨c, rfl⟩ := hc
        have two : ∀ {b : Bool}, (Op.equal t ux .nilIface).run P w = .ok b w → (∀ o, (eqGuard o t ox (.const c) ux .nilIface).run P w = .ok () w) → (∀ o, o = BinOp.eql ∨ o = BinOp.neq → binOp o t ux .nilIface = (if o = .eql then (do pure (.bool (← Op.equal t ux .nilIface))) else (do pure (.bool (!(← Op.equal t ux .nilIface)))))) →
            (op = .eql ∧ r = .bool b) ∨ (op = .neq ∧ r = .bool (!b)) → Ok P k σ w (do eqGuard op t ox (.const c) ux .nilIface; binOp op t ux .nilIface) (r, σ) := by
          intro b h1 h2 h3 h4
          rcases h4 with ⟨rfl, rfl⟩ | ⟨rfl, rfl⟩
          · exact Ok.same hR (v := .bool b) (by simp only [Sem.run_bind, h2, Result.andThen_ok]; rw [h3 _ (.inl rfl)]; simp [h1]) (.bool _)
          · exact Ok.same hR (v := .bool (!b)) (by simp only [Sem.run_bind, h2, Result.andThen_ok]; rw [h3 _ (.inr rfl)]; simp [h1]) (.bool _)
        split at h
        · cases hx
          refine two (eqIn_nili 9999 hu) (fun o => by cases o <;> first | rfl | (cases ox <;> rfl)) (fun o ho => by rcases ho with rfl | rfl <;> rfl) ?_
          split at h
          · injection h with h; exact .inl ⟨rfl, h.symm⟩
          · injection h with h; exact .inr ⟨rfl, h.symm⟩
          · cases h
        · cases hx
          refine two (eqIn_ifc 9999 hu) (fun o => by cases o <;> rfl) (fun o ho => by rcases ho with rfl | rfl <;> rfl) ?_
          split at h
          · injection h with h; exact .inl ⟨rfl, h.symm⟩
          · injection h with h; exact .inr ⟨rfl, h.symm⟩
          · cases h
        · cases h
      · cases h
    · cases h
  · exact bin_ok hR hx hy h

/-! ### One operand -/
def unA (op : UnOp) (x : AV) : Option AV :=
  match op, x with
  | .neg, .int k n => some (.int k (k.wrap (0 - n)))
  | .not, .bool b => some (.bool !b)
  | _, _ => none
theorem un_ok (hR : Rel k σ w) {op : UnOp} {x r : AV} {u : Value} (hx : VRel k x u) (h : unA op x = some r) : Ok P k σ w (Op.unary op u) (r, σ) := by
  unfold unA at h
  split at h
  · injection h with h; subst h; cases hx
    exact Ok.same hR (by simp [Op.unary, Op.intArith]) (.int _ _)
  · injection h with h; subst h; cases hx
    exact Ok.same hR (by simp [Op.unary]) (.bool _)
  · cases h

def ivA : AV → Option (IntKind × IV)
  | .int k n => some (k, .lit n)
  | .tok _ k j => some (k, .tok j)
  | _ => none
theorem ivA_spec {x : AV} {u : Value} {kk : IntKind} {a : IV} (hx : VRel k x u) (h : ivA x = some (kk, a)) : u = .int kk (a.val k.val) := by
  unfold ivA at h
  split at h
  · injection h with h; injection h with h1 h2; subst h1; subst h2; cases hx; rfl
  · injection h with h; injection h with h1 h2; subst h1; subst h2; cases hx; rfl
  · cases h
/-- The lesser, or the greater, of numbers that are told by names. -/
def mmT (lo : Bool) (B : List Fact) (x y : AV) : Option AV :=
  match ivA x, ivA y with
  | some (k, a), some (k', b) => if k = k' then (match tokA B (if lo then .lss else .gtr) k b a B with
    | some (.bool true) => some y
    | some (.bool false) => some x
    | _ => none) else none
  | _, _ => none
def mmA (lo : Bool) (x y : AV) : Option AV :=
  match x, y with
  | .int k a, .int _ b => some (.int k (if lo then (if b < a then b else a) else (if b > a then b else a)))
  | .tok B k i, y => mmT lo B (.tok B k i) y
  | x, .tok B k i => mmT lo B x (.tok B k i)
  | _, _ => none
theorem mmT_spec {lo : Bool} {B : List Fact} {x y r : AV} {ux uy : Value} (hB : Valid k.val B) (hx : VRel k x ux) (hy : VRel k y uy) (h : mmT lo B x y = some r) : ∃ kk a b, ux = .int kk a ∧ uy = .int kk b ∧ VRel k r (.int kk (if lo then (if b < a then b else a) else (if b > a then b else a))) := by
  unfold mmT at h
  split at h
  · rename_i kk a kk' b ha hb
    split at h
    · rename_i hk
      subst hk
      have e1 := ivA_spec hx ha
      have e2 := ivA_spec hy hb
      refine ⟨kk, _, _, e1, e2, ?_⟩
      have key : ∀ t, tokA B (if lo then BinOp.lss else .gtr) kk b a B = some (.bool t) → (if lo then decide (b.val k.val < a.val k.val) else decide (b.val k.val > a.val k.val)) = t := by
        intro t ht
        obtain ⟨f, hf, h1, h2, h3, h4, hr⟩ := tokA_some ht
        have hv := hB f hf
        rw [h1, h2, h3, h4] at hv
        rcases hr with ⟨b', q1, q2⟩ | ⟨j, _, q2⟩ | ⟨j, _, q2⟩
        · injection q2 with q2; subst q2
          rw [q1] at hv
          cases lo with
          | true =>
            have hv' : some (AV.bool (decide (b.val k.val < a.val k.val))) = some (AV.bool t) := hv
            injection hv' with hv'; injection hv'
          | false =>
            have hv' : some (AV.bool (decide (b.val k.val > a.val k.val))) = some (AV.bool t) := hv
            injection hv' with hv'; injection hv'
        · cases q2
        · cases q2
      split at h
      · rename_i ht
        injection h with h; subst h
        have := key true ht
        cases lo with
        | true =>
          simp only [if_true, decide_eq_true_eq] at this ⊢
          rw [if_pos this, ← e2]; exact hy
        | false =>
          simp only [Bool.false_eq_true, if_false, decide_eq_true_eq] at this ⊢
          rw [if_pos this, ← e2]; exact hy
      · rename_i ht
        injection h with h; subst h
        have := key false ht
        cases lo with
        | true =>
          simp only [if_true, decide_eq_false_iff_not] at this ⊢
          rw [if_neg this, ← e1]; exact hx
        | false =>
          simp only [Bool.false_eq_true, if_false, decide_eq_false_iff_not] at this ⊢
          rw [if_neg this, ← e1]; exact hx
      · cases h
    · cases h
  · cases h
theorem mm_spec {lo : Bool} {x y r : AV} {ux uy : Value} (hx : VRel k x ux) (hy : VRel k y uy) (h : mmA lo x y = some r) : ∃ kk kk' a b, ux = .int kk a ∧ uy = .int kk' b ∧ VRel k r (.int kk (if lo then (if b < a then b else a) else (if b > a then b else a))) := by
  unfold mmA at h
  split at h
  · injection h with h; subst h; cases hx; cases hy
    exact ⟨_, _, _, _, rfl, rfl, .int _ _⟩
  · have hh := hx
    cases hh with
    | tok _ _ _ hB =>
      obtain ⟨kk, a, b, h1, h2, h3⟩ := mmT_spec hB hx hy h
      exact ⟨kk, kk, a, b, h1, h2, h3⟩
  · have hh := hy
    cases hh with
    | tok _ _ _ hB =>
      obtain ⟨kk, a, b, h1, h2, h3⟩ := mmT_spec hB hx hy h
      exact ⟨kk, kk, a, b, h1, h2, h3⟩
  · cases h
theorem min_ok (hR : Rel k σ w) {ts : Array TypeId} {t : TypeId} {x y r : AV} {ux uy : Value} (hx : VRel k x ux) (hy : VRel k y uy) (h : mmA true x y = some r) : Ok P k σ w (Builtin.min_ ts t #[ux, uy]) (r, σ) := by
  obtain ⟨kk, kk', a, b, rfl, rfl, hr⟩ := mm_spec hx hy h
  exact Ok.same hR (run_min_int2 w ts t _ _ _ _) hr
theorem max_ok (hR : Rel k σ w) {ts : Array TypeId} {t : TypeId} {x y r : AV} {ux uy : Value} (hx : VRel k x ux) (hy : VRel k y uy) (h : mmA false x y = some r) : Ok P k σ w (Builtin.max_ ts t #[ux, uy]) (r, σ) := by
  obtain ⟨kk, kk', a, b, rfl, rfl, hr⟩ := mm_spec hx hy h
  exact Ok.same hR (run_max_int2 w ts t _ _ _ _) hr

end
end Go.Dx
