/- Numbers, strings, comparisons, conversions. -/
import Derived.Test.YtnglipioaippoaaEyA
namespace Go.Dx
section
variable {P : Program} {k : Kn} {σ : Heap} {w : World}

/-! ### Two operands -/
def arithA (op : BinOp) (k : IntKind) (a b : Int) : Option AV :=
  match op with
  | .add => some (.int k (k.wrap (a + b)))
  | .sub => some (.int k (k.wrap (a - b)))
  | .mul => some (.int k (k.wrap (a * b)))
  | .quo => if b = 0 then none else some (.int k (k.wrap (a.tdiv b)))
  | .rem => if b = 0 then none else some (.int k (a.tmod b))
  | .and => some (.int k (k.wrap (BitVec.ofInt k.bits a &&& BitVec.ofInt k.bits b).toNat))
  | .or => some (.int k (k.wrap (BitVec.ofInt k.bits a ||| BitVec.ofInt k.bits b).toNat))
  | .xor => some (.int k (k.wrap (BitVec.ofInt k.bits a ^^^ BitVec.ofInt k.bits b).toNat))
  | .andNot => some (.int k (k.wrap (BitVec.ofInt k.bits a &&& ~~~ BitVec.ofInt k.bits b).toNat))
  | .eql => some (.bool (a == b))
  | .neq => some (.bool (a != b))
  | .lss => some (.bool (decide (a < b)))
  | .leq => some (.bool (decide (a ≤ b)))
  | .gtr => some (.bool (decide (a > b)))
  | .geq => some (.bool (decide (a ≥ b)))
  | _ => none
def shiftA (op : BinOp) (k : IntKind) (a b : Int) : Option AV :=
  if b < 0 then none else
  match op with
  | .shl => some (.int k (k.wrap (a * 2 ^ (min b.toNat k.bits))))
  | .shr => some (.int k (a.fdiv (2 ^ (min b.toNat k.bits))))
  | _ => none
def cat (a b : ByteArray) : ByteArray := ⟨(a.data.toList ++ b.data.toList).toArray⟩
theorem cat_eq (a b : ByteArray) : cat a b = a ++ b := by
  apply ByteArray.ext
  apply Array.ext'
  simp [cat, ByteArray.data_append]
def strA (op : BinOp) (a b : ByteArray) : Option AV :=
  match op with
  | .add => if a.size + b.size ≤ capBytes then some (.str (cat a b)) else none
  | .eql => some (.bool (a.data.toList == b.data.toList))
  | .neq => some (.bool (!(a.data.toList == b.data.toList)))
  | .lss => some (.bool (Op.bytesLess a.data.toList b.data.toList))
  | .leq => some (.bool (Op.bytesLess a.data.toList b.data.toList || a.data.toList == b.data.toList))
  | .gtr => some (.bool (!(Op.bytesLess a.data.toList b.data.toList || a.data.toList == b.data.toList)))
  | .geq => some (.bool (!(Op.bytesLess a.data.toList b.data.toList)))
  | _ => none

def isNil : AV → Option Bool
  | .nilp => some true
  | .ptr _ _ _ _ => some false
  | .rptr _ => some false
  | .nils => some true
  | .emp => some false
  | .sl _ _ _ _ => some false
  | .ro _ _ => some false
  | .nilm => some true
  | .nilf => some true
  | .fn _ _ _ => some false
  | _ => none
def nilOf (P : Program) (t : TypeId) (y : AV) : Bool :=
  match P.underlying t, y with
  | some (.pointer _), .nilp => true
  | some (.slice _), .nils => true
  | some (.map _ _), .nilm => true
  | some (.func _ _ _), .nilf => true
  | _, _ => false
def shapeOf (P : Program) (t : TypeId) (y : AV) : Bool :=
  match P.underlying t, y with
  | some (.pointer _), .nilp => true
  | some (.pointer _), .ptr _ _ _ _ => true
  | some (.pointer _), .rptr _ => true
  | some (.slice _), .nils => true
  | some (.slice _), .emp => true
  | some (.slice _), .sl _ _ _ _ => true
  | some (.slice _), .ro _ _ => true
  | some (.map _ _), .nilm => true
  | some (.func _ _ _), .nilf => true
  | some (.func _ _ _), .fn _ _ _ => true
  | _, _ => false

def binA (P : Program) (op : BinOp) (t : TypeId) (x y : AV) : Option AV :=
  match x, y with
  | .int k a, .int k' b =>
    match op with
    | .shl => shiftA .shl k a b
    | .shr => shiftA .shr k a b
    | _ => if k = k' then arithA op k a b else none
  | .str a, .str b => strA op a b
  | .bool a, .bool b =>
    match P.underlying t with
    | some .bool => match op with
      | .eql => some (.bool (a == b))
      | .neq => some (.bool (!(a == b)))
      | _ => none
    | _ => none
  | x, y =>
    if nilOf P t y && shapeOf P t x then
      match op, isNil x with
      | .eql, some b => some (.bool b)
      | .neq, some b => some (.bool (!b))
      | _, _ => none
    else none

theorem eqGuard_plain (op : BinOp) (t : TypeId) (ox oy : Operand) (a b : Value) (h1 : ¬ (a = .nilIface ∧ b = .nilIface)) (h2 : ∀ x, a ≠ .agg x) : (eqGuard op t ox oy a b).run P w = .ok () w := by
  cases op <;> first
    | rfl
    | (cases a <;> first
        | rfl
        | (cases b <;> first | rfl | exact absurd ⟨rfl, rfl⟩ h1 | exact absurd rfl (h2 _)))

theorem run_arith {t : TypeId} {op : BinOp} {kk : IntKind} {a b : Int} {r : AV} (hop : op ≠ .shl ∧ op ≠ .shr) (h : arithA op kk a b = some r) : ∃ u, (binOp op t (.int kk a) (.int kk b)).run P w = .ok u w ∧ VRel k r u := by
  unfold arithA at h
  split at h <;> first
    | (injection h with h; subst h; first | exact ⟨_, by simp only [binOp, ne_eq, not_true_eq_false, if_false]; rfl, .int _ _⟩ | exact ⟨_, by simp only [binOp, ne_eq, not_true_eq_false, if_false]; rfl, .bool _⟩)
    | (split at h
       · cases h
       · rename_i hb
         injection h with h; subst h
         exact ⟨_, by simp [binOp, Op.intDiv, hb], .int _ _⟩)
    | cases h

theorem eqIn_ptr (d : Nat) {t e : TypeId} (p : Option Addr) (h : P.underlying t = some (.pointer e)) : (Op.equalIn (d + 1) t (.pointer p) (.pointer none)).run P w = .ok p.isNone w := by cases p <;> simp [Op.equalIn, run_underlying h]
theorem eqIn_slice (d : Nat) {t e : TypeId} (p : Option Addr) (n c : Nat) (h : P.underlying t = some (.slice e)) : (Op.equalIn (d + 1) t (.slice p n c) (.slice none 0 0)).run P w = .ok p.isNone w := by cases p <;> simp [Op.equalIn, run_underlying h]
theorem eqIn_map (d : Nat) {t e e' : TypeId} (p : Option Nat) (h : P.underlying t = some (.map e e')) : (Op.equalIn (d + 1) t (.map p) (.map none)).run P w = .ok p.isNone w := by cases p <;> simp [Op.equalIn, run_underlying h]
theorem eqIn_nilf (d : Nat) {t : TypeId} {a b : Array TypeId} {c : Bool} (h : P.underlying t = some (.func a b c)) : (Op.equalIn (d + 1) t .nilFunc .nilFunc).run P w = .ok true w := by simp [Op.equalIn, run_underlying h]
theorem eqIn_fn (d : Nat) {t : TypeId} {a b : Array TypeId} {c : Bool} (f : Fn) (us vs : Array Value) (h : P.underlying t = some (.func a b c)) : (Op.equalIn (d + 1) t (.func f us vs) .nilFunc).run P w = .ok false w := by simp [Op.equalIn, run_underlying h]

theorem bin_ok (hR : Rel k σ w) {op : BinOp} {t : TypeId} {ox oy : Operand} {x y r : AV} {ux uy : Value} (hx : VRel k x ux) (hy : VRel k y uy) (h : binA P op t x y = some r) :
    Ok P k σ w (do eqGuard op t ox oy ux uy; binOp op t ux uy) (r, σ) := by
  have fin : ∀ {u : Value}, (¬ (ux = .nilIface ∧ uy = .nilIface)) → (∀ z, ux ≠ .agg z) → (binOp op t ux uy).run P w = .ok u w → VRel k r u → Ok P k σ w (do eqGuard op t ox oy ux uy; binOp op t ux uy) (r, σ) :=
    fun h1 h2 h3 h4 => Ok.same hR (by simp [eqGuard_plain op t ox oy ux uy h1 h2, h3]) h4
  unfold binA at h
  split at h
  · rename_i kk a kk' b
    cases hx; cases hy
    split at h
    · unfold shiftA at h
      split at h
      · cases h
      · rename_i hb
        simp at h; subst h
        exact fin (by simp) (by simp) (u := .int kk _) (by simp [binOp, Op.shift, hb]) (.int _ _)
    · unfold shiftA at h
      split at h
      · cases h
      · rename_i hb
        simp at h; subst h
        exact fin (by simp) (by simp) (u := .int kk _) (by simp [binOp, Op.shift, hb]) (.int _ _)
    · rename_i h1 h2
      split at h
      · rename_i hk
        subst hk
        obtain ⟨u, hu, hr⟩ := run_arith (P := P) (w := w) (t := t) (k := k) ⟨fun h => h1 h, fun h => h2 h⟩ h
        exact fin (by simp) (by simp) hu hr
      · cases h
  · rename_i a b
    cases hx; cases hy
    unfold strA at h
    split at h
    · split at h
      · rename_i hc
        injection h with h; subst h
        unfold capBytes at hc
        have : ¬ (9223372036854775807 < (a.size : Int) + (b.size : Int)) := by omega
        exact fin (by simp) (by simp) (u := .string (a ++ b)) (by simp [binOp, Op.stringOp, this]) (by rw [cat_eq]; exact .str _)
      · cases h
    all_goals first
      | (injection h with h; subst h; exact fin (by simp) (by simp) (u := .bool _) (by simp [binOp, Op.stringOp, ByteArray.toList_eq]) (.bool _))
      | cases h
  · rename_i a b
    cases hx; cases hy
    split at h
    · rename_i hu
      split at h
      · injection h with h; subst h
        exact fin (by simp) (by simp) (run_eql_bool w t a b hu) (.bool _)
      · injection h with h; subst h
        exact fin (by simp) (by simp) (run_neq_bool w t a b hu) (.bool _)
      · cases h
    · cases h
  · rename_i n1 n2 n3
    clear n1 n2 n3
    split at h
    · rename_i hc
      simp only [Bool.and_eq_true] at hc
      obtain ⟨hn, hs⟩ := hc
      have hop : (op = .eql ∧ ∃ b, isNil x = some b ∧ r = .bool b) ∨ (op = .neq ∧ ∃ b, isNil x = some b ∧ r = .bool (!b)) := by
        split at h
        · rename_i b hb; injection h with h; exact .inl ⟨rfl, b, hb, h.symm⟩
        · rename_i b hb; injection h with h; exact .inr ⟨rfl, b, hb, h.symm⟩
        · cases h
      clear h
      have core : ∀ b, isNil x = some b → (Op.equal t ux uy).run P w = .ok b w ∧ (¬ (ux = .nilIface ∧ uy = .nilIface)) ∧ (∀ z, ux ≠ .agg z) ∧ (∀ o, o = BinOp.eql ∨ o = BinOp.neq → binOp o t ux uy = (if o = .eql then (do pure (.bool (← Op.equal t ux uy))) else (do pure (.bool (!(← Op.equal t ux uy)))))) := by
        intro b hb
        unfold nilOf at hn
        split at hn
        · rename_i e hu
          cases hy
          unfold shapeOf at hs
          rw [hu] at hs
          cases hx with
          | nilp => simp [isNil] at hb; subst hb; exact ⟨eqIn_ptr 9999 none hu, by simp, by simp, fun o ho => by rcases ho with rfl | rfl <;> rfl⟩
          | ptr => simp [isNil] at hb; subst hb; exact ⟨eqIn_ptr 9999 (some _) hu, by simp, by simp, fun o ho => by rcases ho with rfl | rfl <;> rfl⟩
          | rptr => simp [isNil] at hb; subst hb; exact ⟨eqIn_ptr 9999 (some _) hu, by simp, by simp, fun o ho => by rcases ho with rfl | rfl <;> rfl⟩
          | _ => simp at hs
        · rename_i e hu
          cases hy
          unfold shapeOf at hs
          rw [hu] at hs
          cases hx with
          | ro _ _ _ hp => cases hp; simp [isNil] at hb; subst hb; exact ⟨eqIn_slice 9999 (some _) _ _ hu, by simp, by simp, fun o ho => by rcases ho with rfl | rfl <;> rfl⟩
          | nils => simp [isNil] at hb; subst hb; exact ⟨eqIn_slice 9999 none _ _ hu, by simp, by simp, fun o ho => by rcases ho with rfl | rfl <;> rfl⟩
          | emp a => simp [isNil] at hb; subst hb; exact ⟨eqIn_slice 9999 (some _) _ _ hu, by simp, by simp, fun o ho => by rcases ho with rfl | rfl <;> rfl⟩
          | sl => simp [isNil] at hb; subst hb; exact ⟨eqIn_slice 9999 (some _) _ _ hu, by simp, by simp, fun o ho => by rcases ho with rfl | rfl <;> rfl⟩
          | _ => simp at hs
        · rename_i a b' hu
          cases hy
          unfold shapeOf at hs
          rw [hu] at hs
          cases hx with
          | nilm => simp [isNil] at hb; subst hb; exact ⟨eqIn_map 9999 none hu, by simp, by simp, fun o ho => by rcases ho with rfl | rfl <;> rfl⟩
          | _ => simp at hs
        · rename_i a b' c hu
          cases hy
          unfold shapeOf at hs
          rw [hu] at hs
          cases hx with
          | nilf => simp [isNil] at hb; subst hb; exact ⟨eqIn_nilf 9999 hu, by simp, by simp, fun o ho => by rcases ho with rfl | rfl <;> rfl⟩
          | fn => simp [isNil] at hb; subst hb; exact ⟨eqIn_fn 9999 _ _ _ hu, by simp, by simp, fun o ho => by rcases ho with rfl | rfl <;> rfl⟩
          | _ => simp at hs
        · cases hn
      rcases hop with ⟨rfl, b, hb, rfl⟩ | ⟨rfl, b, hb, rfl⟩
      · obtain ⟨h1, h2, h3, h4⟩ := core b hb
        exact fin h2 h3 (u := .bool b) (by rw [h4 _ (.inl rfl)]; simp [h1]) (.bool _)
      · obtain ⟨h1, h2, h3, h4⟩ := core b hb
        exact fin h2 h3 (u := .bool (!b)) (by rw [h4 _ (.inr rfl)]; simp [h1]) (.bool _)
    · cases h

/-! ### One operand -/
def unA (op : UnOp) (x : AV) : Option AV :=
  match op, x with
  | .neg, .int k n => some (.int k (k.wrap (0 - n)))
  | .not, .bool b => some (.bool !b)
  | _, _ => none
theorem un_ok (hR : Rel k σ w) {op : UnOp} {x r : AV} {u : Value} (hx : VRel k x u) (h : unA op x = some r) : Ok P k σ w (Op.unary op u) (r, σ) := by
  unfold unA at h
  split at h
  · injection h with h; subst h; cases hx
    exact Ok.same hR (by simp [Op.unary, Op.intArith]) (.int _ _)
  · injection h with h; subst h; cases hx
    exact Ok.same hR (by simp [Op.unary]) (.bool _)
  · cases h

def mmA (lo : Bool) (x y : AV) : Option AV :=
  match x, y with
  | .int k a, .int _ b => some (.int k (if lo then (if b < a then b else a) else (if b > a then b else a)))
  | _, _ => none
theorem min_ok (hR : Rel k σ w) {ts : Array TypeId} {t : TypeId} {x y r : AV} {ux uy : Value} (hx : VRel k x ux) (hy : VRel k y uy) (h : mmA true x y = some r) : Ok P k σ w (Builtin.min_ ts t #[ux, uy]) (r, σ) := by
  unfold mmA at h
  split at h
  · injection h with h; subst h; cases hx; cases hy
    exact Ok.same hR (run_min_int2 w ts t _ _ _ _) (.int _ _)
  · cases h
theorem max_ok (hR : Rel k σ w) {ts : Array TypeId} {t : TypeId} {x y r : AV} {ux uy : Value} (hx : VRel k x ux) (hy : VRel k y uy) (h : mmA false x y = some r) : Ok P k σ w (Builtin.max_ ts t #[ux, uy]) (r, σ) := by
  unfold mmA at h
  split at h
  · injection h with h; subst h; cases hx; cases hy
    exact Ok.same hR (run_max_int2 w ts t _ _ _ _) (.int _ _)
  · cases h

end
end Go.Dx
