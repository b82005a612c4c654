/- The law on what a disk keeps, for all short inputs: up to its loop, the loop, behind it. -/
import Derived.Test.YtnglipioaippoaaDk5
import Derived.Test.YtnglipioaippoaaSz1
namespace Go.Proofs.Ytnglipioaippoaa.T.Disk
open Go.Dx Go.Proofs

/-- Bytes that are an argument. -/
structure ByP (p : PV) (es : List (List PV)) : Prop where
  hl : lenP p = some es.length
  he : elemsQ p = es
  hb : By es
theorem ByP.isB {p : PV} {es : List (List PV)} (h : ByP p es) (hl : es.length ≤ 1000000) : IsB p := by
  have h1 := h.hl
  have h2 := h.he
  cases p <;> simp [lenP] at h1
  · exact .inl rfl
  · exact .inr (.inl rfl)
  · rename_i f es'
    have : es' = es := h2
    subst this
    exact .inr (.inr ⟨f, es', rfl, fun e he => by obtain ⟨n, rfl⟩ := h.hb e he; rfl, fun e he q hq => by obtain ⟨n, rfl⟩ := h.hb e he; exact ⟨.u8, n, by simpa using hq⟩, hl⟩)
theorem ByP.clone {p : PV} {es : List (List PV)} (h : ByP p es) : ByP (cloneP p) es := by
  have h1 := h.hl
  have h2 := h.he
  cases p <;> simp [lenP] at h1
  · exact h
  · exact h
  · rename_i f es'
    have : es' = es := h2
    subst this
    cases es' with
    | nil => exact ⟨rfl, rfl, h.hb⟩
    | cons e r => exact ⟨rfl, rfl, h.hb⟩
/-- A beginning. -/
theorem ByP.take {p : PV} {es : List (List PV)} (h : ByP p es) {m : Nat} (hm : m ≤ es.length) : ∃ q, takeP p m = some q ∧ ByP q (es.take m) := by
  have h1 := h.hl
  have h2 := h.he
  have hb' : By (es.take m) := fun e he => h.hb e (List.mem_of_mem_take he)
  cases p <;> simp [lenP] at h1
  · have : m = 0 := by omega
    subst this
    have : es = [] := List.eq_nil_of_length_eq_zero (by omega)
    subst this
    exact ⟨.nils, rfl, rfl, rfl, h.hb⟩
  · have : m = 0 := by omega
    subst this
    have : es = [] := List.eq_nil_of_length_eq_zero (by omega)
    subst this
    exact ⟨.emp, rfl, rfl, rfl, h.hb⟩
  · rename_i f es'
    have : es' = es := h2
    subst this
    exact ⟨.ro (f && m == es'.length) (es'.take m), if_pos ⟨hm, fun e he => by obtain ⟨n, rfl⟩ := h.hb e he; rfl⟩, by simp [lenP], rfl, hb'⟩
/-- What is to be kept. -/
structure KeP (p : PV) (ks : List (List PV)) : Prop where
  hl : lenP p = some ks.length
  he : elemsQ p = ks
  hb : ∀ e ∈ ks, ∃ b, e = [PV.bool b]

theorem wrap_in (n : Int) (h : -9223372036854775808 ≤ n ∧ n ≤ 9223372036854775807) : IntKind.wrap .i64 n = n := by
  have hb : (2 : Int) ^ IntKind.bits .i64 = 18446744073709551616 := rfl
  have hb1 : (2 : Int) ^ (IntKind.bits .i64 - 1) = 9223372036854775808 := rfl
  have hs : IntKind.signed .i64 = true := rfl
  unfold IntKind.wrap
  simp only [hb, hb1, hs, Bool.true_and, decide_eq_true_eq, ge_iff_le]
  split <;> omega
theorem all2_of {α β : Type} {R : α → β → Prop} : ∀ {l : List α} {m : List β}, l.length = m.length → (∀ (j : Nat) (y : β), m[j]? = some y → ∃ x, l[j]? = some x ∧ R x y) → All2 R l m
  | [], [], _, _ => .nil
  | [], _ :: _, h, _ => by simp at h
  | _ :: _, [], h, _ => by simp at h
  | a :: l, b :: m, h, hj => by
    obtain ⟨x, hx, hr⟩ := hj 0 b rfl
    simp at hx; subst hx
    exact .cons hr (all2_of (by simpa using h) fun j y hy => by obtain ⟨x, hx, hr⟩ := hj (j + 1) y (by simpa using hy); exact ⟨x, by simpa using hx, hr⟩)

/-- What the names mean. -/
def nmD (la lb : Nat) (at' to part : Int) (lk : Nat) (r1 : Int) (x : Nat) (r2 : Int) (y : Nat) (i k : Int) (c d e : Int) (mm : Nat) (a b ke m all : PV) : Nm :=
  nm [la, lb, at', to, part, lk, 64 - la, r1, r1 + (64 - la), x, 64 - lb, r2, r2 + (64 - lb), y, i, i + 1, x + i, k, c, d, e, 64, mm, 64 - x, 64 - y] [a, b, ke, cloneP a, cloneP b, m, all]
/-- The place that 'Mod' gives. -/
structure Place (n : Nat) (at' r : Int) (x : Nat) : Prop where
  h1 : at'.tmod (64 - n) = r
  h2 : (r + (64 - n)).tmod (64 - n) = x
  h3 : x + n ≤ 63
  h4 : -64 ≤ r ∧ r ≤ 64
theorem place (n : Nat) (hn : n ≤ 30) (at' : Int) : ∃ r x, Place n at' r x := by
  have hp : (0 : Int) < 64 - n := by omega
  have a1 := Int.tmod_lt_of_pos at' hp
  have a2 := Int.lt_tmod_of_pos at' hp
  have a3 := Int.tmod_lt_of_pos (at'.tmod (64 - n) + (64 - n)) hp
  have a4 := Int.tmod_nonneg (64 - (n : Int)) (show (0 : Int) ≤ at'.tmod (64 - n) + (64 - n) by omega)
  obtain ⟨x, hx⟩ := Int.eq_ofNat_of_zero_le a4
  exact ⟨_, x, rfl, hx, by omega, by omega, by omega⟩

section
variable {la lb lk : Nat} {at' to part r1 r2 : Int} {x y : Nat} {i k c d e : Int} {mm : Nat} {a b ke m all : PV}
theorem G0_ok (ha : la ≤ 30) (hb : lb ≤ 30) (hk : lk ≤ 200) (hx : Place la at' r1 x) (hy : Place lb to r2 y) : Valid (nmD la lb at' to part lk r1 x r2 y i k c d e mm a b ke m all) G0 := by
  obtain ⟨x1, x2, x3, x4⟩ := hx
  obtain ⟨y1, y2, y3, y4⟩ := hy
  intro f hf
  simp only [G0, List.mem_cons, List.not_mem_nil, or_false] at hf
  rcases hf with rfl | rfl | rfl | rfl | rfl | rfl | rfl | rfl | rfl | rfl | rfl | rfl | rfl | rfl | rfl | rfl | rfl | rfl | rfl | rfl | rfl
  · show some (AV.bool (decide ((lk : Int) > 200))) = some (AV.bool false)
    rw [decide_eq_false (by omega)]
  · show some (AV.int .i64 (IntKind.wrap .i64 (64 - (la : Int)))) = some (AV.int .i64 (64 - (la : Int)))
    rw [wrap_in _ (by omega)]
  · show some (AV.bool (decide (64 - (la : Int) < 1))) = some (AV.bool false)
    rw [decide_eq_false (by omega)]
  · show (if 64 - (la : Int) = 0 then none else some (AV.int .i64 (at'.tmod (64 - (la : Int))))) = some (AV.int .i64 r1)
    rw [if_neg (by omega), x1]
  · show some (AV.int .i64 (IntKind.wrap .i64 (r1 + (64 - (la : Int))))) = some (AV.int .i64 (r1 + (64 - (la : Int))))
    rw [wrap_in _ (by omega)]
  · show (if 64 - (la : Int) = 0 then none else some (AV.int .i64 ((r1 + (64 - (la : Int))).tmod (64 - (la : Int))))) = some (AV.int .i64 (x : Int))
    rw [if_neg (by omega), x2]
  · show some (AV.int .i64 (IntKind.wrap .i64 (64 - (lb : Int)))) = some (AV.int .i64 (64 - (lb : Int)))
    rw [wrap_in _ (by omega)]
  · show some (AV.bool (decide (64 - (lb : Int) < 1))) = some (AV.bool false)
    rw [decide_eq_false (by omega)]
  · show (if 64 - (lb : Int) = 0 then none else some (AV.int .i64 (to.tmod (64 - (lb : Int))))) = some (AV.int .i64 r2)
    rw [if_neg (by omega), y1]
  · show some (AV.int .i64 (IntKind.wrap .i64 (r2 + (64 - (lb : Int))))) = some (AV.int .i64 (r2 + (64 - (lb : Int))))
    rw [wrap_in _ (by omega)]
  · show (if 64 - (lb : Int) = 0 then none else some (AV.int .i64 ((r2 + (64 - (lb : Int))).tmod (64 - (lb : Int))))) = some (AV.int .i64 (y : Int))
    rw [if_neg (by omega), y2]
  · show some (AV.bool (decide ((x : Int) ≥ 0))) = some (AV.bool true)
    rw [decide_eq_true (by omega)]
  · show some (AV.bool (decide ((la : Int) ≥ 0))) = some (AV.bool true)
    rw [decide_eq_true (by omega)]
  · show some (AV.bool (decide ((x : Int) ≤ 64))) = some (AV.bool true)
    rw [decide_eq_true (by omega)]
  · show some (AV.int .i64 (IntKind.wrap .i64 (64 - (x : Int)))) = some (AV.int .i64 (64 - (x : Int)))
    rw [wrap_in _ (by omega)]
  · show some (AV.bool (decide ((la : Int) ≤ 64 - (x : Int)))) = some (AV.bool true)
    rw [decide_eq_true (by omega)]
  · show some (AV.bool (decide ((y : Int) ≥ 0))) = some (AV.bool true)
    rw [decide_eq_true (by omega)]
  · show some (AV.bool (decide ((lb : Int) ≥ 0))) = some (AV.bool true)
    rw [decide_eq_true (by omega)]
  · show some (AV.bool (decide ((y : Int) ≤ 64))) = some (AV.bool true)
    rw [decide_eq_true (by omega)]
  · show some (AV.int .i64 (IntKind.wrap .i64 (64 - (y : Int)))) = some (AV.int .i64 (64 - (y : Int)))
    rw [wrap_in _ (by omega)]
  · show some (AV.bool (decide ((lb : Int) ≤ 64 - (y : Int)))) = some (AV.bool true)
    rw [decide_eq_true (by omega)]
end
/-- The slots ahead, and behind. -/
def p6 (a b : PV) (at' to : Int) (ke : PV) (part : Int) : Env := [(0, up a), (1, up b), (2, .int .i64 at'), (3, .int .i64 to), (4, up ke), (5, .int .i64 part)]
def p8 (a b ke : PV) (part : Int) (x y : Nat) (q : AV) : Env := [(0, up a), (1, up b), (4, up ke), (5, .int .i64 part), (13, .ptr 2 0 0 0), (15, .int .i64 x), (16, .int .i64 y), (17, q)]
theorem bytes_one (es : List (List PV)) : (es.map (·.map up)).all (fun e => e.all one) = true := by
  rw [List.all_eq_true]; intro e he
  obtain ⟨e', _, rfl⟩ := List.mem_map.1 he
  rw [List.all_eq_true]; intro v hv
  obtain ⟨p, _, rfl⟩ := List.mem_map.1 hv
  exact one_up p
theorem refl_rows {R : AV → AV → Prop} (hR : ∀ p : PV, R (up p) (up p)) : ∀ es : List (List PV), All2 (All2 R) (es.map (·.map up)) (es.map (·.map up))
  | [] => .nil
  | e :: r => .cons (by
      induction e with
      | nil => exact .nil
      | cons p e ih => exact .cons (hR p) ih) (refl_rows hR r)
theorem bt_bytes {R : AV → AV → Prop} (hR : ∀ p : PV, R (up p) (up p)) (es : List (List PV)) {live : List (Nat × Nat)} {nx : Nat} : BT R (.row 5 1 (es.map (·.map up)) live nx) (.row 5 1 (es.map (·.map up)) live nx) := .row (refl_rows hR es) (bytes_one es)
theorem bt_d {R : AV → AV → Prop} (h1 : R (.sl 0 0 0 64) (.sl 0 0 0 64)) (h2 : R (.bool false) (.bool false)) (h3 : R (.int .i64 0) (.int .i64 0)) (h4 : R (.sl 1 0 0 64) (.sl 1 0 0 64)) (h5 : R .nils .nils) : BT R dRow dRow :=
  .row (.cons (.cons h1 (.cons h2 (.cons h2 (.cons h3 (.cons h4 (.cons h5 .nil)))))) .nil) rfl

/-- Up to the loop, in one of the cases. -/
theorem upTo {la lb lk : Nat} {at' to part r1 r2 : Int} {x y : Nat} {mm : Nat} {a b ke m q : PV} {ea eb em : List (List PV)} (ha : ByP a ea) (hb : ByP b eb) (hla : ea.length = la) (hlb : eb.length = lb) (ha30 : la ≤ 30) (hb30 : lb ≤ 30) (hlk : lenP ke = some lk) (hx : Place la at' r1 x) (hy : Place lb to r2 y)
    (hm : ByP m em) (hq : ByP q em) (hem : em.length ≤ lb) {B : List Fact} {T : List (Nat × IV × Nat × Nat)} {kc : List AV} (hB : Valid (nmD la lb at' to part lk r1 x r2 y 0 0 0 0 0 mm a b ke m m) B) (hT : ValidP (nmD la lb at' to part lk r1 x r2 y 0 0 0 0 0 mm a b ke m m) T)
    (hmm : mm = em.length) (hk : Up (nmD la lb at' to part lk r1 x r2 y 0 0 0 0 0 mm a b ke m m) (up ke) (.lsl B 2 5 (.lit 0) kc)) (run : (preR B T kc x y a b m).map seen = sees B kc x y a b q) :
    GoesL Try.prog i3.fn.ntmps [pc 3, pc 4, pc 5, pc 6, pc 7, pc 8, pc 9] (p6 a b at' to ke part) [] (p8 a b ke part x y (.ro false (LQ x y ea em))) (mem8 ((LQ x y ea em).map (·.map up)) ((LQ x y ea em).map (·.map up))) := by
  have hx3 := hx.h3
  have hy3 := hy.h3
  have hxl : x + ea.length ≤ 64 := by omega
  have hyl : y + eb.length ≤ 64 := by omega
  have hym : y + em.length ≤ 64 := by omega
  have eA : A2 x y a q = (LQ x y ea em).map (·.map up) := A2_eq ha.he hq.he hxl hym
  have eN : N3 x y a b q = (LQ x y ea em).map (·.map up) := N3_eq ha.he hb.he hq.he hxl hyl hym
  have eC : cut (N3 x y a b q) = (LQ x y ea em).map (·.map up) := by rw [eN, cut_all (LQ_len hxl hym)]
  obtain ⟨⟨X, ρ1, σ1⟩, h1, h2⟩ := Option.map_eq_some_iff.1 run
  simp only [seen, Prod.mk.injEq] at h2
  obtain ⟨rfl, rfl, s0, s1, s2, s7, slen⟩ := h2
  rw [eA] at s0
  rw [eN] at s1
  rw [eC] at s7
  generalize hv : nmD la lb at' to part lk r1 x r2 y 0 0 0 0 0 mm a b ke m m = v at hB hT hk
  have ua : Up v (up a) (.lsl B 0 0 (.lit 0) []) := by subst hv; exact Up.lst hB _ _ _ rfl ha.hl (by show (la : Int) = _; rw [hla])
  have ub : Up v (up b) (.lsl B 1 1 (.lit 0) []) := by subst hv; exact Up.lst hB _ _ _ rfl hb.hl (by show (lb : Int) = _; rw [hlb])
  have da : Down v (.lsl B 0 0 (.lit 0) []) (up a) := by subst hv; exact Down.lsl _ _ _ _ rfl
  have db : Down v (.lsl B 1 1 (.lit 0) []) (up b) := by subst hv; exact Down.lsl _ _ _ _ rfl
  have dk : Down v (.lsl B 2 5 (.lit 0) kc) (up ke) := by subst hv; exact Down.lsl _ _ _ _ rfl
  have dm : Down v (.lsl B 5 22 (.lit 0) []) (up m) := by subst hv; exact Down.lsl _ _ _ _ rfl
  have dcb : Down v (.lsq T B 4 1) (up (cloneP b)) := by subst hv; exact Down.lsq _ _ rfl
  have uca : Up v (up (cloneP a)) (.lsq T B 3 0) := by subst hv; exact Up.lsq hB hT _ _ rfl ha.clone.hl (by show (la : Int) = _; rw [hla])
  have ucb : Up v (up (cloneP b)) (.lsq T B 4 1) := by subst hv; exact Up.lsq hB hT _ _ rfl hb.clone.hl (by show (lb : Int) = _; rw [hlb])
  have t2 : Up v (.int .i64 at') (.tok B .i64 2) := by subst hv; exact Up.tok hB _ _ rfl
  have t3 : Up v (.int .i64 to) (.tok B .i64 3) := by subst hv; exact Up.tok hB _ _ rfl
  have t4 : Up v (.int .i64 part) (.tok B .i64 4) := by subst hv; exact Up.tok hB _ _ rfl
  have d4 : Down v (.tok B .i64 4) (.int .i64 part) := by subst hv; exact Down.tok _ _ rfl
  have d9 : Down v (.tok B .i64 9) (.int .i64 x) := by subst hv; exact Down.tok _ _ rfl
  have d13 : Down v (.tok B .i64 13) (.int .i64 y) := by subst hv; exact Down.tok _ _ rfl
  have oP := ovrPut_ok (v := v) (xs := [(.tok B .i64 9, 64, x), (.tok B .i64 13, 64, y)]) (ss := [(.lsl B 0 0 (.lit 0) [], a), (.lsl B 1 1 (.lit 0) [], b), (.lsq T B 4 1, cloneP b), (.lsl B 5 22 (.lit 0) [], m)])
    (fun e he => by
      simp only [List.mem_cons, List.not_mem_nil, or_false] at he
      rcases he with rfl | rfl
      · exact ⟨d9, by show x ≤ 64; omega⟩
      · exact ⟨d13, by show y ≤ 64; omega⟩)
    (fun e he => by
      simp only [List.mem_cons, List.not_mem_nil, or_false] at he
      rcases he with rfl | rfl | rfl | rfl
      · exact ⟨da, ha.isB (by omega)⟩
      · exact ⟨db, hb.isB (by omega)⟩
      · exact ⟨dcb, hb.clone.isB (by omega)⟩
      · exact ⟨dm, hm.isB (by omega)⟩)
  have oC := ovrClone_ok (v := v) (cl := [(.lsl B 0 0 (.lit 0) [], .lsq T B 3 0), (.lsl B 1 1 (.lit 0) [], .lsq T B 4 1)]) (fun e he => by
      simp only [List.mem_cons, List.not_mem_nil, or_false] at he
      rcases he with rfl | rfl
      · exact ⟨a, ha.isB (by omega), da, uca⟩
      · exact ⟨b, hb.isB (by omega), db, ucb⟩)
  have oo : ∀ f args σ r, ovr B T x y a b m f args σ = some r → CallOK (fun z => z = v) Try.prog f args σ r ∧ modesOf tab f = 0 := by
    intro f args σ r h
    unfold ovr at h
    split at h
    · obtain ⟨h1, h2⟩ := oP f args σ r h
      subst h2; exact ⟨h1, by kernel_rfl⟩
    · obtain ⟨h1, h2⟩ := oC f args σ r h
      subst h2; exact ⟨h1, by kernel_rfl⟩
  have hlen := LQ_len hxl hym
  have key := goesL_run tab_ok mixed (v := v) (M := []) (E := p6 a b at' to ke part) (E' := p8 a b ke part x y (.sl 7 0 0 64)) (M' := [bytes 1 ((LQ x y ea em).map (·.map up)) 64, bytes 1 ((LQ x y ea em).map (·.map up)) 64, dRow, .hole, .hole, .hole, .hole, resB ((LQ x y ea em).map (·.map up))])
    (fun f args σ r h => (oo f args σ r h).1) (fun f args σ r hm h => absurd (oo f args σ r h).2 hm) h1
    (.cons ⟨rfl, ua⟩ (.cons ⟨rfl, ub⟩ (.cons ⟨rfl, t2⟩ (.cons ⟨rfl, t3⟩ (.cons ⟨rfl, hk⟩ (.cons ⟨rfl, t4⟩ .nil)))))) .nil
    (.cons ⟨rfl, da⟩ (.cons ⟨rfl, db⟩ (.cons ⟨rfl, dk⟩ (.cons ⟨rfl, d4⟩ (.cons ⟨rfl, Down.same rfl⟩ (.cons ⟨rfl, d9⟩ (.cons ⟨rfl, d13⟩ (.cons ⟨rfl, Down.same rfl⟩ .nil))))))))
    (all2_of slen fun j z hz => by
      rcases j with _ | _ | _ | _ | _ | _ | _ | _ | j
      · simp at hz; subst hz; exact ⟨_, s0, .keep (bt_bytes (fun p => Down.same (noN_up p)) _)⟩
      · simp at hz; subst hz; exact ⟨_, s1, .keep (bt_bytes (fun p => Down.same (noN_up p)) _)⟩
      · simp at hz; subst hz; exact ⟨_, s2, .keep (bt_d (Down.same rfl) (Down.same rfl) (Down.same rfl) (Down.same rfl) (Down.same rfl))⟩
      · simp at hz; subst hz; exact ⟨_, List.getElem?_eq_getElem (by omega), .drop _⟩
      · simp at hz; subst hz; exact ⟨_, List.getElem?_eq_getElem (by omega), .drop _⟩
      · simp at hz; subst hz; exact ⟨_, List.getElem?_eq_getElem (by omega), .drop _⟩
      · simp at hz; subst hz; exact ⟨_, List.getElem?_eq_getElem (by omega), .drop _⟩
      · simp at hz; subst hz; exact ⟨_, s7, .keep (bt_bytes (fun p => Down.same (noN_up p)) _)⟩
      · simp at hz)
  have hone : ∀ e ∈ LQ x y ea em, e.length = 1 := fun e he => by obtain ⟨n, rfl⟩ := LQ_by ha.hb hm.hb e he; rfl
  refine GoesL.freeze (E' := p8 a b ke part x y (.ro false (LQ x y ea em))) key (id := 7) (ty := 5) (m := 64) (nx := 1) (es := LQ x y ea em) ?_ hlen hone (by omega) (by simp) ?_ (s0 := 17) rfl ?_
  · show some (resB ((LQ x y ea em).map (·.map up))) = _
    unfold resB
    rw [List.length_map, hlen]
  · simp only [List.set_cons_succ, List.set_cons_zero, List.all_cons, List.all_nil, Bool.and_true, Bool.and_eq_true]
    refine ⟨noIB_ups _, noIB_ups _, rfl, rfl, rfl, rfl, rfl, rfl⟩
  · intro s v hs
    have noup : ∀ p : PV, noI 7 (up p) = true := fun p => by cases p <;> rfl
    simp only [p8, Env.get_cons, Env.get_nil] at hs ⊢
    split at hs
    · rename_i h; injection hs with hs; subst hs; exact .inl ⟨by simp [h], noup _⟩
    · rename_i h0
      split at hs
      · rename_i h; injection hs with hs; subst hs; exact .inl ⟨by simp [h0, h], noup _⟩
      · rename_i h1
        split at hs
        · rename_i h; injection hs with hs; subst hs; exact .inl ⟨by simp [h0, h1, h], noup _⟩
        · rename_i h2
          split at hs
          · rename_i h; injection hs with hs; subst hs; exact .inl ⟨by simp [h0, h1, h2, h], rfl⟩
          · rename_i h3
            split at hs
            · rename_i h; injection hs with hs; subst hs; exact .inl ⟨by simp [h0, h1, h2, h3, h], rfl⟩
            · rename_i h4
              split at hs
              · rename_i h; injection hs with hs; subst hs; exact .inl ⟨by simp [h0, h1, h2, h3, h4, h], rfl⟩
              · rename_i h5
                split at hs
                · rename_i h; injection hs with hs; subst hs; exact .inl ⟨by simp [h0, h1, h2, h3, h4, h5, h], rfl⟩
                · rename_i h6
                  split at hs
                  · rename_i h; injection hs with hs; subst hs; exact .inr ⟨rfl, by have := h; simp at this; exact this.symm⟩
                  · cases hs
end Go.Proofs.Ytnglipioaippoaa.T.Disk
