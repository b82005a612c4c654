/- The weight of a datum: the induction. -/
import Derived.Test.YtkiicnfpogdmgaaDoorVw1
import Derived.Test.YtkiicnfpogdmgaaDoorOpB
namespace Go.Proofs.YtkiicnfpogdmgaaDoor.T.Wei
open Go.Dx Go.Proofs Same Wgh

/-- How long a text may be. -/
def top : Nat := 140737488351232
def nmV (k n : Int) (s : ByteArray) (l : PV) (ln : Nat) (i most acc r : Int) (k' n' : Int) (s' : ByteArray) (l' : PV) (m' : Nat) : Nm :=
  nm [k, n, ln, i, i + 1, most, acc, most - acc, r, acc + r, s.size, k', n', m', s'.size, 1 + s.size, most - acc - r] [.str s, l, .str s', l']
def C23 (pa : List PV) (most r : Int) : Prop := ∀ (V : Nm → Prop) (σ : Heap), CallIn V Tryd.prog 23 [.agg (pa.map up), .int .i64 most] σ (.int .i64 r, σ)
def C22 (pa : List PV) (L L' : Int) : Prop := ∃ junk, CallIn (fun x => x = (⟨fun _ => 0, fun _ => .nilp⟩ : Nm)) Tryd.prog 22 [.agg (pa.map up), .ptr 0 0 0 0] [lrow 3 (.int .i64 L)] (.tup [], lrow 3 (.int .i64 L') :: junk)

section
variable {pa : List PV} {k n : Int} {s : ByteArray} {l : PV} {ln : Nat} {i most acc r k' n' : Int} {s' : ByteArray} {l' : PV} {m' : Nat}
theorem upV (ha : IsD pa k n s l ln) {B : List Fact} (hB : Valid (nmV k n s l ln i most acc r k' n' s' l' m') B) : All2 (fun p c => Up (nmV k n s l ln i most acc r k' n' s' l' m') (up p) c) pa (dT B) := by
  rw [ha.eq]
  exact upD hB nil_validT ha.hlen rfl rfl rfl rfl rfl rfl
theorem downV (ha : IsD pa k n s l ln) {B : List Fact} : All2 (fun c p => Down (nmV k n s l ln i most acc r k' n' s' l' m') c (up p)) (dT B) pa := by
  rw [ha.eq]
  exact downD rfl rfl rfl rfl

/-! ### The reference -/
abbrev G23 (most n i : Int) (pa : List PV) (n' : Int) : Prop := GoesF Tryd.prog i23.fn.ntmps (inL (loopB c23)) (pE most n i) [box (pa.map up)] (.ext 0) [(1, .int .i64 most), (5, .int .i64 n')] [.hole]
theorem e1 (ha : IsD pa k n s l ln) (most acc : Int) : G23 most acc ln pa acc := by
  have hB : Valid (nmV k n s l ln ln most acc 0 0 0 s l 0) Be := by
    intro f hf
    simp only [Be, List.mem_cons, List.not_mem_nil, or_false] at hf
    subst hf
    show some (AV.bool (decide ((ln : Int) < ln))) = some (AV.bool false)
    simp
  exact GoesF.last (goes_run tab_ok mixed (v := nmV k n s l ln ln most acc 0 0 0 s l 0) (fun x hx => by simp at hx) afin1 (upE hB rfl (Up.tok hB _ _ rfl) (Up.tok hB _ _ rfl)) (upBox (upV ha hB) rfl) (.cons ⟨rfl, Down.tok _ _ rfl⟩ (.cons ⟨rfl, Down.tok _ _ rfl⟩ .nil)) dropBox) (by intro h; cases h)
theorem e2 (ha : IsD pa k n s l ln) {j : Nat} (hj : j < ln) {most acc : Int} (hm : ¬ acc < most) : G23 most acc j pa acc := by
  have hB : Valid (nmV k n s l ln j most acc 0 0 0 s l 0) Bf := by
    intro f hf
    simp only [Bf, List.mem_cons, List.not_mem_nil, or_false] at hf
    rcases hf with rfl | rfl
    · show some (AV.bool (decide ((j : Int) < ln))) = some (AV.bool true)
      simp [hj]
    · show some (AV.bool (decide (acc < most))) = some (AV.bool false)
      simp [hm]
  exact GoesF.last (goes_run tab_ok mixed (v := nmV k n s l ln j most acc 0 0 0 s l 0) (fun x hx => by simp at hx) afin2 (upE hB rfl (Up.tok hB _ _ rfl) (Up.tok hB _ _ rfl)) (upBox (upV ha hB) rfl) (.cons ⟨rfl, Down.tok _ _ rfl⟩ (.cons ⟨rfl, Down.tok _ _ rfl⟩ .nil)) dropBox) (by intro h; cases h)
theorem e3 {f : Bool} {es : List (List PV)} (ha : IsD pa k n s (.ro f es) es.length) {j : Nat} (hj : j < es.length) {q : List PV} (hq : es[j]? = some q) (hd : IsD q k' n' s' l' m') {most acc r n2 : Int} (h1 : 1 ≤ acc) (hm : acc < most) (hm2 : most ≤ 4097) (hr1 : 1 ≤ r) (hr2 : r ≤ most - acc)
    (hC : C23 q (most - acc) r) (hg : G23 most (acc + r) ((j : Int) + 1) pa n2) : G23 most acc j pa n2 := by
  have hB : Valid (nmV k n s (.ro f es) es.length j most acc r k' n' s' l' m') By := by
    have ht := ha.top
    unfold maxLen at ht
    intro f hf
    simp only [By, List.mem_cons, List.not_mem_nil, or_false] at hf
    rcases hf with rfl | rfl | rfl | rfl | rfl
    · show some (AV.bool (decide ((j : Int) < (es.length : Int)))) = some (AV.bool true)
      simp [hj]
    · show some (AV.bool (decide (acc < most))) = some (AV.bool true)
      simp [hm]
    · show some (AV.int .i64 (IntKind.wrap .i64 (most - acc))) = some (AV.int .i64 (most - acc))
      rw [wrap_in _ (by omega)]
    · show some (AV.int .i64 (IntKind.wrap .i64 (acc + r))) = some (AV.int .i64 (acc + r))
      rw [wrap_in _ (by omega)]
    · show some (AV.int .i64 (IntKind.wrap .i64 ((j : Int) + 1))) = some (AV.int .i64 ((j : Int) + 1))
      rw [wrap_in _ (by omega)]
  generalize hv : nmV k n s (.ro f es) es.length j most acc r k' n' s' l' m' = v at hB
  have hE := nil_validT (p := v.p)
  have ue : All2 (fun p c => Up v (up p) c) q (eT By) := by rw [hd.eq]; subst hv; exact upD hB hE hd.hlen rfl rfl rfl rfl rfl rfl
  have de : All2 (fun c p => Down v c (up p)) (eT By) q := by rw [hd.eq]; subst hv; exact downD rfl rfl rfl rfl
  have uw : All2 (fun p c => Up v (up p) c) pa (wT By) := by rw [ha.eq]; subst hv; exact upW hB hE rfl rfl rfl rfl rfl rfl rfl hq ue
  have dw : All2 (fun c p => Down v c (up p)) (wT By) pa := by rw [ha.eq]; subst hv; exact downW rfl rfl rfl rfl
  have e3 : v 3 = (j : Int) := by subst hv; rfl
  have e4 : v 4 = (j : Int) + 1 := by subst hv; rfl
  have e5 : v 5 = most := by subst hv; rfl
  have e6 : v 6 = acc := by subst hv; rfl
  have e7 : v 7 = most - acc := by subst hv; rfl
  have e8 : v 8 = r := by subst hv; rfl
  have e9 : v 9 = acc + r := by subst hv; rfl
  refine GoesF.more (goes_run tab_ok mixed (v := v) (fun x hx σ => ?_) ayes (upE hB e5 (Up.tok hB _ _ e6) (Up.tok hB _ _ e3)) (upBox uw rfl) (downE e5 (Down.tok _ _ e9) (Down.tok _ _ e4)) (downBox dw)) hg
  rw [List.mem_singleton] at hx
  subst hx
  exact .inl <| call_told (hC _ σ) (.cons (Down.agg de.mapR) (.cons (Down.tok _ _ e7) .nil)) (Up.tok hB _ _ e8)
theorem whole23 (ha : IsD pa k n s l ln) (hs : s.size ≤ top) {most n2 : Int} (hg : G23 most (1 + s.size) 0 pa n2) : C23 pa most (if most < n2 then most else n2) := by
  have hv0 : Valid (nmV k n s l ln 0 most 0 0 0 0 s l 0) [] := nil_valid
  have hBn : Valid (nmV k n s l ln 0 most 0 0 0 0 s l 0) Bn := by
    unfold top at hs
    intro f hf
    simp only [Bn, List.mem_cons, List.not_mem_nil, or_false] at hf
    subst hf
    show some (AV.int .i64 (IntKind.wrap .i64 (1 + (s.size : Int)))) = some (AV.int .i64 (1 + (s.size : Int)))
    rw [wrap_in _ (by omega)]
  have g1 : Goes Tryd.prog i23.fn.ntmps (pre1 c23) (initE 0 [.agg (pa.map up), .int .i64 most]) [] .nrm [(1, .int .i64 most), (2, .ptr 0 0 0 0)] [box (pa.map up)] :=
    goes_run tab_ok mixed (v := nmV k n s l ln 0 most 0 0 0 0 s l 0) (fun x hx => by simp at hx) a1 (.cons ⟨rfl, Up.agg (upV ha hv0).map⟩ (.cons ⟨rfl, Up.tok hv0 _ _ rfl⟩ .nil)) .nil (.cons ⟨rfl, Down.tok _ _ rfl⟩ (.cons ⟨rfl, Down.same rfl⟩ .nil)) (downBox (downV ha))
  have g2 : Goes Tryd.prog i23.fn.ntmps (pre2 c23) [(1, .int .i64 most), (2, .ptr 0 0 0 0)] [box (pa.map up)] .nrm [(1, .int .i64 most), (2, .ptr 0 0 0 0), (5, .int .i64 (1 + s.size))] [box (pa.map up)] :=
    goes_run tab_ok mixed (v := nmV k n s l ln 0 most 0 0 0 0 s l 0) (fun x hx => by simp at hx) a2 (.cons ⟨rfl, Up.tok hBn _ _ rfl⟩ (.cons ⟨rfl, Up.same rfl⟩ .nil)) (upBox (upV ha hBn) rfl) (.cons ⟨rfl, Down.tok _ _ rfl⟩ (.cons ⟨rfl, Down.same rfl⟩ (.cons ⟨rfl, Down.tok _ _ rfl⟩ .nil))) (downBox (downV ha))
  have g3 : Goes Tryd.prog i23.fn.ntmps (pre3 c23) [(1, .int .i64 most), (2, .ptr 0 0 0 0), (5, .int .i64 (1 + s.size))] [box (pa.map up)] .nrm (pE most (1 + s.size) 0) [box (pa.map up)] :=
    goes_run tab_ok mixed (v := nmV k n s l ln 0 most 0 0 0 0 s l 0) (fun x hx => by simp at hx) a3 (.cons ⟨rfl, Up.tok hv0 _ _ rfl⟩ (.cons ⟨rfl, Up.same rfl⟩ (.cons ⟨rfl, Up.tok hv0 _ _ rfl⟩ .nil))) (upBox (upV ha hv0) rfl) (downE rfl (Down.tok _ _ rfl) (Down.same rfl)) (downBox (downV ha))
  have hBm : ∀ b, decide (most < n2) = b → Valid (nmV k n s l ln 0 most n2 0 0 0 s l 0) (Bm b) := by
    intro b hb f hf
    simp only [Bm, List.mem_cons, List.not_mem_nil, or_false] at hf
    subst hf
    show some (AV.bool (decide (most < n2))) = some (AV.bool b)
    rw [hb]
  have g4 : Goes Tryd.prog i23.fn.ntmps (post c23) [(1, .int .i64 most), (5, .int .i64 n2)] [.hole] .ret [(4, .int .i64 (if most < n2 then most else n2))] [.hole] := by
    by_cases hlt : most < n2
    · have hB := hBm true (decide_eq_true hlt)
      rw [if_pos hlt]
      exact goes_run tab_ok mixed (v := nmV k n s l ln 0 most n2 0 0 0 s l 0) (fun x hx => by simp at hx) alast1 (.cons ⟨rfl, Up.tok hB _ _ rfl⟩ (.cons ⟨rfl, Up.tok hB _ _ rfl⟩ .nil)) (.cons .hole .nil) (.cons ⟨rfl, Down.tok _ _ rfl⟩ .nil) dropBox
    · have hB := hBm false (decide_eq_false hlt)
      rw [if_neg hlt]
      exact goes_run tab_ok mixed (v := nmV k n s l ln 0 most n2 0 0 0 s l 0) (fun x hx => by simp at hx) alast2 (.cons ⟨rfl, Up.tok hB _ _ rfl⟩ (.cons ⟨rfl, Up.tok hB _ _ rfl⟩ .nil)) (.cons .hole .nil) (.cons ⟨rfl, Down.tok _ _ rfl⟩ .nil) dropBox
  have hgo : Goes Tryd.prog i23.fn.ntmps c23 (initE 0 [.agg (pa.map up), .int .i64 most]) [] .ret [(4, .int .i64 (if most < n2 then most else n2))] [.hole] := by
    rw [shape23]
    exact Goes.seq g1 (Goes.seq g2 (Goes.seq (Goes.seq g3 (Goes.block (Goes.loop hg))) g4))
  intro V σ
  have := callIn_goes (f := 23) (i := i23) (c := c23) (by kernel_rfl) (by kernel_rfl) (by kernel_rfl) (args := [.agg (pa.map up), .int .i64 most]) (Nat.le_of_ble_eq_true (by kernel_rfl)) hgo (ares _) (V := V)
  exact call_any this (by simp [loVs, loV, loVs_ups]) rfl σ

/-! ### The program -/
def fP (l : PV) (len : Nat) (i : Int) : Env := [(1, .ptr 0 0 0 0), (20, up l), (21, .int .i64 len), (22, .int .i64 i)]
def mP (L : Int) : Heap := [lrow 3 (.int .i64 L), .hole]
abbrev G22 (L i : Int) (l : PV) (len : Nat) (x : AX) (L' : Int) : Prop := GoesF Tryd.prog i22.fn.ntmps lp22 (fP l len i) (mP L) x [] (mP L')
theorem upF {v : Nm} {B : List Fact} {len : Nat} {i : Int} {x y : AV} (hB : Valid v B) (h2 : v 2 = (len : Int)) (hx : Up v (up l) x) (hy : Up v (.int .i64 i) y) : ET (Up v) (fP l len i) (fE B x y) :=
  .cons ⟨rfl, Up.same rfl⟩ (.cons ⟨rfl, hx⟩ (.cons ⟨rfl, Up.tok hB _ _ h2⟩ (.cons ⟨rfl, hy⟩ .nil)))
theorem downF {v : Nm} {B : List Fact} {len : Nat} {i : Int} {x y : AV} (h2 : v 2 = (len : Int)) (hx : Down v x (up l)) (hy : Down v y (.int .i64 i)) : ET (Down v) (fE B x y) (fP l len i) :=
  .cons ⟨rfl, Down.same rfl⟩ (.cons ⟨rfl, hx⟩ (.cons ⟨rfl, Down.tok _ _ h2⟩ (.cons ⟨rfl, hy⟩ .nil)))
theorem upR {v : Nm} {L : Int} {x : AV} (hx : Up v (.int .i64 L) x) (h1 : one x = true) : BT (Up v) (lrow 3 (.int .i64 L)) (lrow 3 x) := .row (.cons (.cons hx .nil) .nil) (by simp [h1])
theorem downR {v : Nm} {L : Int} {x : AV} (hx : Down v x (.int .i64 L)) : BT (Down v) (lrow 3 x) (lrow 3 (.int .i64 L)) := .row (.cons (.cons hx .nil) .nil) rfl
theorem x1 (ha : IsD pa k n s l ln) (L : Int) : G22 L ln l ln (.ext 0) L := by
  have hB : Valid (nmV k n s l ln ln L 0 0 0 0 s l 0) Be := by
    intro f hf
    simp only [Be, List.mem_cons, List.not_mem_nil, or_false] at hf
    subst hf
    show some (AV.bool (decide ((ln : Int) < ln))) = some (AV.bool false)
    simp
  have e7 : nmV k n s l ln ln L 0 0 0 0 s l 0 7 = L := by show L - 0 = L; omega
  exact GoesF.last (goes_run tab_ok mixed (v := nmV k n s l ln ln L 0 0 0 0 s l 0) (fun x hx => by simp at hx) bfin (upF hB rfl (Up.lst hB _ _ _ rfl ha.hlen rfl) (Up.tok hB _ _ rfl)) (.cons (upR (Up.tok hB _ _ e7) rfl) (.cons .hole .nil)) .nil (.cons (.keep (downR (Down.tok _ _ e7))) (.cons (.drop _) .nil))) (by intro h; cases h)
theorem x2 {f : Bool} {es : List (List PV)} {j : Nat} (hj : j < es.length) {q : List PV} (hq : es[j]? = some q) (hd : IsD q k' n' s' l' m') : G22 0 j (.ro f es) es.length .ret 0 := by
  have hB : Valid (nmV 0 0 s' (.ro f es) es.length j 0 0 0 k' n' s' l' m') Bz := by
    intro f hf
    simp only [Bz, List.mem_cons, List.not_mem_nil, or_false] at hf
    subst hf
    show some (AV.bool (decide ((j : Int) < (es.length : Int)))) = some (AV.bool true)
    simp [hj]
  generalize hv : nmV 0 0 s' (.ro f es) es.length j 0 0 0 k' n' s' l' m' = v at hB
  have hE := nil_validT (p := v.p)
  have ue : All2 (fun p c => Up v (up p) c) q (eT Bz) := by rw [hd.eq]; subst hv; exact upD hB hE hd.hlen rfl rfl rfl rfl rfl rfl
  have e2 : v 2 = (es.length : Int) := by subst hv; rfl
  have e3 : v 3 = (j : Int) := by subst hv; rfl
  have p1 : v.p 1 = .ro f es := by subst hv; rfl
  have g := goes_run tab_ok mixed (v := v) (M := mP 0) (E := fP (.ro f es) es.length j) (M' := mP 0 ++ [.hole]) (fun x hx => by simp at hx) bzero (upF hB e2 (Up.lsl hB _ _ (.tok 3) p1 e2 e3 hq ue) (Up.tok hB _ _ e3)) (.cons (upR (Up.same rfl) rfl) (.cons .hole .nil)) .nil (.cons (.keep (downR (Down.same rfl))) (.cons (.drop _) (.cons (.drop _) .nil)))
  exact GoesF.last (Goes.take g rfl rfl) (by intro h; cases h)
theorem x3 {f : Bool} {es : List (List PV)} {j : Nat} (hmx : es.length ≤ maxLen) (hj : j < es.length) {q : List PV} (hq : es[j]? = some q) (hd : IsD q k' n' s' l' m') {L r : Int} (hL : 1 ≤ L) (hC : C22 q L (L - r)) {x : AX} {L' : Int}
    (hg : G22 (L - r) ((j : Int) + 1) (.ro f es) es.length x L') : G22 L j (.ro f es) es.length x L' := by
  have hB : Valid (nmV 0 0 s' (.ro f es) es.length j L 0 r k' n' s' l' m') Bw := by
    unfold maxLen at hmx
    intro f hf
    simp only [Bw, List.mem_cons, List.not_mem_nil, or_false] at hf
    rcases hf with rfl | rfl | rfl
    · show some (AV.bool (decide ((j : Int) < (es.length : Int)))) = some (AV.bool true)
      simp [hj]
    · show some (AV.bool (L - 0 == 0)) = some (AV.bool false)
      rw [show (L - 0 == 0) = false from beq_eq_false_iff_ne.2 (by omega)]
    · show some (AV.int .i64 (IntKind.wrap .i64 ((j : Int) + 1))) = some (AV.int .i64 ((j : Int) + 1))
      rw [wrap_in _ (by omega)]
  generalize hv : nmV 0 0 s' (.ro f es) es.length j L 0 r k' n' s' l' m' = v at hB
  have hE := nil_validT (p := v.p)
  have ue : All2 (fun p c => Up v (up p) c) q (eT Bw) := by rw [hd.eq]; subst hv; exact upD hB hE hd.hlen rfl rfl rfl rfl rfl rfl
  have de : All2 (fun c p => Down v c (up p)) (eT Bw) q := by rw [hd.eq]; subst hv; exact downD rfl rfl rfl rfl
  have e2 : v 2 = (es.length : Int) := by subst hv; rfl
  have e3 : v 3 = (j : Int) := by subst hv; rfl
  have e4 : v 4 = (j : Int) + 1 := by subst hv; rfl
  have e7 : v 7 = L := by subst hv; show L - 0 = L; omega
  have e16 : v 16 = L - r := by subst hv; show L - 0 - r = L - r; omega
  have p1 : v.p 1 = .ro f es := by subst hv; rfl
  obtain ⟨junk, hC⟩ := hC
  have ho := ovrN_ok (P := Tryd.prog) (v := v) (g := 22) (a := .agg (eT Bw)) (ty := 3) (x := .tok Bw .i64 7) (x' := .tok Bw .i64 16) hC (Down.agg de.mapR) (Down.tok _ _ e7) (Up.tok hB _ _ e16) rfl
  have g := goes_runO tab_ok mixed (v := v) (M := mP L) (E := fP (.ro f es) es.length j) (E' := fP (.ro f es) es.length ((j : Int) + 1)) (M' := mP (L - r) ++ [.hole]) (fun f args σ r h => (ho f args σ r h).1) (fun f args σ r hm h => absurd (show modesOf tab 22 = 0 by kernel_rfl) (by rw [(ho f args σ r h).2] at hm; exact hm)) byes
    (upF hB e2 (Up.lsl hB _ _ (.tok 3) p1 e2 e3 hq ue) (Up.tok hB _ _ e3)) (.cons (upR (Up.tok hB _ _ e7) rfl) (.cons .hole .nil)) (downF e2 (Down.lsl _ _ _ _ p1) (Down.tok _ _ e4)) (.cons (.keep (downR (Down.tok _ _ e16))) (.cons (.drop _) (.cons (.drop _) .nil)))
  exact GoesF.more (Goes.take g (by simp only [fP, List.all_cons, List.all_nil]; rfl) rfl) hg
end
end Go.Proofs.YtkiicnfpogdmgaaDoor.T.Wei
