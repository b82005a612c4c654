/- The law on what a disk keeps: the loop, what is behind it, the whole. -/
import Derived.Test.YtnglipioaippoaaDk6
namespace Go.Proofs.Ytnglipioaippoaa.T.Disk
open Go.Dx Go.Proofs

theorem cons_ok {v : Nat → Int} {f : Fact} {B : List Fact} (h : arithA f.op f.k (f.x.val v) (f.y.val v) = some (f.r.av v f.k)) (hB : Valid v B) : Valid v (f :: B) := fun g hg => by
  rcases List.mem_cons.1 hg with rfl | hg
  · exact h
  · exact hB g hg
theorem nil_T {v : Nm} : ValidP v [] := fun x hx => by simp at hx
theorem nil_B {v : Nm} : Valid v [] := fun f hf => by simp at hf

/-- Whatever is to be kept: a beginning of what was written last. -/
theorem ahead {la lb lk : Nat} {at' to part r1 r2 : Int} {x y : Nat} {a b ke : PV} {ea eb ks : List (List PV)} (ha : ByP a ea) (hb : ByP b eb) (hk : KeP ke ks) (hla : ea.length = la) (hlb : eb.length = lb) (hlk : ks.length = lk) (ha30 : la ≤ 30) (hb30 : lb ≤ 30) (hk200 : lk ≤ 200)
    (hx : Place la at' r1 x) (hy : Place lb to r2 y) : ∃ mm, mm ≤ lb ∧
    GoesL Try.prog i3.fn.ntmps [pc 3, pc 4, pc 5, pc 6, pc 7, pc 8, pc 9] (p6 a b at' to ke part) [] (p8 a b ke part x y (.ro false (LQ x y ea (eb.take mm)))) (mem8 ((LQ x y ea (eb.take mm)).map (·.map up)) ((LQ x y ea (eb.take mm)).map (·.map up))) := by
  have hkl : lenP ke = some lk := by rw [← hlk]; exact hk.hl
  -- without what is to be kept
  have rest : ∀ (l : Bool) (kc : List AV), (decide ((0 : Int) < (lk : Int)) = l) → (∀ (mm : Nat) (m : PV) (B : List Fact), Valid (nmD la lb at' to part lk r1 x r2 y 0 0 0 0 0 mm a b ke m m) B → Up (nmD la lb at' to part lk r1 x r2 y 0 0 0 0 0 mm a b ke m m) (up ke) (.lsl B 2 5 (.lit 0) kc)) →
      (∀ (a b m : PV), (preR (G2 l) (tT (.lit 0)) kc x y a b m).map seen = sees (G2 l) kc x y a b m) → (∀ (a b m : PV), (preR (G3 l true) (tT (.tok 1)) kc x y a b m).map seen = sees (G3 l true) kc x y a b m) → (∀ (a b m : PV), (preR (G3 l false) (tT (.tok 4)) kc x y a b m).map seen = sees (G3 l false) kc x y a b m) →
      ∃ mm, mm ≤ lb ∧ GoesL Try.prog i3.fn.ntmps [pc 3, pc 4, pc 5, pc 6, pc 7, pc 8, pc 9] (p6 a b at' to ke part) [] (p8 a b ke part x y (.ro false (LQ x y ea (eb.take mm)))) (mem8 ((LQ x y ea (eb.take mm)).map (·.map up)) ((LQ x y ea (eb.take mm)).map (·.map up))) := by
    intro l kc hl hu r2' r3' r4'
    have core : ∀ (mm : Nat) (h : IV) (B : List Fact), mm ≤ lb → (∀ m, h.val (nmD la lb at' to part lk r1 x r2 y 0 0 0 0 0 mm a b ke m m) = (mm : Nat)) → (∀ m, Valid (nmD la lb at' to part lk r1 x r2 y 0 0 0 0 0 mm a b ke m m) B) → (∀ (a b m : PV), (preR B (tT h) kc x y a b m).map seen = sees B kc x y a b m) →
        ∃ mm, mm ≤ lb ∧ GoesL Try.prog i3.fn.ntmps [pc 3, pc 4, pc 5, pc 6, pc 7, pc 8, pc 9] (p6 a b at' to ke part) [] (p8 a b ke part x y (.ro false (LQ x y ea (eb.take mm)))) (mem8 ((LQ x y ea (eb.take mm)).map (·.map up)) ((LQ x y ea (eb.take mm)).map (·.map up))) := by
      intro mm h B hmm hval hB hrun
      obtain ⟨m, hm1, hm2⟩ := hb.clone.take (m := mm) (by omega)
      refine ⟨mm, hmm, upTo ha hb hla hlb ha30 hb30 hkl hx hy hm2 hm2 (by simp; omega) (hB m) (T := tT h) ?_ (by simp; omega) (hu mm m B (hB m)) (hrun a b m)⟩
      intro z hz
      simp only [tT, List.mem_cons, List.not_mem_nil, or_false] at hz
      subst hz
      exact ⟨mm, hval m, hm1, rfl⟩
    by_cases hp : part < 0
    · refine core 0 (.lit 0) (G2 l) (by omega) (fun m => rfl) (fun m => ?_) r2'
      refine cons_ok ?_ (cons_ok ?_ (cons_ok ?_ (G0_ok ha30 hb30 hk200 hx hy)))
      · show some (AV.bool (decide ((0 : Int) < (lk : Int)))) = some (AV.bool l); rw [hl]
      · show some (AV.bool (decide ((0 : Int) > part))) = some (AV.bool true); rw [decide_eq_true (by omega)]
      · show some (AV.bool (decide ((lb : Int) < 0))) = some (AV.bool false); rw [decide_eq_false (by omega)]
    · obtain ⟨pn, hpn⟩ := Int.eq_ofNat_of_zero_le (show 0 ≤ part by omega)
      by_cases ht : (lb : Int) < part
      · refine core lb (.tok 1) (G3 l true) (by omega) (fun m => rfl) (fun m => ?_) r3'
        refine cons_ok ?_ (cons_ok ?_ (cons_ok ?_ (G0_ok ha30 hb30 hk200 hx hy)))
        · show some (AV.bool (decide ((0 : Int) < (lk : Int)))) = some (AV.bool l); rw [hl]
        · show some (AV.bool (decide ((0 : Int) > part))) = some (AV.bool false); rw [decide_eq_false (by omega)]
        · show some (AV.bool (decide ((lb : Int) < part))) = some (AV.bool true); rw [decide_eq_true ht]
      · refine core pn (.tok 4) (G3 l false) (by omega) (fun m => hpn) (fun m => ?_) r4'
        refine cons_ok ?_ (cons_ok ?_ (cons_ok ?_ (G0_ok ha30 hb30 hk200 hx hy)))
        · show some (AV.bool (decide ((0 : Int) < (lk : Int)))) = some (AV.bool l); rw [hl]
        · show some (AV.bool (decide ((0 : Int) > part))) = some (AV.bool false); rw [decide_eq_false (by omega)]
        · show some (AV.bool (decide ((lb : Int) < part))) = some (AV.bool false); rw [decide_eq_false ht]
  by_cases h0 : lk = 0
  · refine rest false [] (decide_eq_false (by omega)) (fun mm m B hB => Up.lst hB _ _ _ rfl hkl rfl) (pre2e x y) (pre3e x y) (pre4e x y)
  · -- something is told
    have isro : ∃ f, ke = .ro f ks := by
      have h1 := hk.hl
      have h2 := hk.he
      cases ke <;> simp [lenP] at h1
      · omega
      · omega
      · rename_i f es
        exact ⟨f, by have : es = ks := h2; rw [this]⟩
    obtain ⟨f, rfl⟩ := isro
    have g0 : ks[0]? = some (ks[0]'(by omega)) := List.getElem?_eq_getElem (by omega)
    obtain ⟨kb, hkb⟩ := hk.hb _ (List.mem_of_getElem? g0)
    rw [hkb] at g0
    have hu : ∀ (mm : Nat) (m : PV) (B : List Fact), Valid (nmD la lb at' to part lk r1 x r2 y 0 0 0 0 0 mm a b (.ro f ks) m m) B → Up (nmD la lb at' to part lk r1 x r2 y 0 0 0 0 0 mm a b (.ro f ks) m m) (up (.ro f ks)) (.lsl B 2 5 (.lit 0) [.bool kb]) :=
      fun mm m B hB => Up.lsl hB 2 5 (.lit 0) (m := 0) rfl (by show (lk : Int) = _; rw [hlk]) rfl g0 (.cons (Up.same rfl) .nil)
    cases kb with
    | true =>
      have hB : Valid (nmD la lb at' to part lk r1 x r2 y 0 0 0 0 0 lb a b (.ro f ks) (cloneP b) (cloneP b)) G1 := by
        refine cons_ok ?_ (G0_ok ha30 hb30 hk200 hx hy)
        show some (AV.bool (decide ((0 : Int) < (lk : Int)))) = some (AV.bool true)
        rw [decide_eq_true (by omega)]
      have he : eb.take lb = eb := by rw [← hlb, List.take_length]
      refine ⟨lb, Nat.le_refl _, ?_⟩
      rw [he]
      exact upTo ha hb hla hlb ha30 hb30 hkl hx hy hb.clone hb.clone (by omega) hB nil_T hlb.symm (hu lb (cloneP b) G1 hB) (pre1 x y a b (cloneP b))
    | false => exact rest true [.bool false] (decide_eq_true (by omega)) hu (pre2 x y) (pre3 x y) (pre4 x y)

/-! ### The loop -/
def pL (a b ke : PV) (part : Int) (x y : Nat) (q : AV) (i : Int) : Env := eL (up a) (up b) (up ke) (.int .i64 part) (.int .i64 x) (.int .i64 y) q (.int .i64 i)
theorem same_get {v : Nm} (p : PV) : Up v (up p) (up p) := Up.same (noN_up p)
theorem same_down {v : Nm} (p : PV) : Down v (up p) (up p) := Down.same (noN_up p)
theorem upMem8 {v : Nm} (l : List (List PV)) : All2 (BT (Up v)) (mem8 (l.map (·.map up)) (l.map (·.map up))) (mem8 (l.map (·.map up)) (l.map (·.map up))) :=
  .cons (bt_bytes same_get l) (.cons (bt_bytes same_get l) (.cons (bt_d (Up.same rfl) (Up.same rfl) (Up.same rfl) (Up.same rfl) (Up.same rfl)) (.cons .hole (.cons .hole (.cons .hole (.cons .hole (.cons .hole .nil)))))))
theorem downMem8 {v : Nm} (l : List (List PV)) : All2 (BD (Down v)) (mem8 (l.map (·.map up)) (l.map (·.map up))) (mem8 (l.map (·.map up)) (l.map (·.map up))) :=
  .cons (.keep (bt_bytes same_down l)) (.cons (.keep (bt_bytes same_down l)) (.cons (.keep (bt_d (Down.same rfl) (Down.same rfl) (Down.same rfl) (Down.same rfl) (Down.same rfl))) (.cons (.keep .hole) (.cons (.keep .hole) (.cons (.keep .hole) (.cons (.keep .hole) (.cons (.keep .hole) .nil)))))))
theorem upEL {v : Nm} {q0 q1 q4 q5 q15 q16 q17 q19 t0 t1 t4 t5 t15 t16 t17 t19 : AV} (h0 : Up v q0 t0) (h1 : Up v q1 t1) (h4 : Up v q4 t4) (h5 : Up v q5 t5) (h15 : Up v q15 t15) (h16 : Up v q16 t16) (h17 : Up v q17 t17) (h19 : Up v q19 t19) : ET (Up v) (eL q0 q1 q4 q5 q15 q16 q17 q19) (eL t0 t1 t4 t5 t15 t16 t17 t19) :=
  .cons ⟨rfl, h0⟩ (.cons ⟨rfl, h1⟩ (.cons ⟨rfl, h4⟩ (.cons ⟨rfl, h5⟩ (.cons ⟨rfl, Up.same rfl⟩ (.cons ⟨rfl, h15⟩ (.cons ⟨rfl, h16⟩ (.cons ⟨rfl, h17⟩ (.cons ⟨rfl, h19⟩ .nil))))))))
theorem downEL {v : Nm} {q0 q1 q4 q5 q15 q16 q17 q19 t0 t1 t4 t5 t15 t16 t17 t19 : AV} (h0 : Down v q0 t0) (h1 : Down v q1 t1) (h4 : Down v q4 t4) (h5 : Down v q5 t5) (h15 : Down v q15 t15) (h16 : Down v q16 t16) (h17 : Down v q17 t17) (h19 : Down v q19 t19) : ET (Down v) (eL q0 q1 q4 q5 q15 q16 q17 q19) (eL t0 t1 t4 t5 t15 t16 t17 t19) :=
  .cons ⟨rfl, h0⟩ (.cons ⟨rfl, h1⟩ (.cons ⟨rfl, h4⟩ (.cons ⟨rfl, h5⟩ (.cons ⟨rfl, Down.same rfl⟩ (.cons ⟨rfl, h15⟩ (.cons ⟨rfl, h16⟩ (.cons ⟨rfl, h17⟩ (.cons ⟨rfl, h19⟩ .nil))))))))
section
variable {a b ke : PV} {part : Int} {x y mm : Nat} {ea eb : List (List PV)}
/-- All that is on the disk. -/
abbrev LL (x y : Nat) (ea eb : List (List PV)) (mm : Nat) : List (List PV) := LQ x y ea (eb.take mm)
theorem goesLead (l : List (List PV)) : Goes Try.prog i3.fn.ntmps (fstS (pc 10)) (p8 a b ke part x y (.ro false l)) (mem8 (l.map (·.map up)) (l.map (·.map up))) .nrm (pL a b ke part x y (.ro false l) 0) (mem8 (l.map (·.map up)) (l.map (·.map up))) :=
  goes_run tab_ok mixed (v := nm [] []) (fun x hx => by simp at hx) (lead (up a) (up b) (up ke) (.int .i64 part) (.int .i64 x) (.int .i64 y) (.ro false l) _ _)
    (.cons ⟨rfl, same_get a⟩ (.cons ⟨rfl, same_get b⟩ (.cons ⟨rfl, same_get ke⟩ (.cons ⟨rfl, Up.same rfl⟩ (.cons ⟨rfl, Up.same rfl⟩ (.cons ⟨rfl, Up.same rfl⟩ (.cons ⟨rfl, Up.same rfl⟩ (.cons ⟨rfl, Up.same rfl⟩ .nil)))))))) (upMem8 l)
    (downEL (same_down a) (same_down b) (same_down ke) (Down.same rfl) (Down.same rfl) (Down.same rfl) (Down.same rfl) (Down.same rfl)) (downMem8 l)
theorem isro {p : PV} {es : List (List PV)} (h : ByP p es) (hl : 0 < es.length) : ∃ f, p = .ro f es := by
  have h1 := h.hl
  have h2 := h.he
  cases p <;> simp [lenP] at h1
  · omega
  · omega
  · rename_i f es'
    exact ⟨f, by have : es' = es := h2; rw [this]⟩
theorem goesRound (ha : ByP a ea) (hb : ByP b eb) (ha30 : ea.length ≤ 30) (hb30 : eb.length ≤ 30) (hx : x + ea.length ≤ 64) (hy : y + eb.length ≤ 64) (hm : mm ≤ eb.length) {i : Nat} (hi : i < ea.length) :
    Goes Try.prog i3.fn.ntmps lpC (pL a b ke part x y (.ro false (LL x y ea eb mm)) i) (mem8 ((LL x y ea eb mm).map (·.map up)) ((LL x y ea eb mm).map (·.map up))) .nrm (pL a b ke part x y (.ro false (LL x y ea eb mm)) ((i : Int) + 1)) (mem8 ((LL x y ea eb mm).map (·.map up)) ((LL x y ea eb mm).map (·.map up))) := by
  have hym : y + (eb.take mm).length ≤ 64 := by simp; omega
  have hlen := LQ_len (ea := ea) (em := eb.take mm) hx hym
  have hby : By (LL x y ea eb mm) := LQ_by ha.hb fun e he => hb.hb e (List.mem_of_mem_take he)
  have ga : ea[i]? = some (ea[i]'hi) := List.getElem?_eq_getElem hi
  have gl : (LL x y ea eb mm)[x + i]? = some ((LL x y ea eb mm)[x + i]'(by rw [hlen]; omega)) := List.getElem?_eq_getElem _
  obtain ⟨d, hd⟩ := ha.hb _ (List.mem_of_getElem? ga)
  obtain ⟨c, hc⟩ := hby _ (List.mem_of_getElem? gl)
  rw [hd] at ga
  rw [hc] at gl
  obtain ⟨fa, rfl⟩ := isro ha (by omega)
  have at' := LQ_at (ea := ea) (em := eb.take mm) hx hym hi
  by_cases hcd : c = d
  · -- as it was written first
    subst hcd
    have hB : Valid (nmD ea.length eb.length 0 0 part 0 0 x 0 y i ((x : Int) + i - y) c c 0 mm (.ro fa ea) b ke b (.ro false (LL x y ea eb mm))) L1 := by
      intro f hf
      simp only [L1, List.mem_cons, List.not_mem_nil, or_false] at hf
      rcases hf with rfl | rfl | rfl | rfl | rfl
      · show some (AV.bool (decide ((i : Int) < (ea.length : Int)))) = some (AV.bool true); rw [decide_eq_true (by omega)]
      · show some (AV.int .i64 (IntKind.wrap .i64 ((x : Int) + i))) = some (AV.int .i64 ((x : Int) + i)); rw [wrap_in _ (by omega)]
      · show some (AV.int .i64 (IntKind.wrap .i64 ((x : Int) + i - y))) = some (AV.int .i64 ((x : Int) + i - y)); rw [wrap_in _ (by omega)]
      · show some (AV.bool (c != c)) = some (AV.bool false); rw [bne_self_eq_false]
      · show some (AV.int .i64 (IntKind.wrap .i64 ((i : Int) + 1))) = some (AV.int .i64 ((i : Int) + 1)); rw [wrap_in _ (by omega)]
    generalize hv : nmD ea.length eb.length 0 0 part 0 0 x 0 y i ((x : Int) + i - y) c c 0 mm (.ro fa ea) b ke b (.ro false (LL x y ea eb mm)) = v at hB
    have uA : Up v (.ro fa ea) (wa L1) := by subst hv; exact Up.lsl hB 0 0 (.tok 14) (m := i) rfl rfl rfl ga (.cons (Up.tok hB _ _ rfl) .nil)
    have uL : Up v (.ro false (LL x y ea eb mm)) (wl L1) := by subst hv; exact Up.lsl hB 6 21 (.tok 16) (m := x + i) rfl (by rw [hlen]; rfl) (by show (x : Int) + i = ((x + i : Nat) : Int); omega) gl (.cons (Up.tok hB _ _ rfl) .nil)
    have dA : Down v (wa L1) (.ro fa ea) := by subst hv; exact Down.lsl (p := .ro fa ea) _ _ _ _ rfl
    have dL : Down v (wl L1) (.ro false (LL x y ea eb mm)) := by subst hv; exact Down.lsl (p := .ro false (LL x y ea eb mm)) _ _ _ _ rfl
    exact goes_run tab_ok mixed (v := v) (fun x hx => by simp at hx) (round1 (up b) (up ke) (.int .i64 part) _ _)
      (upEL uA (same_get b) (same_get ke) (Up.same rfl) (by subst hv; exact Up.tok hB _ _ rfl) (by subst hv; exact Up.tok hB _ _ rfl) uL (by subst hv; exact Up.tok hB _ _ rfl)) (upMem8 _)
      (downEL dA (same_down b) (same_down ke) (Down.same rfl) (by subst hv; exact Down.tok _ _ rfl) (by subst hv; exact Down.tok _ _ rfl) dL (by subst hv; exact Down.tok _ _ rfl)) (downMem8 _)
  · -- it was written over
    rcases at' with ⟨h1, h2, h3⟩ | h3
    case inr => rw [gl, ga] at h3; injection h3 with h3; injection h3 with h3 _; injection h3 with _ h3; exact absurd h3 hcd
    rw [gl] at h3
    simp only [List.length_take] at h2
    have hk : x + i - y < eb.length := by omega
    have gb : eb[x + i - y]? = some [.int .u8 c] := by
      rw [h3, List.getElem?_take, if_pos (by omega)]
    obtain ⟨fb, rfl⟩ := isro hb (by omega)
    have hB : Valid (nmD ea.length eb.length 0 0 part 0 0 x 0 y i ((x : Int) + i - y) c d c mm (.ro fa ea) (.ro fb eb) ke ke (.ro false (LL x y ea eb mm))) L2 := by
      intro f hf
      simp only [L2, List.mem_cons, List.not_mem_nil, or_false] at hf
      rcases hf with rfl | rfl | rfl | rfl | rfl | rfl | rfl | rfl
      · show some (AV.bool (decide ((i : Int) < (ea.length : Int)))) = some (AV.bool true); rw [decide_eq_true (by omega)]
      · show some (AV.int .i64 (IntKind.wrap .i64 ((x : Int) + i))) = some (AV.int .i64 ((x : Int) + i)); rw [wrap_in _ (by omega)]
      · show some (AV.int .i64 (IntKind.wrap .i64 ((x : Int) + i - y))) = some (AV.int .i64 ((x : Int) + i - y)); rw [wrap_in _ (by omega)]
      · show some (AV.bool (c != d)) = some (AV.bool true); rw [bne_iff_ne.2 hcd]
      · show some (AV.bool (decide ((x : Int) + i - y < 0))) = some (AV.bool false); rw [decide_eq_false (by omega)]
      · show some (AV.bool (decide ((x : Int) + i - y ≥ (eb.length : Int)))) = some (AV.bool false); rw [decide_eq_false (by omega)]
      · show some (AV.bool (c != c)) = some (AV.bool false); rw [bne_self_eq_false]
      · show some (AV.int .i64 (IntKind.wrap .i64 ((i : Int) + 1))) = some (AV.int .i64 ((i : Int) + 1)); rw [wrap_in _ (by omega)]
    generalize hv : nmD ea.length eb.length 0 0 part 0 0 x 0 y i ((x : Int) + i - y) c d c mm (.ro fa ea) (.ro fb eb) ke ke (.ro false (LL x y ea eb mm)) = v at hB
    have uA : Up v (.ro fa ea) (wa L2) := by subst hv; exact Up.lsl hB 0 0 (.tok 14) (m := i) rfl rfl rfl ga (.cons (Up.tok hB _ _ rfl) .nil)
    have uB : Up v (.ro fb eb) (wb L2) := by subst hv; exact Up.lsl hB 1 1 (.tok 17) (m := x + i - y) rfl rfl (by show (x : Int) + i - y = ((x + i - y : Nat) : Int); omega) gb (.cons (Up.tok hB _ _ rfl) .nil)
    have uL : Up v (.ro false (LL x y ea eb mm)) (wl L2) := by subst hv; exact Up.lsl hB 6 21 (.tok 16) (m := x + i) rfl (by rw [hlen]; rfl) (by show (x : Int) + i = ((x + i : Nat) : Int); omega) gl (.cons (Up.tok hB _ _ rfl) .nil)
    have dA : Down v (wa L2) (.ro fa ea) := by subst hv; exact Down.lsl (p := .ro fa ea) _ _ _ _ rfl
    have dB : Down v (wb L2) (.ro fb eb) := by subst hv; exact Down.lsl (p := .ro fb eb) _ _ _ _ rfl
    have dL : Down v (wl L2) (.ro false (LL x y ea eb mm)) := by subst hv; exact Down.lsl (p := .ro false (LL x y ea eb mm)) _ _ _ _ rfl
    exact goes_run tab_ok mixed (v := v) (fun x hx => by simp at hx) (round2 (up ke) (.int .i64 part) _ _)
      (upEL uA uB (same_get ke) (Up.same rfl) (by subst hv; exact Up.tok hB _ _ rfl) (by subst hv; exact Up.tok hB _ _ rfl) uL (by subst hv; exact Up.tok hB _ _ rfl)) (upMem8 _)
      (downEL dA dB (same_down ke) (Down.same rfl) (by subst hv; exact Down.tok _ _ rfl) (by subst hv; exact Down.tok _ _ rfl) dL (by subst hv; exact Down.tok _ _ rfl)) (downMem8 _)
theorem goesEnd (ha : ByP a ea) (l : List (List PV)) : Goes Try.prog i3.fn.ntmps lpC (pL a b ke part x y (.ro false l) ea.length) (mem8 (l.map (·.map up)) (l.map (·.map up))) (.ext 0) [(4, up ke), (5, .int .i64 part), (13, .ptr 2 0 0 0), (17, .ro false l)] (mem8 (l.map (·.map up)) (l.map (·.map up))) := by
  have hB : Valid (nmD ea.length 0 0 0 part 0 0 x 0 y ea.length 0 0 0 0 0 a b ke ke ke) L3 := by
    intro f hf
    simp only [L3, List.mem_cons, List.not_mem_nil, or_false] at hf
    subst hf
    show some (AV.bool (decide ((ea.length : Int) < (ea.length : Int)))) = some (AV.bool false)
    simp
  exact goes_run tab_ok mixed (v := nmD ea.length 0 0 0 part 0 0 x 0 y ea.length 0 0 0 0 0 a b ke ke ke) (fun x hx => by simp at hx) (round3 (up b) (up ke) (.int .i64 part) (.int .i64 x) (.int .i64 y) (.ro false l) _ _)
    (upEL (Up.lst hB _ _ _ rfl ha.hl rfl) (same_get b) (same_get ke) (Up.same rfl) (Up.same rfl) (Up.same rfl) (Up.same rfl) (Up.tok hB _ _ rfl)) (upMem8 l)
    (.cons ⟨rfl, same_down ke⟩ (.cons ⟨rfl, Down.same rfl⟩ (.cons ⟨rfl, Down.same rfl⟩ (.cons ⟨rfl, Down.same rfl⟩ .nil)))) (downMem8 l)
theorem goesLoop (ha : ByP a ea) (hb : ByP b eb) (ha30 : ea.length ≤ 30) (hb30 : eb.length ≤ 30) (hx : x + ea.length ≤ 64) (hy : y + eb.length ≤ 64) (hm : mm ≤ eb.length) : ∀ (m i : Nat), i + m = ea.length →
    GoesF Try.prog i3.fn.ntmps lpC (pL a b ke part x y (.ro false (LL x y ea eb mm)) i) (mem8 ((LL x y ea eb mm).map (·.map up)) ((LL x y ea eb mm).map (·.map up))) (.ext 0) [(4, up ke), (5, .int .i64 part), (13, .ptr 2 0 0 0), (17, .ro false (LL x y ea eb mm))] (mem8 ((LL x y ea eb mm).map (·.map up)) ((LL x y ea eb mm).map (·.map up)))
  | 0, i, h => by
    have : i = ea.length := by omega
    subst this
    exact GoesF.last (goesEnd ha _) (by intro h; cases h)
  | m + 1, i, h => GoesF.more (goesRound ha hb ha30 hb30 hx hy hm (by omega)) (goesLoop ha hb ha30 hb30 hx hy hm m (i + 1) (by omega))
end
end Go.Proofs.Ytnglipioaippoaa.T.Disk
