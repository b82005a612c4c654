/- The law on what a disk keeps: the whole, for all inputs. -/
import Derived.Test.YtnglipioaippoaaDk7
namespace Go.Proofs.Ytnglipioaippoaa.T.Disk
open Go.Dx Go.Proofs

theorem awakeC (V : Nm → Prop) (σ : Heap) : CallOK V Try.prog 12 [] σ (.bool true, σ) := reck_ok tab_ok mixed 40 12 [] σ _ (awakeAt σ)
theorem GoesL.weak {P : Program} {n : Nat} {cs : List Code} {E0 E E1 : Env} {M M1 : Heap} (h : GoesL P n cs E M E1 M1) (hE : ∀ t v, E.get t = some v → E0.get t = some v) : GoesL P n cs E0 M E1 M1 :=
  fun V k w a D hR he d Q hQ => h V k w a D hR ⟨he.size, fun t v hv => he.get t v (hE t v hv), he.defers⟩ d Q hQ
theorem e6_same {v : Nm} {q0 q1 q2 q3 q4 q5 t0 t1 : AV} (h0 : Up v q0 t0) (h1 : Up v q1 t1) (n2 : noN q2 = true) (n3 : noN q3 = true) (n4 : noN q4 = true) (n5 : noN q5 = true) : ET (Up v) (e6 q0 q1 q2 q3 q4 q5) (e6 t0 t1 q2 q3 q4 q5) :=
  .cons ⟨rfl, h0⟩ (.cons ⟨rfl, h1⟩ (.cons ⟨rfl, Up.same n2⟩ (.cons ⟨rfl, Up.same n3⟩ (.cons ⟨rfl, Up.same n4⟩ (.cons ⟨rfl, Up.same n5⟩ .nil)))))
theorem e6_down {v : Nm} {q0 q1 q2 q3 q4 q5 t0 t1 : AV} (h0 : Down v t0 q0) (h1 : Down v t1 q1) (n2 : noN q2 = true) (n3 : noN q3 = true) (n4 : noN q4 = true) (n5 : noN q5 = true) : ET (Down v) (e6 t0 t1 q2 q3 q4 q5) (e6 q0 q1 q2 q3 q4 q5) :=
  .cons ⟨rfl, h0⟩ (.cons ⟨rfl, h1⟩ (.cons ⟨rfl, Down.same n2⟩ (.cons ⟨rfl, Down.same n3⟩ (.cons ⟨rfl, Down.same n4⟩ (.cons ⟨rfl, Down.same n5⟩ .nil)))))
theorem goesNone {v : Nm} {live : List Nat} {cs : List Code} {E ρT ρ1 E' : Env} {M σT σ1 M' : Heap} (run : run1 none3 live cs ρT σT = some (.nrm, ρ1, σ1)) (lE : ET (Up v) E ρT) (lM : All2 (BT (Up v)) M σT) (oE : ET (Down v) ρ1 E') (oM : All2 (BD (Down v)) σ1 M') : GoesL Try.prog i3.fn.ntmps cs E M E' M' :=
  goesL_run tab_ok mixed (fun f args σ r h => by cases h) (fun f args σ r _ h => by cases h) run lE lM oE oM
section
variable {a b ke : PV} {at' to part : Int} {ea eb ks : List (List PV)}
def nmC (l0 r : Int) (p0 p8 : PV) : Nm := nm [l0, 0, 0, 0, 0, 0, 0, 0, 0, 0, 0, 0, 0, 0, 0, r] [p0, .nilp, .nilp, .nilp, .nilp, .nilp, .nilp, .nilp, p8]
/-- An argument is cut to 30 bytes. -/
theorem cutA (ha : ByP a ea) {q1 q2 q3 q4 q5 : AV} (n1 : noN q1 = true) (n2 : noN q2 = true) (n3 : noN q3 = true) (n4 : noN q4 = true) (n5 : noN q5 = true) : ∃ a', ByP a' (ea.take 30) ∧ GoesL Try.prog i3.fn.ntmps [pc 1] (e6 (up a) q1 q2 q3 q4 q5) [] (e6 (up a') q1 q2 q3 q4 q5) [] := by
  by_cases h : 30 < ea.length
  · obtain ⟨a', h1, h2⟩ := ha.take (m := 30) (by omega)
    have hB : Valid (nmC 30 ea.length a' a) (C0 true) := by
      intro f hf
      simp only [C0, List.mem_cons, List.not_mem_nil, or_false] at hf
      subst hf
      show some (AV.bool (decide ((ea.length : Int) > 30))) = some (AV.bool true); rw [decide_eq_true (by omega)]
    have hT : ValidP (nmC 30 ea.length a' a) [(8, .lit 30, 0, 0)] := by
      intro z hz
      rw [List.mem_singleton] at hz
      subst hz
      exact ⟨30, rfl, h1, rfl⟩
    exact ⟨a', h2, goesNone (v := nmC 30 ea.length a' a) (za1 q1 q2 q3 q4 q5) (e6_same (Up.lsq hB hT _ _ rfl ha.hl rfl) (Up.same n1) n2 n3 n4 n5) .nil (e6_down (Down.lsl _ _ _ _ rfl) (Down.same n1) n2 n3 n4 n5) .nil⟩
  · have hB : Valid (nmC 0 ea.length .nilp a) (C0 false) := by
      intro f hf
      simp only [C0, List.mem_cons, List.not_mem_nil, or_false] at hf
      subst hf
      show some (AV.bool (decide ((ea.length : Int) > 30))) = some (AV.bool false); rw [decide_eq_false (by omega)]
    refine ⟨a, by rw [List.take_of_length_le (by omega)]; exact ha, goesNone (v := nmC 0 ea.length .nilp a) (za2 q1 q2 q3 q4 q5) (e6_same (Up.lst hB _ _ _ rfl ha.hl rfl) (Up.same n1) n2 n3 n4 n5) .nil (e6_down (Down.lsl _ _ _ _ rfl) (Down.same n1) n2 n3 n4 n5) .nil⟩
theorem cutB (hb : ByP b eb) {q0 q2 q3 q4 q5 : AV} (n0 : noN q0 = true) (n2 : noN q2 = true) (n3 : noN q3 = true) (n4 : noN q4 = true) (n5 : noN q5 = true) : ∃ b', ByP b' (eb.take 30) ∧ GoesL Try.prog i3.fn.ntmps [pc 2] (e6 q0 (up b) q2 q3 q4 q5) [] (e6 q0 (up b') q2 q3 q4 q5) [] := by
  by_cases h : 30 < eb.length
  · obtain ⟨b', h1, h2⟩ := hb.take (m := 30) (by omega)
    have hB : Valid (nmC 30 eb.length b' b) (C0 true) := by
      intro f hf
      simp only [C0, List.mem_cons, List.not_mem_nil, or_false] at hf
      subst hf
      show some (AV.bool (decide ((eb.length : Int) > 30))) = some (AV.bool true); rw [decide_eq_true (by omega)]
    have hT : ValidP (nmC 30 eb.length b' b) [(8, .lit 30, 0, 0)] := by
      intro z hz
      rw [List.mem_singleton] at hz
      subst hz
      exact ⟨30, rfl, h1, rfl⟩
    exact ⟨b', h2, goesNone (v := nmC 30 eb.length b' b) (zb1 q0 q2 q3 q4 q5) (e6_same (Up.same n0) (Up.lsq hB hT _ _ rfl hb.hl rfl) n2 n3 n4 n5) .nil (e6_down (Down.same n0) (Down.lsl _ _ _ _ rfl) n2 n3 n4 n5) .nil⟩
  · have hB : Valid (nmC 0 eb.length .nilp b) (C0 false) := by
      intro f hf
      simp only [C0, List.mem_cons, List.not_mem_nil, or_false] at hf
      subst hf
      show some (AV.bool (decide ((eb.length : Int) > 30))) = some (AV.bool false); rw [decide_eq_false (by omega)]
    refine ⟨b, by rw [List.take_of_length_le (by omega)]; exact hb, goesNone (v := nmC 0 eb.length .nilp b) (zb2 q0 q2 q3 q4 q5) (e6_same (Up.same n0) (Up.lst hB _ _ _ rfl hb.hl rfl) n2 n3 n4 n5) .nil (e6_down (Down.same n0) (Down.lsl _ _ _ _ rfl) n2 n3 n4 n5) .nil⟩

/-- Behind the loop: once more, and the same. -/
theorem goesAgain (hk : KeP ke ks) {l : List (List PV)} (hlen : l.length = 64) (hby : By l) : GoesL Try.prog i3.fn.ntmps [pc 11, pc 12] [(4, up ke), (5, .int .i64 part), (13, .ptr 2 0 0 0), (17, .ro false l)] (mem8 (l.map (·.map up)) (l.map (·.map up))) [(17, .ro false l), (21, .ro false l)] (List.replicate 9 .hole) := by
  have run := again (.ro false l) (l.map (·.map up)) (l.map (·.map up))
  rw [N4_eq hlen, cut_all hlen] at run
  obtain ⟨⟨X, ρ1, σ1⟩, h1, h2⟩ := Option.map_eq_some_iff.1 run
  simp only [seen2, Prod.mk.injEq] at h2
  obtain ⟨rfl, rfl, s8, slen⟩ := h2
  have hB : Valid (nmD 0 0 0 0 part ks.length 0 0 0 0 0 0 0 0 0 0 ke ke ke ke ke) [] := nil_B
  have oP := ovrPut_ok (v := nmD 0 0 0 0 part ks.length 0 0 0 0 0 0 0 0 0 0 ke ke ke ke ke) (xs := []) (ss := []) (fun e he => by simp at he) (fun e he => by simp at he)
  have oC := ovrClone_ok (v := nmD 0 0 0 0 part ks.length 0 0 0 0 0 0 0 0 0 0 ke ke ke ke ke) (cl := []) (fun e he => by simp at he)
  have oo : ∀ f args σ r, ovr2 f args σ = some r → CallOK (fun z => z = nmD 0 0 0 0 part ks.length 0 0 0 0 0 0 0 0 0 0 ke ke ke ke ke) Try.prog f args σ r ∧ modesOf tab f = 0 := by
    intro f args σ r h
    unfold ovr2 at h
    split at h
    · obtain ⟨h1, h2⟩ := oP f args σ r h
      subst h2; exact ⟨h1, by kernel_rfl⟩
    · obtain ⟨h1, h2⟩ := oC f args σ r h
      subst h2; exact ⟨h1, by kernel_rfl⟩
  have key := goesL_run tab_ok mixed (v := nmD 0 0 0 0 part ks.length 0 0 0 0 0 0 0 0 0 0 ke ke ke ke ke) (E := [(4, up ke), (5, .int .i64 part), (13, .ptr 2 0 0 0), (17, .ro false l)]) (E' := [(17, .ro false l), (21, .sl 8 0 0 64)]) (M' := [.hole, .hole, .hole, .hole, .hole, .hole, .hole, .hole, resB (l.map (·.map up))])
    (fun f args σ r h => (oo f args σ r h).1) (fun f args σ r hm h => absurd (oo f args σ r h).2 hm) h1
    (.cons ⟨rfl, Up.lst hB _ _ _ rfl hk.hl rfl⟩ (.cons ⟨rfl, Up.tok hB _ _ rfl⟩ (.cons ⟨rfl, Up.same rfl⟩ (.cons ⟨rfl, Up.same rfl⟩ .nil)))) (upMem8 l) (.cons ⟨rfl, Down.same rfl⟩ (.cons ⟨rfl, Down.same rfl⟩ .nil))
    (all2_of slen fun j z hz => by
      rcases j with _ | _ | _ | _ | _ | _ | _ | _ | _ | j
      · simp at hz; subst hz; exact ⟨_, List.getElem?_eq_getElem (by omega), .drop _⟩
      · simp at hz; subst hz; exact ⟨_, List.getElem?_eq_getElem (by omega), .drop _⟩
      · simp at hz; subst hz; exact ⟨_, List.getElem?_eq_getElem (by omega), .drop _⟩
      · simp at hz; subst hz; exact ⟨_, List.getElem?_eq_getElem (by omega), .drop _⟩
      · simp at hz; subst hz; exact ⟨_, List.getElem?_eq_getElem (by omega), .drop _⟩
      · simp at hz; subst hz; exact ⟨_, List.getElem?_eq_getElem (by omega), .drop _⟩
      · simp at hz; subst hz; exact ⟨_, List.getElem?_eq_getElem (by omega), .drop _⟩
      · simp at hz; subst hz; exact ⟨_, List.getElem?_eq_getElem (by omega), .drop _⟩
      · simp at hz; subst hz; exact ⟨_, s8, .keep (bt_bytes (fun p => Down.same (noN_up p)) _)⟩
      · simp at hz)
  have hone : ∀ e ∈ l, e.length = 1 := fun e he => by obtain ⟨n, rfl⟩ := hby e he; rfl
  refine GoesL.freeze (E' := [(17, .ro false l), (21, .ro false l)]) key (id := 8) (ty := 5) (m := 64) (nx := 1) (es := l) ?_ hlen hone (by omega) (by simp [mem8]) rfl (s0 := 21) rfl ?_
  · show some (resB (l.map (·.map up))) = _
    unfold resB
    rw [List.length_map, hlen]
  · intro s v hs
    simp only [Env.get_cons, Env.get_nil] at hs ⊢
    split at hs
    · rename_i h; injection hs with hs; subst hs; exact .inl ⟨by simp [h], rfl⟩
    · rename_i h0
      split at hs
      · rename_i h; injection hs with hs; subst hs; exact .inr ⟨rfl, by have := h; simp at this; exact this.symm⟩
      · cases hs
theorem goesFin {l : List (List PV)} (hlen : l.length = 64) (hby : By l) : Goes Try.prog i3.fn.ntmps (.seq (pc 13) (tailS 14 c3)) [(17, .ro false l), (21, .ro false l)] (List.replicate 9 .hole) .ret [(12, .bool true)] (List.replicate 9 .hole) := by
  have hB : Valid (nm [64, 64] [.ro false l, .ro false l]) [] := nil_B
  have holes : ∀ {R : AV → AV → Prop} (n : Nat), All2 (BT R) (List.replicate n .hole) (List.replicate n .hole) := fun {R} n => by
    induction n with
    | zero => exact .nil
    | succ n ih => exact .cons .hole ih
  refine goes_run tab_ok mixed (v := nm [64, 64] [.ro false l, .ro false l]) (fun z hz σ => ?_) fin (.cons ⟨rfl, Up.lst (p := .ro false l) hB _ _ _ rfl rfl (by show (64 : Int) = _; rw [hlen]; rfl)⟩ (.cons ⟨rfl, Up.lst (p := .ro false l) hB _ _ _ rfl rfl (by show (64 : Int) = _; rw [hlen]; rfl)⟩ .nil)) (holes 9) (.cons ⟨rfl, Down.same rfl⟩ .nil) ((holes 9).mono fun b b' h => .keep h)
  simp only [kn18, List.mem_cons, List.not_mem_nil, or_false] at hz
  rcases hz with rfl | rfl
  · exact .inl <| call_told (same_call hby σ) (.cons (Down.lsl (p := .ro false l) _ _ _ _ rfl) (.cons (Down.lsl (p := .ro false l) _ _ _ _ rfl) .nil)) (Up.same rfl)
  · exact awakeC _ σ
/-- Too much is to be kept. -/
theorem goesBig (hk : KeP ke ks) (h : 200 < ks.length) (d : Code) : Goes Try.prog i3.fn.ntmps (seqs [pc 3] (.seq (pc 4) d)) [(4, up ke)] [] .ret [(12, .bool true)] [.hole, .hole, .hole] := by
  have hB : Valid (nmD 0 0 0 0 0 ks.length 0 0 0 0 0 0 0 0 0 0 ke ke ke ke ke) C5 := by
    intro f hf
    simp only [C5, List.mem_cons, List.not_mem_nil, or_false] at hf
    subst hf
    show some (AV.bool (decide ((ks.length : Int) > 200))) = some (AV.bool true); rw [decide_eq_true (by omega)]
  have uk : Up (nmD 0 0 0 0 0 ks.length 0 0 0 0 0 0 0 0 0 0 ke ke ke ke ke) (up ke) (.lsl C5 2 5 (.lit 0) []) := Up.lst hB _ _ _ rfl hk.hl rfl
  have z : ∀ {R : AV → AV → Prop}, (∀ p : PV, R (up p) (up p)) → R (.sl 0 0 0 64) (.sl 0 0 0 64) → R (.bool false) (.bool false) → R (.int .i64 0) (.int .i64 0) → R (.sl 1 0 0 64) (.sl 1 0 0 64) → R .nils .nils → All2 (BT R) [bytes 1 zs 64, bytes 1 zs 64, dRow] [bytes 1 zs 64, bytes 1 zs 64, dRow] := by
    intro R hR h1 h2 h3 h4 h5
    have : BT R (bytes 1 zs 64) (bytes 1 zs 64) := by rw [zs_eq]; exact bt_bytes hR _
    exact .cons this (.cons this (.cons (bt_d h1 h2 h3 h4 h5) .nil))
  have g3 : GoesL Try.prog i3.fn.ntmps [pc 3] [(4, up ke)] [] [(4, up ke), (13, .ptr 2 0 0 0), (14, .int .i64 0)] [bytes 1 zs 64, bytes 1 zs 64, dRow] :=
    goesNone (v := nmD 0 0 0 0 0 ks.length 0 0 0 0 0 0 0 0 0 0 ke ke ke ke ke) big3 (.cons ⟨rfl, uk⟩ .nil) .nil (.cons ⟨rfl, Down.lsl _ _ _ _ rfl⟩ (.cons ⟨rfl, Down.same rfl⟩ (.cons ⟨rfl, Down.same rfl⟩ .nil)))
      ((z same_down (Down.same rfl) (Down.same rfl) (Down.same rfl) (Down.same rfl) (Down.same rfl)).mono fun b b' h => .keep h)
  have g4 : Goes Try.prog i3.fn.ntmps (pc 4) [(4, up ke), (13, .ptr 2 0 0 0), (14, .int .i64 0)] [bytes 1 zs 64, bytes 1 zs 64, dRow] .ret [(12, .bool true)] [.hole, .hole, .hole] :=
    goes_run tab_ok mixed (v := nmD 0 0 0 0 0 ks.length 0 0 0 0 0 0 0 0 0 0 ke ke ke ke ke) (fun z hz σ => by
      simp only [kn12, List.mem_singleton] at hz
      subst hz
      exact awakeC _ σ) big4 (.cons ⟨rfl, uk⟩ (.cons ⟨rfl, Up.same rfl⟩ (.cons ⟨rfl, Up.same rfl⟩ .nil))) (z same_get (Up.same rfl) (Up.same rfl) (Up.same rfl) (Up.same rfl) (Up.same rfl)) (.cons ⟨rfl, Down.same rfl⟩ .nil) (.cons (.drop _) (.cons (.drop _) (.cons (.drop _) .nil)))
  exact GoesL.then g3 (Goes.seqX g4 (by simp))
theorem resH (n : Nat) : endA Try.prog i3 (some (.ret, ⟨List.replicate n .hole, [(12, .bool true)]⟩)) = some (.bool true, List.replicate n .hole) := by kernel_rfl
theorem law (ha : ByP a ea) (hb : ByP b eb) (hk : KeP ke ks) (V : Nm → Prop) : ∃ σ', CallIn V Try.prog 3 [up a, up b, .int .i64 at', .int .i64 to, up ke, .int .i64 part] [] (.bool true, σ') := by
  have g0 : GoesL Try.prog i3.fn.ntmps [pc 0] (initE 0 [up a, up b, .int .i64 at', .int .i64 to, up ke, .int .i64 part]) [] (e6 (up a) (up b) (.int .i64 at') (.int .i64 to) (up ke) (.int .i64 part)) [] :=
    goesNone (v := nm [] []) (z0 (up a) (up b) (.int .i64 at') (.int .i64 to) (up ke) (.int .i64 part)) (e6_same (same_get a) (same_get b) rfl rfl (noN_up ke) rfl) .nil (e6_down (same_down a) (same_down b) rfl rfl (noN_up ke) rfl) .nil
  obtain ⟨a', ha', g1⟩ := cutA ha (noN_up b) (q2 := .int .i64 at') (q3 := .int .i64 to) rfl rfl (noN_up ke) (q5 := .int .i64 part) rfl
  obtain ⟨b', hb', g2⟩ := cutB hb (noN_up a') (q2 := .int .i64 at') (q3 := .int .i64 to) rfl rfl (noN_up ke) (q5 := .int .i64 part) rfl
  have g : GoesL Try.prog i3.fn.ntmps [pc 0, pc 1, pc 2] (initE 0 [up a, up b, .int .i64 at', .int .i64 to, up ke, .int .i64 part]) [] (p6 a' b' at' to ke part) [] := (g0.append g1).append g2
  have fin : ∀ (n : Nat), Goes Try.prog i3.fn.ntmps c3 (initE 0 [up a, up b, .int .i64 at', .int .i64 to, up ke, .int .i64 part]) [] .ret [(12, .bool true)] (List.replicate n .hole) → ∃ σ', CallIn V Try.prog 3 [up a, up b, .int .i64 at', .int .i64 to, up ke, .int .i64 part] [] (.bool true, σ') :=
    fun n hgo => ⟨_, callIn_goes (f := 3) (i := i3) (c := c3) (by kernel_rfl) (by kernel_rfl) (by kernel_rfl) (args := [up a, up b, .int .i64 at', .int .i64 to, up ke, .int .i64 part]) (Nat.le_of_ble_eq_true (by kernel_rfl)) hgo (resH n)⟩
  by_cases hbig : 200 < ks.length
  · refine fin 3 ?_
    rw [shape3]
    refine GoesL.then (cs := [pc 0, pc 1, pc 2]) g ?_
    have := goesBig hk hbig (seqs [pc 5, pc 6, pc 7, pc 8, pc 9] (.seq (pc 10) (seqs [pc 11, pc 12] (.seq (pc 13) (tailS 14 c3)))))
    intro V k w ac D hR hE Q hQ
    exact this V k w ac D hR ⟨hE.size, fun t v hv => hE.get t v (by
      simp only [Env.get_cons, Env.get_nil] at hv
      split at hv
      · rename_i h
        have : 4 = t := by simpa using h
        subst this
        injection hv with hv; subst hv; rfl
      · cases hv), hE.defers⟩ hQ
  · have ha30 : (ea.take 30).length ≤ 30 := by simp; omega
    have hb30 : (eb.take 30).length ≤ 30 := by simp; omega
    obtain ⟨r1, x, hx⟩ := place (ea.take 30).length ha30 at'
    obtain ⟨r2, y, hy⟩ := place (eb.take 30).length hb30 to
    have hx3 := hx.h3
    have hy3 := hy.h3
    obtain ⟨mm, hmm, gA⟩ := ahead (part := part) ha' hb' hk rfl rfl rfl ha30 hb30 (by omega) hx hy
    have hym : y + ((eb.take 30).take mm).length ≤ 64 := by rw [List.length_take]; omega
    have hlen := LQ_len (x := x) (ea := ea.take 30) (em := (eb.take 30).take mm) (by omega) hym
    have hby : By (LQ x y (ea.take 30) ((eb.take 30).take mm)) := LQ_by ha'.hb fun e he => hb'.hb e (List.mem_of_mem_take he)
    refine fin 9 ?_
    rw [shape3]
    show Goes Try.prog i3.fn.ntmps (seqs ([pc 0, pc 1, pc 2] ++ [pc 3, pc 4, pc 5, pc 6, pc 7, pc 8, pc 9]) (.seq (pc 10) (seqs [pc 11, pc 12] (.seq (pc 13) (tailS 14 c3))))) _ _ _ _ _
    refine GoesL.then (g.append gA) (Goes.seq ?_ (GoesL.then (goesAgain (part := part) hk hlen hby) (goesFin hlen hby)))
    rw [shape10]
    exact Goes.seq (goesLead _) (Goes.block (Goes.loop (goesLoop ha' hb' ha30 hb30 (by omega) (by omega) hmm (ea.take 30).length 0 (by omega))))
end
end Go.Proofs.Ytnglipioaippoaa.T.Disk
