/- The law's own count of the parts of a datum; whether it is small. -/
import Derived.Test.YtkiicnfpogdmgaaDoorSa4
namespace Go.Proofs.YtkiicnfpogdmgaaDoor.T.Wgh
open Go.Dx Go.Proofs Same

noncomputable def c19 : Code := Tryd.f19.body.get!
def dT (B : List Fact) : List AV := tD [] B 0 1 0 10 2 1
def eT (B : List Fact) : List AV := tD [] B 11 12 2 14 13 3
def wT (B : List Fact) : List AV := tW [] B 0 1 0 10 2 1 3 (eT B)
def Be : List Fact := [⟨.lss, .i64, .tok 3, .tok 2, .bool false⟩]
def Bf : List Fact := [⟨.lss, .i64, .tok 3, .tok 2, .bool true⟩, ⟨.lss, .i64, .tok 6, .tok 5, .bool false⟩]
def By : List Fact := [⟨.lss, .i64, .tok 3, .tok 2, .bool true⟩, ⟨.lss, .i64, .tok 6, .tok 5, .bool true⟩, ⟨.sub, .i64, .tok 5, .tok 6, .tok 7⟩, ⟨.add, .i64, .tok 6, .tok 8, .tok 9⟩, ⟨.add, .i64, .tok 3, .lit 1, .tok 4⟩]
def tE (B : List Fact) (n i : AV) : Env := [(1, .tok B .i64 5), (2, .ptr 0 0 0 0), (5, n), (6, i)]
def pE (most n i : Int) : Env := [(1, .int .i64 most), (2, .ptr 0 0 0 0), (5, .int .i64 n), (6, .int .i64 i)]
theorem shape : c19 = .seq (pre1 c19) (.seq (pre2 c19) (.seq (.seq (pre3 c19) (.block 0 (.loop (inL (loopB c19))))) (post c19))) := by kernel_rfl
theorem w1 : run i19 [] [1, 2] (pre1 c19) (initE 0 [.agg (dT []), .tok [] .i64 5]) [] = some (.nrm, [(1, .tok [] .i64 5), (2, .ptr 0 0 0 0)], [box (dT [])]) := by kernel_rfl
theorem w2 : run i19 [] [1, 2, 5] (pre2 c19) [(1, .tok [] .i64 5), (2, .ptr 0 0 0 0)] [box (dT [])] = some (.nrm, [(1, .tok [] .i64 5), (2, .ptr 0 0 0 0), (5, .int .i64 1)], [box (dT [])]) := by kernel_rfl
theorem w3 : run i19 [] [1, 2, 5, 6] (pre3 c19) [(1, .tok [] .i64 5), (2, .ptr 0 0 0 0), (5, .int .i64 1)] [box (dT [])] = some (.nrm, tE [] (.int .i64 1) (.int .i64 0), [box (dT [])]) := by kernel_rfl
theorem yes : run i19 [(19, [.agg (eT By), .tok By .i64 7], .tok By .i64 8)] [1, 2, 5, 6] (inL (loopB c19)) (tE By (.tok By .i64 6) (.tok By .i64 3)) [box (wT By)] = some (.nrm, tE By (.tok By .i64 9) (.tok By .i64 4), [box (wT By)]) := by kernel_rfl
theorem fin1 : run i19 [] [5] (inL (loopB c19)) (tE Be (.tok Be .i64 6) (.tok Be .i64 3)) [box (dT Be)] = some (.ext 0, [(5, .tok Be .i64 6)], [box (dT Be)]) := by kernel_rfl
theorem fin2 : run i19 [] [5] (inL (loopB c19)) (tE Bf (.tok Bf .i64 6) (.tok Bf .i64 3)) [box (dT Bf)] = some (.ext 0, [(5, .tok Bf .i64 6)], [box (dT Bf)]) := by kernel_rfl
theorem last : run i19 [] [4] (post c19) [(5, .tok [] .i64 6)] [.hole] = some (.ret, [(4, .tok [] .i64 6)], [.hole]) := by kernel_rfl
theorem res (n : Int) : endA Tryd.prog i19 (some (.ret, ⟨[.hole], [(4, .int .i64 n)]⟩)) = some (.int .i64 n, [.hole]) := by kernel_rfl

/-- What the names mean. -/
def nmW (k n : Int) (s : ByteArray) (l : PV) (ln : Nat) (i most acc r : Int) (k' n' : Int) (s' : ByteArray) (l' : PV) (m' : Nat) : Nm :=
  nm [k, n, ln, i, i + 1, most, acc, most - acc, r, acc + r, s.size, k', n', m', s'.size] [.str s, l, .str s', l']
def Cw (pa : List PV) (most n : Int) : Prop := ∀ (V : Nm → Prop) (σ : Heap), CallIn V Tryd.prog 19 [.agg (pa.map up), .int .i64 most] σ (.int .i64 n, σ)

section
variable {pa : List PV} {k n : Int} {s : ByteArray} {l : PV} {ln : Nat} {i most acc r k' n' : Int} {s' : ByteArray} {l' : PV} {m' : Nat}
theorem upT (ha : IsD pa k n s l ln) {B : List Fact} (hB : Valid (nmW k n s l ln i most acc r k' n' s' l' m') B) : All2 (fun p c => Up (nmW k n s l ln i most acc r k' n' s' l' m') (up p) c) pa (dT B) := by
  rw [ha.eq]
  exact upD hB nil_validT ha.hlen rfl rfl rfl rfl rfl rfl
theorem downT (ha : IsD pa k n s l ln) {B : List Fact} : All2 (fun c p => Down (nmW k n s l ln i most acc r k' n' s' l' m') c (up p)) (dT B) pa := by
  rw [ha.eq]
  exact downD rfl rfl rfl rfl
theorem upBox {v : Nm} {pa : List PV} {ta : List AV} (ha : All2 (fun p c => Up v (up p) c) pa ta) (h1 : ta.all one = true) : All2 (BT (Up v)) [box (pa.map up)] [box ta] := .cons (.row (.cons ha.map .nil) (by simp [h1])) .nil
theorem downBox {v : Nm} {pa : List PV} {ta : List AV} (ha : All2 (fun c p => Down v c (up p)) ta pa) : All2 (BD (Down v)) [box ta] [box (pa.map up)] :=
  .cons (.keep (.row (.cons ha.mapR .nil) (by simp only [List.all_cons, one_all, List.all_nil, Bool.and_self]))) .nil
theorem dropBox {v : Nm} {b : Blk} : All2 (BD (Down v)) [b] [.hole] := .cons (.drop _) .nil
theorem upE {v : Nm} {B : List Fact} {most n i : Int} {x y : AV} (hB : Valid v B) (h5 : v 5 = most) (hx : Up v (.int .i64 n) x) (hy : Up v (.int .i64 i) y) : ET (Up v) (pE most n i) (tE B x y) :=
  .cons ⟨rfl, Up.tok hB _ _ h5⟩ (.cons ⟨rfl, Up.same rfl⟩ (.cons ⟨rfl, hx⟩ (.cons ⟨rfl, hy⟩ .nil)))
theorem downE {v : Nm} {B : List Fact} {most n i : Int} {x y : AV} (h5 : v 5 = most) (hx : Down v x (.int .i64 n)) (hy : Down v y (.int .i64 i)) : ET (Down v) (tE B x y) (pE most n i) :=
  .cons ⟨rfl, Down.tok _ _ h5⟩ (.cons ⟨rfl, Down.same rfl⟩ (.cons ⟨rfl, hx⟩ (.cons ⟨rfl, hy⟩ .nil)))

abbrev G (most n i : Int) (pa : List PV) (n' : Int) : Prop := GoesF Tryd.prog i19.fn.ntmps (inL (loopB c19)) (pE most n i) [box (pa.map up)] (.ext 0) [(5, .int .i64 n')] [.hole]
theorem end1 (ha : IsD pa k n s l ln) (most acc : Int) : G most acc ln pa acc := by
  have hB : Valid (nmW k n s l ln ln most acc 0 0 0 s l 0) Be := by
    intro f hf
    simp only [Be, List.mem_cons, List.not_mem_nil, or_false] at hf
    subst hf
    show some (AV.bool (decide ((ln : Int) < ln))) = some (AV.bool false)
    simp
  exact GoesF.last (goes_run tab_ok mixed (v := nmW k n s l ln ln most acc 0 0 0 s l 0) (fun x hx => by simp at hx) fin1 (upE hB rfl (Up.tok hB _ _ rfl) (Up.tok hB _ _ rfl)) (upBox (upT ha hB) rfl) (.cons ⟨rfl, Down.tok _ _ rfl⟩ .nil) dropBox) (by intro h; cases h)
theorem end2 (ha : IsD pa k n s l ln) {j : Nat} (hj : j < ln) {most acc : Int} (hm : ¬ acc < most) : G most acc j pa acc := by
  have hB : Valid (nmW k n s l ln j most acc 0 0 0 s l 0) Bf := by
    intro f hf
    simp only [Bf, List.mem_cons, List.not_mem_nil, or_false] at hf
    rcases hf with rfl | rfl
    · show some (AV.bool (decide ((j : Int) < ln))) = some (AV.bool true)
      simp [hj]
    · show some (AV.bool (decide (acc < most))) = some (AV.bool false)
      simp [hm]
  exact GoesF.last (goes_run tab_ok mixed (v := nmW k n s l ln j most acc 0 0 0 s l 0) (fun x hx => by simp at hx) fin2 (upE hB rfl (Up.tok hB _ _ rfl) (Up.tok hB _ _ rfl)) (upBox (upT ha hB) rfl) (.cons ⟨rfl, Down.tok _ _ rfl⟩ .nil) dropBox) (by intro h; cases h)
theorem more {f : Bool} {es : List (List PV)} (ha : IsD pa k n s (.ro f es) es.length) {j : Nat} (hj : j < es.length) {q : List PV} (hq : es[j]? = some q) (hd : IsD q k' n' s' l' m') {most acc r n2 : Int} (h1 : 1 ≤ acc) (hm : acc < most) (hm2 : most ≤ 3000) (hr1 : 1 ≤ r) (hr2 : r ≤ most - acc)
    (hC : Cw q (most - acc) r) (hg : G most (acc + r) ((j : Int) + 1) pa n2) : G most acc j pa n2 := by
  have hB : Valid (nmW k n s (.ro f es) es.length j most acc r k' n' s' l' m') By := by
    have ht := ha.top
    unfold maxLen at ht
    intro f hf
    simp only [By, List.mem_cons, List.not_mem_nil, or_false] at hf
    rcases hf with rfl | rfl | rfl | rfl | rfl
    · show some (AV.bool (decide ((j : Int) < (es.length : Int)))) = some (AV.bool true)
      simp [hj]
    · show some (AV.bool (decide (acc < most))) = some (AV.bool true)
      simp [hm]
    · show some (AV.int .i64 (IntKind.wrap .i64 (most - acc))) = some (AV.int .i64 (most - acc))
      rw [wrap_in _ (by omega)]
    · show some (AV.int .i64 (IntKind.wrap .i64 (acc + r))) = some (AV.int .i64 (acc + r))
      rw [wrap_in _ (by omega)]
    · show some (AV.int .i64 (IntKind.wrap .i64 ((j : Int) + 1))) = some (AV.int .i64 ((j : Int) + 1))
      rw [wrap_in _ (by omega)]
  generalize hv : nmW k n s (.ro f es) es.length j most acc r k' n' s' l' m' = v at hB
  have hE := nil_validT (p := v.p)
  have ue : All2 (fun p c => Up v (up p) c) q (eT By) := by rw [hd.eq]; subst hv; exact upD hB hE hd.hlen rfl rfl rfl rfl rfl rfl
  have de : All2 (fun c p => Down v c (up p)) (eT By) q := by rw [hd.eq]; subst hv; exact downD rfl rfl rfl rfl
  have uw : All2 (fun p c => Up v (up p) c) pa (wT By) := by rw [ha.eq]; subst hv; exact upW hB hE rfl rfl rfl rfl rfl rfl rfl hq ue
  have dw : All2 (fun c p => Down v c (up p)) (wT By) pa := by rw [ha.eq]; subst hv; exact downW rfl rfl rfl rfl
  have e3 : v 3 = (j : Int) := by subst hv; rfl
  have e4 : v 4 = (j : Int) + 1 := by subst hv; rfl
  have e5 : v 5 = most := by subst hv; rfl
  have e6 : v 6 = acc := by subst hv; rfl
  have e7 : v 7 = most - acc := by subst hv; rfl
  have e8 : v 8 = r := by subst hv; rfl
  have e9 : v 9 = acc + r := by subst hv; rfl
  refine GoesF.more (goes_run tab_ok mixed (v := v) (fun x hx σ => ?_) yes (upE hB e5 (Up.tok hB _ _ e6) (Up.tok hB _ _ e3)) (upBox uw rfl) (downE e5 (Down.tok _ _ e9) (Down.tok _ _ e4)) (downBox dw)) hg
  rw [List.mem_singleton] at hx
  subst hx
  exact .inl <| call_told (hC _ σ) (.cons (Down.agg de.mapR) (.cons (Down.tok _ _ e7) .nil)) (Up.tok hB _ _ e8)

theorem loops {f : Bool} {es : List (List PV)} (ha : IsD pa k n s (.ro f es) es.length) (hd : ∀ q ∈ es, IsD' q) {most : Int} (hm2 : most ≤ 3000) (hw : ∀ q ∈ es, ∀ m, 1 ≤ m → m ≤ 3000 → ∃ r, 1 ≤ r ∧ r ≤ m ∧ Cw q m r) :
    ∀ (m j : Nat) (acc : Int), j + m = es.length → 1 ≤ acc → acc ≤ most → ∃ n2, 1 ≤ n2 ∧ n2 ≤ most ∧ G most acc j pa n2
  | 0, j, acc, hj, h1, h2 => by
    have : j = es.length := by omega
    subst this
    exact ⟨acc, h1, h2, end1 ha most acc⟩
  | m + 1, j, acc, hj, h1, h2 => by
    by_cases hlt : acc < most
    · have g1 : es[j]? = some (es[j]'(by omega)) := List.getElem?_eq_getElem (by omega)
      obtain ⟨k', n', s', l', m', hq⟩ := hd _ (List.mem_of_getElem? g1)
      obtain ⟨r, r1, r2, hC⟩ := hw _ (List.mem_of_getElem? g1) (most - acc) (by omega) (by omega)
      obtain ⟨n2, p1, p2, hg⟩ := loops ha hd hm2 hw m (j + 1) (acc + r) (by omega) (by omega) (by omega)
      exact ⟨n2, p1, p2, more ha (by omega) g1 hq h1 hlt hm2 r1 r2 hC hg⟩
    · exact ⟨acc, h1, h2, end2 ha (by omega) hlt⟩

theorem whole (ha : IsD pa k n s l ln) {most n2 : Int} (hg : G most 1 0 pa n2) : Cw pa most n2 := by
  have h0 : Valid (nmW k n s l ln 0 most 0 0 0 0 s l 0) [] := nil_valid
  have g1 : Goes Tryd.prog i19.fn.ntmps (pre1 c19) (initE 0 [.agg (pa.map up), .int .i64 most]) [] .nrm [(1, .int .i64 most), (2, .ptr 0 0 0 0)] [box (pa.map up)] :=
    goes_run tab_ok mixed (v := nmW k n s l ln 0 most 0 0 0 0 s l 0) (fun x hx => by simp at hx) w1 (.cons ⟨rfl, Up.agg (upT ha h0).map⟩ (.cons ⟨rfl, Up.tok h0 _ _ rfl⟩ .nil)) .nil (.cons ⟨rfl, Down.tok _ _ rfl⟩ (.cons ⟨rfl, Down.same rfl⟩ .nil)) (downBox (downT ha))
  have g2 : Goes Tryd.prog i19.fn.ntmps (pre2 c19) [(1, .int .i64 most), (2, .ptr 0 0 0 0)] [box (pa.map up)] .nrm [(1, .int .i64 most), (2, .ptr 0 0 0 0), (5, .int .i64 1)] [box (pa.map up)] :=
    goes_run tab_ok mixed (v := nmW k n s l ln 0 most 0 0 0 0 s l 0) (fun x hx => by simp at hx) w2 (.cons ⟨rfl, Up.tok h0 _ _ rfl⟩ (.cons ⟨rfl, Up.same rfl⟩ .nil)) (upBox (upT ha h0) rfl) (.cons ⟨rfl, Down.tok _ _ rfl⟩ (.cons ⟨rfl, Down.same rfl⟩ (.cons ⟨rfl, Down.same rfl⟩ .nil))) (downBox (downT ha))
  have g3 : Goes Tryd.prog i19.fn.ntmps (pre3 c19) [(1, .int .i64 most), (2, .ptr 0 0 0 0), (5, .int .i64 1)] [box (pa.map up)] .nrm (pE most 1 0) [box (pa.map up)] :=
    goes_run tab_ok mixed (v := nmW k n s l ln 0 most 0 0 0 0 s l 0) (fun x hx => by simp at hx) w3 (.cons ⟨rfl, Up.tok h0 _ _ rfl⟩ (.cons ⟨rfl, Up.same rfl⟩ (.cons ⟨rfl, Up.same rfl⟩ .nil))) (upBox (upT ha h0) rfl) (downE rfl (Down.same rfl) (Down.same rfl)) (downBox (downT ha))
  have g4 : Goes Tryd.prog i19.fn.ntmps (post c19) [(5, .int .i64 n2)] [.hole] .ret [(4, .int .i64 n2)] [.hole] :=
    goes_run tab_ok mixed (v := nmW k n s l ln 0 most n2 0 0 0 s l 0) (fun x hx => by simp at hx) last (.cons ⟨rfl, Up.tok nil_valid _ _ rfl⟩ .nil) (.cons .hole .nil) (.cons ⟨rfl, Down.tok _ _ rfl⟩ .nil) dropBox
  have hgo : Goes Tryd.prog i19.fn.ntmps c19 (initE 0 [.agg (pa.map up), .int .i64 most]) [] .ret [(4, .int .i64 n2)] [.hole] := by
    rw [shape]
    exact Goes.seq g1 (Goes.seq g2 (Goes.seq (Goes.seq g3 (Goes.block (Goes.loop hg))) g4))
  intro V σ
  have := callIn_goes (f := 19) (i := i19) (c := c19) (by kernel_rfl) (by kernel_rfl) (by kernel_rfl) (args := [.agg (pa.map up), .int .i64 most]) (Nat.le_of_ble_eq_true (by kernel_rfl)) hgo (res n2) (V := V)
  exact call_any this (by simp [loVs, loV, loVs_ups]) rfl σ
end

theorem allW {P : Program} (D : DT P) : ∀ (d : Nat) (pa : List PV), PT P d 24 pa → ∀ most, 1 ≤ most → most ≤ 3000 → ∃ n, 1 ≤ n ∧ n ≤ most ∧ Cw pa most n
  | 0, pa, h, _, _, _ => (show False from h).elim
  | 1, pa, h, _, _, _ => (pt_one D h).elim
  | d + 2, pa, ha, most, m1, m2 => by
    obtain ⟨k, n, s, l, ln, a1, _, _, _, a2⟩ := pt_datum D ha
    by_cases h0 : ln = 0
    · subst h0
      exact ⟨1, by omega, m1, whole a1 (end1 a1 most 1)⟩
    · have isro : ∃ f es, l = .ro f es ∧ es.length = ln := by
        have hp := a1.hlen
        cases l <;> simp [lenP] at hp
        · omega
        · omega
        · exact ⟨_, _, rfl, hp⟩
      obtain ⟨f, es, rfl, h1⟩ := isro
      subst h1
      obtain ⟨n2, p1, p2, hg⟩ := loops a1 (fun q hq => pt_isD D (a2 f es rfl q hq)) m2 (fun q hq m h1 h2 => allW D d q (a2 f es rfl q hq) m h1 h2) es.length 0 1 (by omega) (by omega) m1
      exact ⟨n2, p1, p2, whole a1 hg⟩
end Go.Proofs.YtkiicnfpogdmgaaDoor.T.Wgh
