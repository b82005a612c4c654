/- The weight of a datum: both, for every datum. -/
import Derived.Test.YtkiicnfpogdmgaaDoorVw2
namespace Go.Proofs.YtkiicnfpogdmgaaDoor.T.Wei
open Go.Dx Go.Proofs Same Wgh

section
variable {pa : List PV} {k n : Int} {s : ByteArray} {l : PV} {ln : Nat} {i most acc r k' n' : Int} {s' : ByteArray} {l' : PV} {m' : Nat}
/-- What is left behind the datum's own part. -/
def left0 (s : ByteArray) (L : Int) : Int := if 1 + (s.size : Int) < L then L - (1 + s.size) else 0
theorem whole22 (ha : IsD pa k n s l ln) (hs : s.size ≤ top) {L L' : Int} (hL : 1 ≤ L) (hL2 : L ≤ 4097) {x : AX} (hx : x = .ext 0 ∨ x = .ret) (hg : G22 (left0 s L) 0 l ln x L') : C22 pa L L' := by
  have hv0 : Valid (nmV k n s l ln 0 L (1 + s.size) 0 0 0 s l 0) [] := nil_valid
  have two : ∀ {v : Nm} {b b' : Blk} {M' : Heap}, All2 (BD (Down v)) [b] M' → All2 (BD (Down v)) [b, b'] (M' ++ [.hole]) := by
    intro v b b' M' h
    cases h with
    | cons h t => cases t; exact .cons h (.cons (.drop _) .nil)
  have mem : ∀ {B : List Fact} {z : AV} {v : Int}, Valid (nmV k n s l ln 0 L (1 + s.size) 0 0 0 s l 0) B → Up (nmV k n s l ln 0 L (1 + s.size) 0 0 0 s l 0) (.int .i64 v) z → one z = true → All2 (BT (Up (nmV k n s l ln 0 L (1 + s.size) 0 0 0 s l 0))) [lrow 3 (.int .i64 v), box (pa.map up)] [lrow 3 z, box (dT B)] :=
    fun hB hz h1 => .cons (upR hz h1) (upBox (upV ha hB) rfl)
  have memD : ∀ {B : List Fact} {z : AV} {v : Int}, Down (nmV k n s l ln 0 L (1 + s.size) 0 0 0 s l 0) z (.int .i64 v) → All2 (BD (Down (nmV k n s l ln 0 L (1 + s.size) 0 0 0 s l 0))) [lrow 3 z, box (dT B)] [lrow 3 (.int .i64 v), box (pa.map up)] :=
    fun hz => .cons (.keep (downR hz)) (downBox (downV ha))
  have g1 : Goes Tryd.prog i22.fn.ntmps (pre1 c22) (initE 0 [.agg (pa.map up), .ptr 0 0 0 0]) [lrow 3 (.int .i64 L)] .nrm [(1, .ptr 0 0 0 0), (2, .ptr 1 0 0 0)] [lrow 3 (.int .i64 L), box (pa.map up)] :=
    goes_run tab_ok mixed (v := nmV k n s l ln 0 L (1 + s.size) 0 0 0 s l 0) (fun x hx => by simp at hx) b1 (.cons ⟨rfl, Up.agg (upV ha hv0).map⟩ (.cons ⟨rfl, Up.same rfl⟩ .nil)) (.cons (upR (Up.tok hv0 _ _ rfl) rfl) .nil) (.cons ⟨rfl, Down.same rfl⟩ (.cons ⟨rfl, Down.same rfl⟩ .nil)) (memD (Down.tok _ _ rfl))
  have h0 : some (AV.int .i64 (IntKind.wrap .i64 (1 + (s.size : Int)))) = some (AV.int .i64 (1 + (s.size : Int))) := by
    unfold top at hs
    rw [wrap_in _ (by omega)]
  have g2 : Goes Tryd.prog i22.fn.ntmps (pre2 c22) [(1, .ptr 0 0 0 0), (2, .ptr 1 0 0 0)] [lrow 3 (.int .i64 L), box (pa.map up)] .nrm [(1, .ptr 0 0 0 0), (2, .ptr 1 0 0 0)] [lrow 3 (.int .i64 (left0 s L)), box (pa.map up)] := by
    by_cases hlt : 1 + (s.size : Int) < L
    · have hB : Valid (nmV k n s l ln 0 L (1 + s.size) 0 0 0 s l 0) Wei.B1 := by
        intro f hf
        simp only [Wei.B1, List.mem_cons, List.not_mem_nil, or_false] at hf
        rcases hf with rfl | rfl | rfl
        · exact h0
        · show some (AV.bool (decide (1 + (s.size : Int) < L))) = some (AV.bool true)
          rw [decide_eq_true hlt]
        · show some (AV.int .i64 (IntKind.wrap .i64 (L - (1 + (s.size : Int))))) = some (AV.int .i64 (L - (1 + (s.size : Int))))
          rw [wrap_in _ (by omega)]
      have hl : left0 s L = L - (1 + s.size) := if_pos hlt
      rw [hl]
      exact goes_run tab_ok mixed (v := nmV k n s l ln 0 L (1 + s.size) 0 0 0 s l 0) (fun x hx => by simp at hx) b2 (.cons ⟨rfl, Up.same rfl⟩ (.cons ⟨rfl, Up.same rfl⟩ .nil)) (mem hB (Up.tok hB _ _ rfl) rfl) (.cons ⟨rfl, Down.same rfl⟩ (.cons ⟨rfl, Down.same rfl⟩ .nil)) (memD (Down.tok _ _ rfl))
    · have hB : Valid (nmV k n s l ln 0 L (1 + s.size) 0 0 0 s l 0) Wei.B2 := by
        intro f hf
        simp only [Wei.B2, List.mem_cons, List.not_mem_nil, or_false] at hf
        rcases hf with rfl | rfl | rfl
        · exact h0
        · show some (AV.bool (decide (1 + (s.size : Int) < L))) = some (AV.bool false)
          rw [decide_eq_false hlt]
        · show some (AV.int .i64 (IntKind.wrap .i64 (L - L))) = some (AV.int .i64 0)
          rw [Int.sub_self]; rfl
      have hl : left0 s L = 0 := if_neg hlt
      rw [hl]
      exact goes_run tab_ok mixed (v := nmV k n s l ln 0 L (1 + s.size) 0 0 0 s l 0) (fun x hx => by simp at hx) b2z (.cons ⟨rfl, Up.same rfl⟩ (.cons ⟨rfl, Up.same rfl⟩ .nil)) (mem hB (Up.tok hB _ _ rfl) rfl) (.cons ⟨rfl, Down.same rfl⟩ (.cons ⟨rfl, Down.same rfl⟩ .nil)) (memD (Down.same rfl))
  have g3 : Goes Tryd.prog i22.fn.ntmps r22 [(1, .ptr 0 0 0 0), (2, .ptr 1 0 0 0)] [lrow 3 (.int .i64 (left0 s L)), box (pa.map up)] .nrm (fP l ln 0) (mP (left0 s L)) := by
    have hz : Valid (nmV k n s l ln 0 (left0 s L) 0 0 0 0 s l 0) [] := nil_valid
    have e7 : nmV k n s l ln 0 (left0 s L) 0 0 0 0 s l 0 7 = left0 s L := by show left0 s L - 0 = left0 s L; omega
    exact goes_run tab_ok mixed (v := nmV k n s l ln 0 (left0 s L) 0 0 0 0 s l 0) (fun x hx => by simp at hx) b3 (.cons ⟨rfl, Up.same rfl⟩ (.cons ⟨rfl, Up.same rfl⟩ .nil)) (.cons (upR (Up.tok hz _ _ e7) rfl) (upBox (upV ha hz) rfl)) (downF rfl (Down.lsl _ _ _ _ rfl) (Down.same rfl)) (.cons (.keep (downR (Down.tok _ _ e7))) (.cons (.drop _) .nil))
  have done : ∀ {y : AX}, Goes Tryd.prog i22.fn.ntmps c22 (initE 0 [.agg (pa.map up), .ptr 0 0 0 0]) [lrow 3 (.int .i64 L)] y [] (mP L') → endA Tryd.prog i22 (some (y, ⟨mP L', []⟩)) = some (.tup [], mP L') → C22 pa L L' :=
    fun hgo hres => ⟨[.hole], callIn_goes (f := 22) (i := i22) (c := c22) (by kernel_rfl) (by kernel_rfl) (by kernel_rfl) (args := [.agg (pa.map up), .ptr 0 0 0 0]) (Nat.le_of_ble_eq_true (by kernel_rfl)) hgo hres⟩
  rcases hx with rfl | rfl
  · refine done (y := .nrm) ?_ (bres1 _)
    rw [shape22]
    exact Goes.seq g1 (Goes.seq g2 (Goes.seq g3 (Goes.block (Goes.loop hg))))
  · refine done (y := .ret) ?_ (bres2 _)
    rw [shape22]
    exact Goes.seq g1 (Goes.seq g2 (Goes.seq g3 (Goes.blockR (Goes.loop hg))))

/-- Both loops, from an element on. -/
theorem loopsV {f : Bool} {es : List (List PV)} (ha : IsD pa k n s (.ro f es) es.length) (hd : ∀ q ∈ es, IsD' q) {most : Int} (hm2 : most ≤ 4097) (hw : ∀ q ∈ es, ∀ m, 1 ≤ m → m ≤ 4097 → ∃ r, 1 ≤ r ∧ r ≤ m ∧ C23 q m r ∧ C22 q m (m - r)) :
    ∀ (m j : Nat) (acc L : Int), j + m = es.length → 1 ≤ acc → L = (if acc < most then most - acc else 0) → ∃ n2 x, (x = .ext 0 ∨ x = .ret) ∧ 1 ≤ n2 ∧ G23 most acc j pa n2 ∧ G22 L j (.ro f es) es.length x (most - (if most < n2 then most else n2))
  | 0, j, acc, L, hj, h1, hL => by
    have : j = es.length := by omega
    subst this
    refine ⟨acc, .ext 0, .inl rfl, h1, e1 ha most acc, ?_⟩
    have : L = most - (if most < acc then most else acc) := by
      rw [hL]; split <;> split <;> omega
    rw [← this]
    exact x1 ha L
  | m + 1, j, acc, L, hj, h1, hL => by
    have g1 : es[j]? = some (es[j]'(by omega)) := List.getElem?_eq_getElem (by omega)
    obtain ⟨k', n', s', l', m', hq⟩ := hd _ (List.mem_of_getElem? g1)
    by_cases hlt : acc < most
    · rw [if_pos hlt] at hL
      obtain ⟨r, r1, r2, hC, hC2⟩ := hw _ (List.mem_of_getElem? g1) (most - acc) (by omega) (by omega)
      obtain ⟨n2, x, hx, p1, hg, hg2⟩ := loopsV ha hd hm2 hw m (j + 1) (acc + r) (most - acc - r) (by omega) (by omega) (by split <;> omega)
      refine ⟨n2, x, hx, p1, e3 ha (by omega) g1 hq h1 hlt hm2 r1 r2 hC hg, ?_⟩
      subst hL
      exact x3 ha.top (by omega) g1 hq (by omega) hC2 hg2
    · rw [if_neg hlt] at hL
      subst hL
      refine ⟨acc, .ret, .inr rfl, h1, e2 ha (by omega) hlt, ?_⟩
      have : most - (if most < acc then most else acc) = 0 := by split <;> omega
      rw [this]
      exact x2 (by omega) g1 hq
theorem stepV (ha : IsD pa k n s l ln) (hs : s.size ≤ top) {most : Int} (m1 : 1 ≤ most) (m2 : most ≤ 4097) (h : ∀ f es, l = .ro f es → (∀ q ∈ es, IsD' q) ∧ ∀ q ∈ es, ∀ m, 1 ≤ m → m ≤ 4097 → ∃ r, 1 ≤ r ∧ r ≤ m ∧ C23 q m r ∧ C22 q m (m - r)) :
    ∃ r, 1 ≤ r ∧ r ≤ most ∧ C23 pa most r ∧ C22 pa most (most - r) := by
  have fin : ∀ {n2 : Int} {x : AX}, (x = .ext 0 ∨ x = .ret) → 1 ≤ n2 → G23 most (1 + s.size) 0 pa n2 → G22 (left0 s most) 0 l ln x (most - (if most < n2 then most else n2)) → ∃ r, 1 ≤ r ∧ r ≤ most ∧ C23 pa most r ∧ C22 pa most (most - r) := by
    intro n2 x hx h1 hg hg2
    exact ⟨if most < n2 then most else n2, by split <;> omega, by split <;> omega, whole23 ha hs hg, whole22 ha hs m1 m2 hx hg2⟩
  by_cases h0 : ln = 0
  · subst h0
    refine fin (n2 := 1 + s.size) (.inl rfl) (by omega) (e1 ha most _) ?_
    have : left0 s most = most - (if most < 1 + (s.size : Int) then most else 1 + s.size) := by
      unfold left0; split <;> split <;> omega
    rw [← this]
    exact x1 ha _
  · have isro : ∃ f es, l = .ro f es ∧ es.length = ln := by
      have hp := ha.hlen
      cases l <;> simp [lenP] at hp
      · omega
      · omega
      · exact ⟨_, _, rfl, hp⟩
    obtain ⟨f, es, rfl, h1⟩ := isro
    subst h1
    obtain ⟨hd, hw⟩ := h f es rfl
    obtain ⟨n2, x, hx, p1, hg, hg2⟩ := loopsV ha hd m2 hw es.length 0 (1 + s.size) (left0 s most) (by omega) (by omega) rfl
    exact fin hx p1 hg hg2
end

/-! ### Every datum with short texts -/
section
variable {P : Program}
theorem ptr_isD (D : DT P) {d : Nat} {ps : List PV} (h : PTR P top d 24 ps) (hp : PT P d 24 ps) : IsD' ps := pt_isD D hp
theorem PTR_PT {R : Nat} (hR : R ≤ maxLen) : ∀ (n t : Nat) (ps : List PV), PTR P R n t ps → PT P n t ps
  | 0, _, _, h => h
  | n + 1, t, ps, h => by
    unfold PTR at h
    unfold PT
    split at h
    · rename_i hu; simp only [hu]
    · rename_i hu; simp only [hu]; exact h
    · rename_i hu; simp only [hu]; exact Nat.le_trans h hR
    · rename_i hu; simp only [hu]
    · rename_i hu; simp only [hu]
    · rename_i hu; simp only [hu]; exact ⟨h.1, fun r hr => ⟨(h.2 r hr).1, PTR_PT hR n _ r (h.2 r hr).2⟩⟩
    · rename_i hu; simp only [hu]; exact ⟨h.1, fun f hf => PTR_PT hR n _ _ (h.2 f hf)⟩
    · exact h.elim
/-- A datum's own text, and its elements. -/
theorem ptr_datum (D : DT P) {R d : Nat} {k n : Int} {s : ByteArray} {l : PV} (h : PTR P R (d + 2) 24 (pD k n s l)) : s.size ≤ R ∧ ∀ f es, l = .ro f es → ∀ r ∈ es, PTR P R d 24 r := by
  unfold PTR at h
  rw [D.u24] at h
  simp only [pD] at h
  obtain ⟨_, h⟩ := h
  have h2 := h ⟨"S", 9, 2, false, "", "", 16⟩ (by simp)
  have h3 := h ⟨"L", 22, 3, false, "", "", 32⟩ (by simp)
  simp only [D.z9, D.z22, List.drop_succ_cons, List.drop_zero, List.take_succ_cons, List.take_zero] at h2 h3
  refine ⟨?_, fun f es hl r hr => ?_⟩
  · unfold PTR at h2
    rw [D.u9] at h2
    exact h2
  · subst hl
    unfold PTR at h3
    rw [D.u22] at h3
    cases f <;> simp only at h3
    exact (h3.2 r hr).2
theorem allV (D : DT P) : ∀ (d : Nat) (pa : List PV), PTR P top d 24 pa → ∀ most, 1 ≤ most → most ≤ 4097 → ∃ r, 1 ≤ r ∧ r ≤ most ∧ C23 pa most r ∧ C22 pa most (most - r)
  | 0, pa, h, _, _, _ => (show False from h).elim
  | 1, pa, h, _, _, _ => (pt_one D (PTR_PT (by unfold top maxLen; omega) _ _ _ h)).elim
  | d + 2, pa, h, most, m1, m2 => by
    have hp : PT P (d + 2) 24 pa := PTR_PT (by unfold top maxLen; omega) _ _ _ h
    obtain ⟨k, n, s, l, ln, a1, _, _, _, a2⟩ := pt_datum D hp
    rw [a1.eq] at h
    obtain ⟨hs, he⟩ := ptr_datum D h
    exact stepV a1 hs m1 m2 fun f es hl => ⟨fun q hq => pt_isD D (a2 f es hl q hq), fun q hq m h1 h2 => allV D d q (he f es hl q hq) m h1 h2⟩
end
end Go.Proofs.YtkiicnfpogdmgaaDoor.T.Wei
