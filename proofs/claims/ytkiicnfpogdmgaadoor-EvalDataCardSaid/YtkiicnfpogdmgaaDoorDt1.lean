/- The law on valid data and their weights, for every datum with short texts. -/
import Derived.Test.YtkiicnfpogdmgaaDoorFm2
import Derived.Test.YtkiicnfpogdmgaaDoorWg2
namespace Go.Proofs.YtkiicnfpogdmgaaDoor.T.Dat
open Go.Dx Go.Proofs Same Wgh Wei Frm

noncomputable def c12 : Code := Tryd.f12.body.get!
noncomputable def c11 : Code := Tryd.f11.body.get!
noncomputable def c9 : Code := Tryd.f9.body.get!
noncomputable def c10 : Code := Tryd.f10.body.get!
noncomputable def c3 : Code := Tryd.f3.body.get!
def W : List Fact := [⟨.sub, .i64, .lit 4097, .tok 16, .tok 8⟩]
def Q (t : Bool) : List Fact := [⟨.leq, .i64, .tok 8, .lit 4096, .bool t⟩]
def Z : List Fact := [⟨.eql, .i64, .tok 8, .tok 8, .bool true⟩]
theorem d12 : run i12 [(23, [.agg (dT []), .int .i64 4097], .tok [] .i64 8)] [2] c12 (initE 0 [.agg (dT [])]) [] = some (.ret, [(2, .tok [] .i64 8)], [box (dT [])]) := by kernel_rfl
theorem d11 : runO Tryd.prog tab i11 (ovrN 22 (.agg (dT W)) 3 (.int .i64 4097) (.tok W .i64 16)) [2] c11 (initE 0 [.agg (dT W)]) [] = some (.ret, [(2, .tok W .i64 8)], [box (dT W), lrow 3 (.tok W .i64 16)]) := by kernel_rfl
theorem d9 (t b : Bool) : run i9 [(11, [.agg (dT (Q t))], .tok (Q t) .i64 8), (20, [.agg (dT (Q t))], .bool b)] [2] c9 (initE 0 [.agg (dT (Q t))]) [] = some (.ret, [(2, .bool (t && b))], [box (dT (Q t))]) := by cases t <;> cases b <;> kernel_rfl
theorem d10 (t b : Bool) : run i10 [(12, [.agg (dT (Q t))], .tok (Q t) .i64 8), (21, [.agg (dT (Q t))], .bool b)] [2] c10 (initE 0 [.agg (dT (Q t))]) [] = some (.ret, [(2, .bool (t && b))], [box (dT (Q t))]) := by cases t <;> cases b <;> kernel_rfl
def known (x y : Bool) : List (FuncId × List AV × AV) := [(7, [.agg (dT Z)], .bool x), (8, [], .bool true), (9, [.agg (dT Z)], .bool y), (10, [.agg (dT Z)], .bool y), (11, [.agg (dT Z)], .tok Z .i64 8), (12, [.agg (dT Z)], .tok Z .i64 8)]
theorem d3 (x y : Bool) : run i3 (known x y) [2] c3 (initE 0 [.agg (dT Z)]) [] = some (.ret, [(2, .bool true)], [box (dT Z)]) := by cases x <;> cases y <;> kernel_rfl
theorem r12 (n : Int) : endA Tryd.prog i12 (some (.ret, ⟨[.hole], [(2, .int .i64 n)]⟩)) = some (.int .i64 n, [.hole]) := by kernel_rfl
theorem r11 (n : Int) : endA Tryd.prog i11 (some (.ret, ⟨[.hole, .hole], [(2, .int .i64 n)]⟩)) = some (.int .i64 n, [.hole, .hole]) := by kernel_rfl
theorem r9 (b : Bool) : endA Tryd.prog i9 (some (.ret, ⟨[.hole], [(2, .bool b)]⟩)) = some (.bool b, [.hole]) := by cases b <;> kernel_rfl
theorem r10 (b : Bool) : endA Tryd.prog i10 (some (.ret, ⟨[.hole], [(2, .bool b)]⟩)) = some (.bool b, [.hole]) := by cases b <;> kernel_rfl
theorem r3 (b : Bool) : endA Tryd.prog i3 (some (.ret, ⟨[.hole], [(2, .bool b)]⟩)) = some (.bool b, [.hole]) := by cases b <;> kernel_rfl

def Ci (f : FuncId) (pa : List PV) (r : Int) : Prop := ∀ (V : Nm → Prop) (σ : Heap), CallIn V Tryd.prog f [.agg (pa.map up)] σ (.int .i64 r, σ)
section
variable {pa : List PV} {k n : Int} {s : ByteArray} {l : PV} {ln : Nat}
theorem weight12 (ha : IsD pa k n s l ln) {r : Int} (hC : C23 pa 4097 r) : Ci 12 pa r := by
  have h0 : Valid (nmV k n s l ln 0 4097 0 r 0 0 s l 0) [] := nil_valid
  have hgo : Goes Tryd.prog i12.fn.ntmps c12 (initE 0 [.agg (pa.map up)]) [] .ret [(2, .int .i64 r)] [.hole] :=
    goes_run tab_ok mixed (v := nmV k n s l ln 0 4097 0 r 0 0 s l 0) (fun x hx σ => by
      rw [List.mem_singleton] at hx
      subst hx
      exact .inl <| call_told (hC _ σ) (.cons (Down.agg (downV ha).mapR) (.cons (Down.same rfl) .nil)) (Up.tok h0 _ _ rfl)) d12 (.cons ⟨rfl, Up.agg (upV ha h0).map⟩ .nil) .nil (.cons ⟨rfl, Down.tok _ _ rfl⟩ .nil) dropBox
  intro V σ
  have := callIn_goes (f := 12) (i := i12) (c := c12) (by kernel_rfl) (by kernel_rfl) (by kernel_rfl) (args := [.agg (pa.map up)]) (Nat.le_of_ble_eq_true (by kernel_rfl)) hgo (r12 r) (V := V)
  exact call_any this (by simp [loVs, loV, loVs_ups]) rfl σ
theorem weight11 (ha : IsD pa k n s l ln) {r : Int} (h1 : 1 ≤ r) (h2 : r ≤ 4097) (hC : C22 pa 4097 (4097 - r)) : Ci 11 pa r := by
  have hW : Valid (nmV k n s l ln 0 4097 0 r 0 0 s l 0) W := by
    intro f hf
    simp only [W, List.mem_cons, List.not_mem_nil, or_false] at hf
    subst hf
    show some (AV.int .i64 (IntKind.wrap .i64 (4097 - (4097 - 0 - r)))) = some (AV.int .i64 r)
    rw [wrap_in _ (by omega)]
    congr 2; omega
  have e16 : nmV k n s l ln 0 4097 0 r 0 0 s l 0 16 = 4097 - r := by show (4097 : Int) - 0 - r = 4097 - r; omega
  obtain ⟨junk, hC⟩ := hC
  have ho := ovrN_ok (P := Tryd.prog) (v := nmV k n s l ln 0 4097 0 r 0 0 s l 0) (g := 22) (a := .agg (dT W)) (ty := 3) (x := .int .i64 4097) (x' := .tok W .i64 16) hC (Down.agg (downV ha).mapR) (Down.same rfl) (Up.tok hW _ _ e16) rfl
  have hgo : Goes Tryd.prog i11.fn.ntmps c11 (initE 0 [.agg (pa.map up)]) [] .ret [(2, .int .i64 r)] [.hole, .hole] :=
    goes_runO tab_ok mixed (v := nmV k n s l ln 0 4097 0 r 0 0 s l 0) (fun f args σ r h => (ho f args σ r h).1) (fun f args σ r hm h => absurd (show modesOf tab 22 = 0 by kernel_rfl) (by rw [(ho f args σ r h).2] at hm; exact hm)) d11
      (.cons ⟨rfl, Up.agg (upV ha hW).map⟩ .nil) .nil (.cons ⟨rfl, Down.tok _ _ rfl⟩ .nil) (.cons (.drop _) (.cons (.drop _) .nil))
  intro V σ
  have := callIn_goes (f := 11) (i := i11) (c := c11) (by kernel_rfl) (by kernel_rfl) (by kernel_rfl) (args := [.agg (pa.map up)]) (Nat.le_of_ble_eq_true (by kernel_rfl)) hgo (r11 r) (V := V)
  exact call_any this (by simp [loVs, loV, loVs_ups]) rfl σ
theorem hQ {r : Int} : Valid (nmV k n s l ln 0 4097 0 r 0 0 s l 0) (Q (decide (r ≤ 4096))) := by
  intro f hf
  simp only [Q, List.mem_cons, List.not_mem_nil, or_false] at hf
  subst hf
  rfl
theorem valid9 (ha : IsD pa k n s l ln) {r : Int} {b : Bool} (h1 : Ci 11 pa r) (h2 : Cf 20 pa b) : Cf 9 pa (decide (r ≤ 4096) && b) := by
  have hgo : Goes Tryd.prog i9.fn.ntmps c9 (initE 0 [.agg (pa.map up)]) [] .ret [(2, .bool (decide (r ≤ 4096) && b))] [.hole] :=
    goes_run tab_ok mixed (v := nmV k n s l ln 0 4097 0 r 0 0 s l 0) (fun x hx σ => by
      simp only [List.mem_cons, List.not_mem_nil, or_false] at hx
      rcases hx with rfl | rfl
      · exact .inl <| call_told (h1 _ σ) (.cons (Down.agg (downV ha).mapR) .nil) (Up.tok hQ _ _ rfl)
      · exact .inl <| call_told (h2 _ σ) (.cons (Down.agg (downV ha).mapR) .nil) (Up.same rfl)) (d9 _ b) (.cons ⟨rfl, Up.agg (upV ha hQ).map⟩ .nil) .nil e2_down dropBox
  intro V σ
  have := callIn_goes (f := 9) (i := i9) (c := c9) (by kernel_rfl) (by kernel_rfl) (by kernel_rfl) (args := [.agg (pa.map up)]) (Nat.le_of_ble_eq_true (by kernel_rfl)) hgo (r9 _) (V := V)
  exact call_any this (by simp [loVs, loV, loVs_ups]) rfl σ
theorem valid10 (ha : IsD pa k n s l ln) {r : Int} {b : Bool} (h1 : Ci 12 pa r) (h2 : Cf 21 pa b) : Cf 10 pa (decide (r ≤ 4096) && b) := by
  have hgo : Goes Tryd.prog i10.fn.ntmps c10 (initE 0 [.agg (pa.map up)]) [] .ret [(2, .bool (decide (r ≤ 4096) && b))] [.hole] :=
    goes_run tab_ok mixed (v := nmV k n s l ln 0 4097 0 r 0 0 s l 0) (fun x hx σ => by
      simp only [List.mem_cons, List.not_mem_nil, or_false] at hx
      rcases hx with rfl | rfl
      · exact .inl <| call_told (h1 _ σ) (.cons (Down.agg (downV ha).mapR) .nil) (Up.tok hQ _ _ rfl)
      · exact .inl <| call_told (h2 _ σ) (.cons (Down.agg (downV ha).mapR) .nil) (Up.same rfl)) (d10 _ b) (.cons ⟨rfl, Up.agg (upV ha hQ).map⟩ .nil) .nil e2_down dropBox
  intro V σ
  have := callIn_goes (f := 10) (i := i10) (c := c10) (by kernel_rfl) (by kernel_rfl) (by kernel_rfl) (args := [.agg (pa.map up)]) (Nat.le_of_ble_eq_true (by kernel_rfl)) hgo (r10 _) (V := V)
  exact call_any this (by simp [loVs, loV, loVs_ups]) rfl σ
end
theorem law {P : Program} (D : DT P) {d : Nat} {pa : List PV} (h : PTR P top d 24 pa) (V : Nm → Prop) : CallIn V Tryd.prog 3 [.agg (pa.map up)] [] (.bool true, [.hole]) := by
  have hp : PT P d 24 pa := PTR_PT (by unfold top maxLen; omega) _ _ _ h
  obtain ⟨k, n, s, l, ln, ha⟩ := pt_isD D hp
  obtain ⟨x, hx⟩ := allS D hp
  obtain ⟨r, q1, q2, hr1, hr2⟩ := allV D d pa h 4097 (by omega) (by omega)
  obtain ⟨b, hb1, hb2⟩ := allK D d pa hp
  have w12 := weight12 ha hr1
  have w11 := weight11 ha q1 q2 hr2
  have v9 := valid9 ha w11 hb1
  have v10 := valid10 ha w12 hb2
  have hZ : Valid (nmV k n s l ln 0 4097 0 r 0 0 s l 0) Z := by
    intro f hf
    simp only [Z, List.mem_cons, List.not_mem_nil, or_false] at hf
    subst hf
    show some (AV.bool (r == r)) = some (AV.bool true)
    simp
  have dd : Down (nmV k n s l ln 0 4097 0 r 0 0 s l 0) (.agg (dT Z)) (.agg (pa.map up)) := Down.agg (downV ha).mapR
  have hgo : Goes Tryd.prog i3.fn.ntmps c3 (initE 0 [.agg (pa.map up)]) [] .ret [(2, .bool true)] [.hole] := by
    refine goes_run tab_ok mixed (v := nmV k n s l ln 0 4097 0 r 0 0 s l 0) (fun z hz σ => ?_) (d3 x (decide (r ≤ 4096) && b)) (.cons ⟨rfl, Up.agg (upV ha hZ).map⟩ .nil) .nil e2_down dropBox
    simp only [known, List.mem_cons, List.not_mem_nil, or_false] at hz
    rcases hz with rfl | rfl | rfl | rfl | rfl | rfl
    · exact .inl <| call_told (hx _ σ) (.cons dd .nil) (Up.same rfl)
    · exact awakeC _ σ
    · exact .inl <| call_told (v9 _ σ) (.cons dd .nil) (Up.same rfl)
    · exact .inl <| call_told (v10 _ σ) (.cons dd .nil) (Up.same rfl)
    · exact .inl <| call_told (w11 _ σ) (.cons dd .nil) (Up.tok hZ _ _ rfl)
    · exact .inl <| call_told (w12 _ σ) (.cons dd .nil) (Up.tok hZ _ _ rfl)
  exact callIn_goes (f := 3) (i := i3) (c := c3) (by kernel_rfl) (by kernel_rfl) (by kernel_rfl) (args := [.agg (pa.map up)]) (Nat.le_of_ble_eq_true (by kernel_rfl)) hgo (r3 true)
end Go.Proofs.YtkiicnfpogdmgaaDoor.T.Dat
