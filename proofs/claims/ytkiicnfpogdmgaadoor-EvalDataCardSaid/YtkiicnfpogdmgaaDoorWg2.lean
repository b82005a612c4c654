/- Whether a datum is small; the law that compares data, for every two data. -/
import Derived.Test.YtkiicnfpogdmgaaDoorWg1
import Derived.Test.YtkiicnfpogdmgaaDoorAw
namespace Go.Proofs.YtkiicnfpogdmgaaDoor.T.Wgh
open Go.Dx Go.Proofs Same

noncomputable def c7 : Code := Tryd.f7.body.get!
def Bs (b : Bool) : List Fact := [⟨.lss, .i64, .tok 8, .lit 3000, .bool b⟩]
theorem sm1 (b : Bool) : run i7 [(19, [.agg (dT (Bs b)), .int .i64 3000], .tok (Bs b) .i64 8)] [2] c7 (initE 0 [.agg (dT (Bs b))]) [] = some (.ret, [(2, .bool b)], [box (dT (Bs b))]) := by cases b <;> kernel_rfl
theorem res7 (b : Bool) : endA Tryd.prog i7 (some (.ret, ⟨[.hole], [(2, .bool b)]⟩)) = some (.bool b, [.hole]) := by cases b <;> kernel_rfl
def Cs (pa : List PV) (b : Bool) : Prop := ∀ (V : Nm → Prop) (σ : Heap), CallIn V Tryd.prog 7 [.agg (pa.map up)] σ (.bool b, σ)
theorem small {pa : List PV} {k n : Int} {s : ByteArray} {l : PV} {ln : Nat} (ha : IsD pa k n s l ln) {r : Int} (hC : Cw pa 3000 r) : Cs pa (decide (r < 3000)) := by
  generalize hb : decide (r < 3000) = b
  have hB : Valid (nmW k n s l ln 0 0 0 r 0 0 s l 0) (Bs b) := by
    intro f hf
    simp only [Bs, List.mem_cons, List.not_mem_nil, or_false] at hf
    subst hf
    show some (AV.bool (decide (r < 3000))) = some (AV.bool b)
    rw [hb]
  have hgo : Goes Tryd.prog i7.fn.ntmps c7 (initE 0 [.agg (pa.map up)]) [] .ret [(2, .bool b)] [.hole] :=
    goes_run tab_ok mixed (v := nmW k n s l ln 0 0 0 r 0 0 s l 0) (fun x hx σ => by
      rw [List.mem_singleton] at hx
      subst hx
      exact .inl <| call_told (hC _ σ) (.cons (Down.agg (downT ha).mapR) (.cons (Down.same rfl) .nil)) (Up.tok hB _ _ rfl)) (sm1 b) (.cons ⟨rfl, Up.agg (upT ha hB).map⟩ .nil) .nil (.cons ⟨rfl, Down.same rfl⟩ .nil) dropBox
  intro V σ
  have := callIn_goes (f := 7) (i := i7) (c := c7) (by kernel_rfl) (by kernel_rfl) (by kernel_rfl) (args := [.agg (pa.map up)]) (Nat.le_of_ble_eq_true (by kernel_rfl)) hgo (res7 b) (V := V)
  exact call_any this (by simp [loVs, loV, loVs_ups]) rfl σ
theorem allS {P : Program} (D : DT P) {d : Nat} {pa : List PV} (h : PT P d 24 pa) : ∃ b, Cs pa b := by
  obtain ⟨k, n, s, l, ln, ha⟩ := pt_isD D h
  obtain ⟨r, _, _, hC⟩ := allW D d pa h 3000 (by omega) (by omega)
  exact ⟨_, small ha hC⟩

/-! ### The law -/
/-- The sanity check. -/
theorem awakeC (V : Nm → Prop) (σ : Heap) : CallOK V Tryd.prog 8 [] σ (.bool true, σ) := reck_ok tab_ok mixed 80 8 [] σ _ (awakeAt σ)
noncomputable def c4 : Code := Tryd.f4.body.get!
def tA : List AV := dA [] []
def tB : List AV := dB [] []
def known (a b r : Bool) : List (FuncId × List AV × AV) := [(7, [.agg tA], .bool a), (7, [.agg tB], .bool b), (8, [], .bool true), (13, [.agg tA, .agg tB], .bool r), (14, [.agg tA, .agg tB], .bool r), (13, [.agg tA, .agg tA], .bool true)]
theorem law1 (a b r : Bool) : run i4 (known a b r) [4] c4 (initE 0 [.agg tA, .agg tB]) [] = some (.ret, [(4, .bool true)], [box tA, box tB]) := by cases a <;> cases b <;> cases r <;> kernel_rfl
theorem res4 : endA Tryd.prog i4 (some (.ret, ⟨[.hole, .hole], [(4, .bool true)]⟩)) = some (.bool true, [.hole, .hole]) := by kernel_rfl
theorem law {P : Program} (D : DT P) {d d' : Nat} {pa pb : List PV} (ha : PT P d 24 pa) (hb : PT P d' 24 pb) (V : Nm → Prop) : CallIn V Tryd.prog 4 [.agg (pa.map up), .agg (pb.map up)] [] (.bool true, [.hole, .hole]) := by
  obtain ⟨ka, na, sa, la, ln, a1⟩ := pt_isD D ha
  obtain ⟨kb, nb, sb, lb, lm, b1⟩ := pt_isD D hb
  obtain ⟨x, hx⟩ := allS D ha
  obtain ⟨y, hy⟩ := allS D hb
  obtain ⟨r, r1, r2, _⟩ := allJ D d d' pa pb ha hb
  obtain ⟨r', r3, _, r4⟩ := allJ D d d pa pa ha ha
  have : r' = true := r4 rfl
  subst this
  have h0 := nil_valid (v := nm0 ka na kb nb sa sb la lb ln lm 0)
  have h0' := nil_validT (p := (nm0 ka na kb nb sa sb la lb ln lm 0).p)
  have dA' : Down (nm0 ka na kb nb sa sb la lb ln lm 0) (.agg tA) (.agg (pa.map up)) := Down.agg (All2.mapR (by rw [a1.eq]; exact downD rfl rfl rfl rfl))
  have dB' : Down (nm0 ka na kb nb sa sb la lb ln lm 0) (.agg tB) (.agg (pb.map up)) := Down.agg (All2.mapR (by rw [b1.eq]; exact downD rfl rfl rfl rfl))
  have hgo : Goes Tryd.prog i4.fn.ntmps c4 (initE 0 [.agg (pa.map up), .agg (pb.map up)]) [] .ret [(4, .bool true)] [.hole, .hole] := by
    refine goes_run tab_ok mixed (v := nm0 ka na kb nb sa sb la lb ln lm 0) (fun z hz σ => ?_) (law1 x y r) (.cons ⟨rfl, Up.agg (upA a1 h0 h0').map⟩ (.cons ⟨rfl, Up.agg (upB b1 h0 h0').map⟩ .nil)) .nil e4_down dropMem
    simp only [known, List.mem_cons, List.not_mem_nil, or_false] at hz
    rcases hz with rfl | rfl | rfl | rfl | rfl | rfl
    · exact .inl <| call_told (hx _ σ) (.cons dA' .nil) (Up.same rfl)
    · exact .inl <| call_told (hy _ σ) (.cons dB' .nil) (Up.same rfl)
    · exact awakeC _ σ
    · exact .inl <| call_told (r1 _ σ) (.cons dA' (.cons dB' .nil)) (Up.same rfl)
    · exact .inl <| call_told (r2 _ σ) (.cons dA' (.cons dB' .nil)) (Up.same rfl)
    · exact .inl <| call_told (r3 _ σ) (.cons dA' (.cons dA' .nil)) (Up.same rfl)
  exact callIn_goes (f := 4) (i := i4) (c := c4) (by kernel_rfl) (by kernel_rfl) (by kernel_rfl) (args := [.agg (pa.map up), .agg (pb.map up)]) (Nat.le_of_ble_eq_true (by kernel_rfl)) hgo res4
end Go.Proofs.YtkiicnfpogdmgaaDoor.T.Wgh
