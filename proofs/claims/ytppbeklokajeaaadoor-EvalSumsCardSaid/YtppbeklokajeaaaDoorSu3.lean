/- The sums: the induction. -/
import Derived.Test.YtppbeklokajeaaaDoorSu2
namespace Go.Proofs.YtppbeklokajeaaaDoor.T.Sums
open Go.Dx Go.Proofs

theorem wrap_in (n : Int) (h : -9223372036854775808 ≤ n ∧ n ≤ 9223372036854775807) : IntKind.wrap .i64 n = n := by
  have hb : (2 : Int) ^ IntKind.bits .i64 = 18446744073709551616 := rfl
  have hb1 : (2 : Int) ^ (IntKind.bits .i64 - 1) = 9223372036854775808 := rfl
  have hs : IntKind.signed .i64 = true := rfl
  unfold IntKind.wrap
  simp only [hb, hb1, hs, Bool.true_and, decide_eq_true_eq, ge_iff_le]
  split <;> omega
theorem mode28 : modesOf tab 28 = 0 := by kernel_rfl
theorem stepK : (stepR factsS).map (fun x => (x.1, x.2.take 6)) = some (resC (.tok factsS .i64 5), Hc (.tok factsS .i64 0) (.tok factsS .i64 40)) := by kernel_rfl
theorem zeroK : (zeroR factsZ).map (fun x => (x.1, x.2.take 6)) = some (resC (.int .i64 0), Hc (.tok factsZ .i64 0) (.tok factsZ .i64 15)) := by kernel_rfl

theorem fuel_valid {v : Nat → Int} {A : Int} : ∀ (c j : Nat), (∀ i, i ≤ c → v (j + i) = A - (i : Int)) → (c : Int) ≤ A → A ≤ 1000000000 → Valid v (fuelF j c)
  | 0, j, _, _, _ => fun f hf => by simp [fuelF] at hf
  | c + 1, j, hv, h1, h2 => by
    intro f hf
    have e0 := hv 0 (by omega)
    have e1 := hv 1 (by omega)
    simp only [Nat.add_zero, Int.natCast_zero, Int.sub_zero] at e0
    simp only [fuelF, List.mem_cons] at hf
    rcases hf with rfl | rfl | hf
    · show some (AV.bool (v j == 0)) = some (AV.bool false)
      rw [e0]
      have : ¬ A = 0 := by omega
      simp [this]
    · show some (AV.int .i64 (IntKind.wrap .i64 (v j - 1))) = some (AV.int .i64 (v (j + 1)))
      rw [e0, e1, wrap_in _ (by omega)]
      rfl
    · refine fuel_valid (A := A - 1) c (j + 1) (fun i hi => ?_) (by omega) (by omega) f hf
      have := hv (i + 1) (by omega)
      rw [show j + 1 + i = j + (i + 1) by omega, this]
      push_cast
      omega

def vS (n L s l : Int) (j : Nat) : Int := if j = 0 then n else if j = 1 then n - 1 else if j = 4 then s else if j = 5 then n + s else if j = 40 then l else L - ((j - 10 : Nat) : Int)
theorem vS10 (n L s l : Int) : vS n L s l 10 = L := by simp [vS]
def vZ (L : Int) (j : Nat) : Int := if j = 0 then 0 else L - ((j - 10 : Nat) : Int)
def tvC (v : Nat → Int) (a b c d : Nat) (k : IntKind) (j : Nat) : AV := if j = a then .tok [] k 0 else if j = b then .tok [] k 1 else if j = c then .tok [] k 2 else if j = d then .tok [] k 3 else .int k (v j)
theorem tvC_one (v : Nat → Int) (a b c d : Nat) (i : IntKind) (j : Nat) : one (tvC v a b c d i j) = true := by
  unfold tvC
  split
  · rfl
  · split
    · rfl
    · split
      · rfl
      · split <;> rfl
theorem tvC_to {v : Nat → Int} {a b c d : Nat} {m L s l : Int} (ha : v a = m) (hb : v b = L) (hc : v c = s) (hd : v d = l) (k : Kn fun x => x = vC m L s l) (i : IntKind) (j : Nat) (u : Value) (h : VRel k (tvC v a b c d i j) u) : u = .int i (v j) := by
  have hk : k.val = vC m L s l := k.hv
  unfold tvC at h
  split at h
  · rename_i hj; cases h; rw [hk, hj, ha]; rfl
  · split at h
    · rename_i hj; cases h; rw [hk, hj, hb]; rfl
    · split at h
      · rename_i hj; cases h; rw [hk, hj, hc]; rfl
      · split at h
        · rename_i hj; cases h; rw [hk, hj, hd]; rfl
        · cases h; rfl
theorem tok_int {m L s l : Int} (k : Kn fun x => x = vC m L s l) (i : IntKind) (j : Nat) : VRel k (.tok [] i j) (.int i (vC m L s l j)) := by
  have hk : k.val = vC m L s l := k.hv
  have h := VRel.tok (k := k) [] i j (fun f hf => by simp at hf)
  rw [congrFun hk j] at h
  exact h
theorem tvC_from {v : Nat → Int} {a b c d : Nat} {m L s l : Int} (ha : v a = m) (hb : v b = L) (hc : v c = s) (hd : v d = l) (k : Kn fun x => x = vC m L s l) (i : IntKind) (j : Nat) : VRel k (tvC v a b c d i j) (.int i (v j)) := by
  unfold tvC
  split
  · rename_i hj; rw [hj, ha]; exact tok_int k i 0
  · split
    · rename_i hj; rw [hj, hb]; exact tok_int k i 1
    · split
      · rename_i hj; rw [hj, hc]; exact tok_int k i 2
      · split
        · rename_i hj; rw [hj, hd]; exact tok_int k i 3
        · exact .int _ _

theorem idInv (a id : Nat) : (if a < 6 then some a else none) = some id ↔ id < 6 ∧ (fun x : Nat => x) id = a := by
  constructor
  · intro h
    split at h
    · rename_i hlt; injection h with h; subst h; exact ⟨hlt, rfl⟩
    · cases h
  · rintro ⟨h1, rfl⟩
    simp only [if_pos h1]

theorem step {n L s l : Int} (hC : C (n - 1) (L - 10) s l) (hn : 1 ≤ n) (hn2 : n ≤ 1000000) (hL : 10 ≤ L) (hL2 : L ≤ 1000000000) (hs : 0 ≤ s) (hs2 : s ≤ 1000000000) : C n L (n + s) l := by
  have hB : Valid (vS n L s l) factsS := by
    intro f hf
    simp only [factsS, List.mem_cons] at hf
    rcases hf with rfl | rfl | rfl | hf
    · show some (AV.bool (decide (n < 1))) = some (AV.bool false)
      rw [decide_eq_false (by omega)]
    · show some (AV.int .i64 (IntKind.wrap .i64 (n - 1))) = some (AV.int .i64 (n - 1))
      rw [wrap_in _ (by omega)]
    · show some (AV.int .i64 (IntKind.wrap .i64 (n + s))) = some (AV.int .i64 (n + s))
      rw [wrap_in _ (by omega)]
    · refine fuel_valid (A := L) 10 10 (fun i hi => ?_) (by omega) hL2 f hf
      unfold vS
      rw [if_neg (by omega), if_neg (by omega), if_neg (by omega), if_neg (by omega), if_neg (by omega), show 10 + i - 10 = i by omega]
  obtain ⟨⟨r, σ1⟩, h1, h2⟩ := Option.map_eq_some_iff.1 stepK
  simp only [Prod.mk.injEq] at h2
  obtain ⟨rfl, h2⟩ := h2
  have hto : ∀ (k : Kn fun x => x = vS n L s l) i j u, VRel k (tvS factsS i j) u → u = .int i (vC (n - 1) (L - 10) s l j) := by
    intro k i j u h
    have hk : k.val = vS n L s l := k.hv
    rcases j with _ | _ | _ | j <;> (cases h; rw [hk]; rfl)
  have hfrom : ∀ (k : Kn fun x => x = vS n L s l) i j, VRel k (tvS factsS i j) (.int i (vC (n - 1) (L - 10) s l j)) := by
    intro k i j
    have hk : k.val = vS n L s l := k.hv
    have tk : ∀ j', VRel k (.tok factsS i j') (.int i (vS n L s l j')) := fun j' => by
      have h := VRel.tok (k := k) factsS i j' (by rw [hk]; exact hB)
      rw [congrFun hk j'] at h
      exact h
    rcases j with _ | _ | _ | j
    · exact tk 1
    · exact tk 20
    · exact tk 4
    · exact tk 40
  have ho : ∀ f args σ r, ovr28 [0, 1, 2, 3, 4] (tvS factsS) f args σ = some r → CallIn (fun x => x = vS n L s l) Tryd.prog f args σ r ∧ f = 28 :=
    ovr_ok hC rfl (fun i j => by rcases j with _ | _ | _ | j <;> rfl) hto hfrom
  have hin : CallIn (fun x => x = vS n L s l) Tryd.prog 28 argsC (Hc (.tok factsS .i64 0) (.tok factsS .i64 10)) (resC (.tok factsS .i64 5), σ1) :=
    bodyW_ok tab_ok mixed (fun f args σ r h => .inl (ho f args σ r h).1) (fun f args σ r hm h => absurd mode28 (by rw [(ho f args σ r h).2] at hm; exact hm)) (i := i28) (c := Tryd.f28.body.get!) rfl rfl h1
  refine ren_ok (n := 6) (ren := fun x => x) (tv := tvC (vS n L s l) 0 10 5 40) (v := vS n L s l) (B0 := factsS) (σ := Hc (t0 0) (t0 1)) (σ' := Hc (t0 0) (t0 3)) hin rfl rfl hB (inv := fun a => if a < 6 then some a else none) idInv (by kernel_rfl) (by kernel_rfl) (by kernel_rfl) (by rw [h2]; kernel_rfl) ?_ ?_ ?_ rfl (tvC_one _ 0 10 5 40)
    (tvC_to rfl (vS10 n L s l) rfl rfl) (tvC_from rfl (vS10 n L s l) rfl rfl)
  · intro id b hb
    rcases id with _ | _ | _ | _ | _ | _ | id
    all_goals first | (cases hb; rfl) | (simp [Hc] at hb)
  · intro id b hid hb
    have hb' : (σ1.take 6)[id]? = some b := by rw [List.getElem?_take, if_pos hid]; exact hb
    rw [h2] at hb'
    rcases id with _ | _ | _ | _ | _ | _ | id
    all_goals first | (cases hb'; rfl) | omega
  · intro a ha
    split at ha
    · cases ha
    · rename_i hlt
      rw [List.getElem?_eq_none (by simp [Hc]; omega), List.getElem?_eq_none (by simp [Hc]; omega)]
end Go.Proofs.YtppbeklokajeaaaDoor.T.Sums
