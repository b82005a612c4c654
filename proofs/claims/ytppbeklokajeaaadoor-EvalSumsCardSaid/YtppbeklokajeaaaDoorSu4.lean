/- The sums: every number. -/
import Derived.Test.YtppbeklokajeaaaDoorSu3
namespace Go.Proofs.YtppbeklokajeaaaDoor.T.Sums
open Go.Dx Go.Proofs

theorem vZ10 (L : Int) : vZ L 10 = L := by simp [vZ]
theorem zero {L : Int} (hL : 5 ≤ L) (hL2 : L ≤ 1000000000) : C 0 L 0 (L - 5) := by
  have hB : Valid (vZ L) factsZ := by
    intro f hf
    simp only [factsZ, List.mem_cons] at hf
    rcases hf with rfl | hf
    · rfl
    · refine fuel_valid (A := L) 5 10 (fun i hi => ?_) (by omega) hL2 f hf
      unfold vZ
      rw [if_neg (by omega), show 10 + i - 10 = i by omega]
  obtain ⟨⟨r, σ1⟩, h1, h2⟩ := Option.map_eq_some_iff.1 zeroK
  simp only [Prod.mk.injEq] at h2
  obtain ⟨rfl, h2⟩ := h2
  have hin : CallIn (fun x => x = vZ L) Tryd.prog 28 argsC (Hc (.tok factsZ .i64 0) (.tok factsZ .i64 10)) (resC (.int .i64 0), σ1) :=
    bodyW_ok tab_ok mixed (fun f args σ r h => by cases h) (fun f args σ r hm h => by cases h) (i := i28) (c := Tryd.f28.body.get!) rfl rfl h1
  have hr : CallIn (fun x => x = vC 0 L 0 (L - 5)) Tryd.prog 28 argsC (Hc (t0 0) (t0 1)) (resC (.int .i64 0), Hc (t0 0) (t0 3)) := by
    refine ren_ok (n := 6) (ren := fun x => x) (tv := tvC (vZ L) 0 10 0 15) (v := vZ L) (B0 := factsZ) (σ := Hc (t0 0) (t0 1)) (σ' := Hc (t0 0) (t0 3)) hin rfl rfl hB (inv := fun a => if a < 6 then some a else none) idInv (by kernel_rfl) (by kernel_rfl) (by kernel_rfl) (by rw [h2]; kernel_rfl) ?_ ?_ ?_ rfl (tvC_one _ 0 10 0 15)
      (tvC_to rfl (vZ10 L) rfl rfl) (tvC_from rfl (vZ10 L) rfl rfl)
    · intro id b hb
      rcases id with _ | _ | _ | _ | _ | _ | id
      all_goals first | (cases hb; rfl) | (simp [Hc] at hb)
    · intro id b hid hb
      have hb' : (σ1.take 6)[id]? = some b := by rw [List.getElem?_take, if_pos hid]; exact hb
      rw [h2] at hb'
      rcases id with _ | _ | _ | _ | _ | _ | id
      all_goals first | (cases hb'; rfl) | omega
    · intro a ha
      split at ha
      · cases ha
      · rename_i hlt
        rw [List.getElem?_eq_none (by simp [Hc]; omega), List.getElem?_eq_none (by simp [Hc]; omega)]
  -- the sum by its name
  refine ⟨hr.1, fun k w us hR hv => Calls.mono (hr.2 k w us hR hv) fun e w' he => ?_⟩
  obtain ⟨k', u, rfl, hu, hst⟩ := he
  refine ⟨k', u, rfl, ?_, hst⟩
  have h0 : VRel k' (t0 2) (.int .i64 0) := tok_int k' .i64 2
  have hu : VRel k' (resC (.int .i64 0)) u := hu
  show VRel k' (resC (t0 2)) u
  unfold resC at hu ⊢
  cases hu with
  | tup _ us hl hc =>
  refine .tup _ us hl fun j x y hx hy => ?_
  rcases j with _ | j
  · simp at hx; subst hx
    have h1 := hc 0 _ y rfl hy
    cases h1 with
    | agg _ us2 hl2 hc2 =>
    refine .agg _ us2 hl2 fun j x y hx hy => ?_
    rcases j with _ | _ | j
    · exact hc2 0 x y hx hy
    · simp at hx; subst hx
      have h1 := hc2 1 _ y rfl hy
      cases h1
      exact h0
    · exact hc2 (j + 2) x y hx hy
  · exact hc (j + 1) x y hx hy

def S : Nat → Int
  | 0 => 0
  | m + 1 => (m + 1 : Nat) + S m
theorem S_le : ∀ m : Nat, 0 ≤ S m ∧ S m ≤ (m : Int) * m
  | 0 => by simp [S]
  | m + 1 => by
    have := S_le m
    simp only [S]
    have e : ((m + 1 : Nat) : Int) * (m + 1 : Nat) = (m : Int) * m + 2 * m + 1 := by push_cast; rw [Int.add_mul, Int.mul_add]; omega
    constructor
    · omega
    · rw [e]; push_cast; omega
theorem S_two : ∀ m : Nat, 2 * S m = (m : Int) * (m + 1)
  | 0 => by simp [S]
  | m + 1 => by
    have := S_two m
    simp only [S]
    push_cast
    rw [Int.mul_add, this, ← Int.add_mul]
    rw [Int.mul_comm]
    congr 1
    omega
theorem C_all : ∀ (m : Nat) (L : Int), m ≤ 300 → 10 * (m : Int) + 5 ≤ L → L ≤ 1000000000 → C m L (S m) (L - (10 * m + 5))
  | 0, L, _, h1, h2 => by
    have := zero (L := L) (by omega) h2
    simpa [S] using this
  | m + 1, L, hm, h1, h2 => by
    have ih := C_all m (L - 10) (by omega) (by push_cast at h1; omega) (by omega)
    have hS := S_le m
    have hS2 : S m ≤ 90000 := by
      have hq : (m : Int) * m ≤ 300 * 300 := Int.mul_le_mul (by omega) (by omega) (by omega) (by omega)
      omega
    have e1 : ((m + 1 : Nat) : Int) - 1 = m := by push_cast; omega
    have e2 : L - 10 - (10 * (m : Int) + 5) = L - (10 * ((m + 1 : Nat) : Int) + 5) := by push_cast; omega
    rw [e2] at ih
    rw [← e1] at ih
    have := step (n := ((m + 1 : Nat) : Int)) (L := L) (s := S m) ih (by push_cast; omega) (by push_cast; omega) (by push_cast at h1; omega) h2 hS.1 (by omega)
    exact this
end Go.Proofs.YtppbeklokajeaaaDoor.T.Sums
