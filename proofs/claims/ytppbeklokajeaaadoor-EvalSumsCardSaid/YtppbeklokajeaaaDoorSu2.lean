/- The sums: that a known call is right; the step of the induction. -/
import Derived.Test.YtppbeklokajeaaaDoorSu1
namespace Go.Proofs.YtppbeklokajeaaaDoor.T.Sums
open Go.Dx Go.Proofs

/-- What stands for the number, the fuel, the sum, the fuel behind it. -/
def vC (m L s l : Int) (j : Nat) : Int := match j with
  | 0 => m
  | 1 => L
  | 2 => s
  | _ => l
def C (m L s l : Int) : Prop := CallIn (fun x => x = vC m L s l) Tryd.prog 28 argsC (Hc (t0 0) (t0 1)) (resC (t0 2), Hc (t0 0) (t0 3))

theorem eqEs_eq : ∀ {a b : List (List AV)}, eqEs a b = true → a = b
  | [], [], _ => rfl
  | a :: r, b :: s, h => by simp only [eqEs, Bool.and_eq_true] at h; rw [eqAs_eq h.1, eqEs_eq h.2]
theorem eqMs_eq : ∀ {a b : List (AV × AV)}, eqMs a b = true → a = b
  | [], [], _ => rfl
  | (a, b) :: r, (a', b') :: s, h => by simp only [eqMs, Bool.and_eq_true] at h; rw [eqA_eq h.1.1, eqA_eq h.1.2, eqMs_eq h.2]
theorem eqBk_eq : ∀ {a b : Blk}, eqBk a b = true → a = b
  | .row a b es l n, .row a' b' es' l' n', h => by
    simp only [eqBk, Bool.and_eq_true, decide_eq_true_eq] at h
    obtain ⟨⟨⟨⟨rfl, rfl⟩, rfl⟩, rfl⟩, h⟩ := h
    rw [eqEs_eq h]
  | .mp es, .mp es', h => by simp only [eqBk] at h; rw [eqMs_eq h]
  | .hole, b, h => by cases b <;> cases h
  | .row _ _ _ _ _, .hole, h => by cases h
  | .row _ _ _ _ _, .mp _, h => by cases h
  | .mp _, .hole, h => by cases h
  | .mp _, .row _ _ _ _ _, h => by cases h
theorem chk_get {σ : Heap} {ren : Nat → Nat} {tv : IntKind → Nat → AV} : ∀ {l : List Blk} {i : Nat}, chk σ ren tv i l = true → ∀ (j : Nat) (b : Blk), l[j]? = some b → σ[ren (i + j)]? = some (trB ren tv b)
  | [], i, _, j, b, hb => by simp at hb
  | x :: r, i, h, j, b, hb => by
    simp only [chk, Bool.and_eq_true] at h
    rcases j with _ | j
    · simp at hb; subst hb
      have h1 := h.1
      split at h1
      · rename_i b' hb'
        rw [Nat.add_zero, hb', eqBk_eq h1]
      · cases h1
    · have := chk_get h.2 j b (by simpa using hb)
      rw [show i + 1 + j = i + (j + 1) by omega] at this
      exact this

theorem inv_of {n : Nat} {ren : Nat → Nat} (hinj : ∀ id id', id < n → id' < n → ren id = ren id' → id = id') : ∃ inv : Nat → Option Nat, ∀ a id, inv a = some id ↔ id < n ∧ ren id = a := by
  classical
  refine ⟨fun a => if h : ∃ id, id < n ∧ ren id = a then some (Classical.choose h) else none, fun a id => ?_⟩
  constructor
  · intro h
    simp only at h
    split at h
    · rename_i hex
      injection h with h; subst h
      exact Classical.choose_spec hex
    · cases h
  · rintro ⟨h1, h2⟩
    have hex : ∃ id, id < n ∧ ren id = a := ⟨id, h1, h2⟩
    simp only [dif_pos hex]
    have := Classical.choose_spec hex
    rw [hinj _ _ this.1 h1 (this.2.trans h2.symm)]

theorem ovr_ok {V : (Nat → Int) → Prop} {m L s l : Int} (hC : C m L s l) {R : List Nat} (hR : R.length = 5) {tv : IntKind → Nat → AV} (hone : ∀ i j, one (tv i j) = true)
    (hto : ∀ (k : Kn V) i j u, VRel k (tv i j) u → u = .int i (vC m L s l j)) (hfrom : ∀ (k : Kn V) i j, VRel k (tv i j) (.int i (vC m L s l j)))
    (f : FuncId) (args : List AV) (σ : Heap) (r : AV × Heap) (h : ovr28 R tv f args σ = some r) : CallIn V Tryd.prog f args σ r ∧ f = 28 := by
  unfold ovr28 at h
  split at h
  · rename_i iM a b c mm t iA o1 o2 o3 hf
    have hf : f = 28 := Nat.eq_of_beq_eq_true hf
    subst hf
    split at h
    · rename_i hc
      simp only [Bool.and_eq_true, decide_eq_true_eq] at hc
      obtain ⟨⟨hargs, hnd⟩, hchk⟩ := hc
      injection h with h; subst h
      rw [eqAs_eq hargs]
      have hlen : (R ++ [iA]).length = 6 := by simp [hR]
      have hinj : ∀ id id', id < 6 → id' < 6 → renL (R ++ [iA]) id = renL (R ++ [iA]) id' → id = id' := by
        intro id id' h1 h2 he
        refine (List.getElem?_inj (l := R ++ [iA]) (i := id) (j := id') (by omega) hnd).1 ?_
        unfold renL at he
        rw [List.getElem?_eq_getElem (by omega), List.getElem?_eq_getElem (by omega)] at he ⊢
        simp only [Option.getD_some] at he
        rw [he]
      obtain ⟨inv, hinv⟩ := inv_of hinj
      have get := fun j b hb => chk_get hchk j b hb
      simp only [Nat.zero_add] at get
      have h0lt : renL (R ++ [iA]) 0 < σ.length := (List.getElem?_eq_some_iff.1 (get 0 _ rfl)).1
      refine ⟨ren_ok (n := 6) (ren := renL (R ++ [iA])) (tv := tv) (v := vC m L s l) (B0 := []) hC rfl rfl (fun f hf => by simp at hf) hinv (by kernel_rfl) (by kernel_rfl) (by kernel_rfl) (by kernel_rfl) get ?_ ?_ (by simp) hone hto hfrom, rfl⟩
      · intro id b hid hb
        rcases id with _ | id
        · have hb' : b = mach 1 (t0 3) := by
            have : some (mach 1 (t0 3)) = some b := hb
            injection this with this; exact this.symm
          subst hb'
          rw [List.getElem?_set_self h0lt]
        · have hne : renL (R ++ [iA]) 0 ≠ renL (R ++ [iA]) (id + 1) := fun he => by have := hinj 0 (id + 1) (by omega) hid he; omega
          rw [List.getElem?_set_ne hne]
          exact get (id + 1) b hb
      · intro a' ha'
        have hne : renL (R ++ [iA]) 0 ≠ a' := fun he => by
          have := (hinv a' 0).2 ⟨by omega, he⟩
          rw [ha'] at this; cases this
        rw [List.getElem?_set_ne hne]
    · cases h
  · cases h
end Go.Proofs.YtppbeklokajeaaaDoor.T.Sums
