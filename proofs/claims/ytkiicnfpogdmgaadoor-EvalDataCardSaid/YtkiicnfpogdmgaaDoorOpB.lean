/- Arguments that are rows of plain values, told as plain values; how long their texts are. -/
import Derived.Test.YtkiicnfpogdmgaaDoorOpA
import GoSem.ClaimJoined
namespace Go.Dx
open Go.ChangeShapes

/-- What plain values of a type look like, with texts of at most R bytes. -/
def PTR (P : Program) (R : Nat) : Nat → TypeId → List PV → Prop
  | 0, _, _ => False
  | n + 1, t, ps => match P.underlying t, ps with
    | some .bool, [.bool _] => True
    | some (.int k), [.int k' a] => k' = k ∧ (Lit.int k a).wf = true
    | some .string, [.str s] => s.size ≤ R
    | some (.slice _), [.nils] => True
    | some (.slice _), [.emp] => True
    | some (.slice e), [.ro false es] => es.length ≤ maxLen ∧ ∀ r ∈ es, r.length = P.cellsOf e ∧ PTR P R n e r
    | some (.struct fs), ps => ps.length = P.cellsOf t ∧ ∀ f ∈ fs.toList, PTR P R n f.type ((ps.drop f.offset).take (P.cellsOf f.type))
    | _, _ => False
section
variable {H : Type} {enc : TypeId × Value → H} {P : Program} {w : World} {base : Nat} {held : Bool}
theorem weightsAll_get {e : TypeId} {R : Nat} : ∀ {l : List (DataW H)} {d : DataW H}, (DataW.weightsAll P e l).all (· ≤ R) = true → d ∈ l → (d.weights P e).all (· ≤ R) = true
  | [], d, _, h => by simp at h
  | x :: r, d, hw, h => by
    simp only [DataW.weightsAll, List.all_append, Bool.and_eq_true] at hw
    rcases List.mem_cons.1 h with rfl | h
    · exact hw.1
    · exact weightsAll_get hw.2 h
theorem weightsEach_get {R : Nat} : ∀ {ts : List TypeId} {l : List (DataW H)}, (DataW.weightsEach P ts l).all (· ≤ R) = true → ∀ (i : Nat) (t : TypeId) (d : DataW H), ts[i]? = some t → l[i]? = some d → (d.weights P t).all (· ≤ R) = true
  | [], l, _, i, t, d, ht, _ => by simp at ht
  | t0 :: ts, [], _, i, t, d, _, hd => by simp at hd
  | t0 :: ts, x :: r, hw, i, t, d, ht, hd => by
    simp only [DataW.weightsEach, List.all_append, Bool.and_eq_true] at hw
    rcases i with _ | i
    · simp at ht hd; subst ht; subst hd; exact hw.1
    · exact weightsEach_get hw.2 i t d (by simpa using ht) (by simpa using hd)
theorem open_fieldsR {n total R : Nat} {cs : List Value} (hl : total ≤ cs.length) : ∀ {fs : List Field} {off : Nat}, tilesP P fs off = some total →
    (∀ f ∈ fs, ∃ ps : List PV, ps.length = P.cellsOf f.type ∧ PTR P R n f.type ps ∧ PRs w ps ((cs.drop f.offset).take (P.cellsOf f.type)) 0) →
    ∃ ps : List PV, ps.length = total - off ∧ (∀ f ∈ fs, PTR P R n f.type ((ps.drop (f.offset - off)).take (P.cellsOf f.type))) ∧ PRs w ps cs off
  | [], off, h, _ => by
    simp only [tilesP] at h; injection h with h; subst h
    exact ⟨[], by simp, fun f hf => by simp at hf, fun j p c hp => by simp at hp⟩
  | f :: r, off, h, hf => by
    simp only [tilesP] at h
    split at h
    · rename_i ho
      obtain ⟨ps1, h1, h2, h3⟩ := hf f List.mem_cons_self
      obtain ⟨ps2, k1, k2, k3⟩ := open_fieldsR hl h fun g hg => hf g (List.mem_cons_of_mem _ hg)
      obtain ⟨t1, t2⟩ := tilesP_ge h
      refine ⟨ps1 ++ ps2, by simp [h1, k1]; omega, fun g hg => ?_, fun j p c hp hc => ?_⟩
      · rcases List.mem_cons.1 hg with rfl | hg
        · rw [ho, Nat.sub_self, List.drop_zero, List.take_append_of_le_length (by omega), ← h1, List.take_length]
          exact h2
        · have := (t2 g hg).1
          rw [List.drop_append, List.drop_eq_nil_of_le (by omega), List.nil_append, h1, show g.offset - off - P.cellsOf f.type = g.offset - (off + P.cellsOf f.type) by omega]
          exact k2 g hg
      · by_cases hj : j < ps1.length
        · rw [List.getElem?_append_left hj] at hp
          refine h3 j p c hp ?_
          rw [Nat.zero_add, List.getElem?_take, if_pos (by omega), List.getElem?_drop, ho]
          exact hc
        · rw [List.getElem?_append_right (by omega)] at hp
          exact k3 _ p c hp (by rw [show off + P.cellsOf f.type + (j - ps1.length) = off + j by omega]; exact hc)
    · cases h

theorem open_pvR {S : List TypeId} {R : Nat} (hS : okS P S = true) : ∀ (n : Nat) (t : TypeId) (cs : List Value) (x : DataW H × List MemPlace), t ∈ S → DataW.trod enc P w base (fun _ => true) held n t cs = some x → (x.1.weights P t).all (· ≤ R) = true →
    ∃ ps : List PV, ps.length = cs.length ∧ PTR P R n t ps ∧ PRs w ps cs 0 := by
  have sing : ∀ {p : PV} {c : Value}, PRel (fun b => w.heap[b]?) p c → PRs w [p] [c] 0 := by
    intro p c h j p' c' hp hc
    rcases j with _ | j
    · simp at hp hc; subst hp; subst hc; exact h
    · simp at hp
  intro n
  induction n with
  | zero => intro t cs x _ h; simp [DataW.trod] at h
  | succ n ih =>
    intro t cs x ht h hwt
    have ho := List.all_eq_true.1 hS t ht
    unfold okT at ho
    split at ho
    · rename_i hu
      obtain ⟨b, rfl, _⟩ := DataW.trod_bool hu h
      exact ⟨[.bool b], rfl, by simp [PTR, hu], sing (.bool b)⟩
    · rename_i k hu
      obtain ⟨b, rfl, _, hw⟩ := DataW.trod_int hu h
      exact ⟨[.int k b], rfl, by simp [PTR, hu, hw], sing (.int k b)⟩
    · rename_i hu
      obtain ⟨b, rfl, hx, hw⟩ := DataW.trod_string hu h
      subst hx
      have hb : b.size ≤ R := by simpa [DataW.weights] using hwt
      exact ⟨[.str b], rfl, by simp [PTR, hu, hb], sing (.str b)⟩
    · rename_i e hu
      simp only [Bool.and_eq_true, decide_eq_true_eq, List.contains_iff_mem] at ho
      obtain ⟨he, hpos⟩ := ho
      rcases DataW.trod_slice hu h with ⟨rfl, _⟩ | ⟨a, len, cap, elems, rest, m, hm, rfl, hx, _, hlc, hcm, hel, hget, hsp, _⟩
      · exact ⟨[.nils], rfl, by simp [PTR, hu], sing .nils⟩
      · injection hm with hm; subst hm
        have hwe : ∀ (i : Nat) (y : DataW H × List MemPlace), elems[i]? = some y → (y.1.weights P e).all (· ≤ R) = true := by
          intro i y hy
          subst hx
          simp only [DataW.weights, hu, List.all_cons, List.all_append, Bool.and_eq_true] at hwt
          exact weightsAll_get hwt.2.1 (List.mem_map.2 ⟨y, List.mem_of_getElem? hy, rfl⟩)
        -- an element
        have elem : ∀ i, i < len → ∃ cs', cs'.length = P.cellsOf e ∧ (∀ j, j < P.cellsOf e → w.cell? ((a.add (i * P.cellsOf e)).add j) = cs'[j]?) ∧ ∃ ps : List PV, ps.length = cs'.length ∧ PTR P R n e ps ∧ PRs w ps cs' 0 := by
          intro i hi
          have h1 := hget i hi
          rw [List.getElem?_eq_getElem (by omega)] at h1
          obtain ⟨cs', h2, h3⟩ := Option.bind_eq_some_iff.1 h1
          obtain ⟨_, h4, h5⟩ := World.cells?_some h2
          exact ⟨cs', h4, h5, ih e cs' _ he h3 (hwe i _ (List.getElem?_eq_getElem (by omega)))⟩
        by_cases h0 : cap = 0
        · have : len = 0 := by omega
          subst this; subst h0
          exact ⟨[.emp], rfl, by simp [PTR, hu], sing (.emp a)⟩
        · -- the address is plain
          have spot : a.spot = none := by
            by_cases hl0 : 0 < len
            · obtain ⟨cs', h4, h5, _⟩ := elem 0 hl0
              have h6 := h5 0 hpos
              rw [List.getElem?_eq_getElem (by omega)] at h6
              have := World.cell?_spot h6
              unfold Addr.add at this
              cases hs : a.spot with
              | none => rfl
              | some s => simp [hs] at this
            · have hlen0 : len = 0 := by omega
              subst hlen0
              obtain ⟨hr, hg⟩ := hsp rfl
              have h1 := hg 0 (by omega)
              rw [List.getElem?_eq_getElem (by omega)] at h1
              obtain ⟨cs', h2, h3⟩ := Option.bind_eq_some_iff.1 h1
              obtain ⟨_, h4, h5⟩ := World.cells?_some h2
              have h6 := h5 0 hpos
              rw [List.getElem?_eq_getElem (by omega)] at h6
              have := World.cell?_spot h6
              unfold Addr.add at this
              cases hs : a.spot with
              | none => rfl
              | some s => simp [hs] at this
          -- its block
          have blk : ∀ i, i < len → ∃ ps : List PV, ps.length = P.cellsOf e ∧ PTR P R n e ps ∧ ∀ (j : Nat) (p : PV), ps[j]? = some p → ∃ c ty fz v, w.heap[a.block]? = some (.cells c ty fz) ∧ c[a.off + (i * P.cellsOf e + j)]? = some v ∧ PRel (fun b => w.heap[b]?) p v := by
            intro i hi
            obtain ⟨cs', h4, h5, ps, h6, h7, h8⟩ := elem i hi
            refine ⟨ps, by omega, h7, fun j p hj => ?_⟩
            have hjl := (List.getElem?_eq_some_iff.1 hj).1
            have h9 := h5 j (by omega)
            rw [List.getElem?_eq_getElem (by omega), add_eq spot, add_eq rfl] at h9
            obtain ⟨c, ty, fz, hb, hc⟩ := cell_get h9
            simp only [Nat.add_assoc] at hc
            exact ⟨c, ty, fz, _, hb, hc, h8 j p _ hj (by rw [Nat.zero_add]; exact List.getElem?_eq_getElem (by omega))⟩
          obtain ⟨es, hes, hq⟩ := list_of (α := Unit) len blk
          have hmem : ∀ r ∈ es, r.length = P.cellsOf e ∧ PTR P R n e r := by
            intro r hr
            obtain ⟨i, hi⟩ := List.getElem?_of_mem hr
            exact ⟨(hq i r hi).1, (hq i r hi).2.1⟩
          refine ⟨[.ro false es], rfl, by simp only [PTR, hu]; exact ⟨by omega, hmem⟩, ?_⟩
          by_cases hl0 : len = 0
          · have : es = [] := List.eq_nil_of_length_eq_zero (by omega)
            subst this
            have r := PRel.ro (H := fun b => w.heap[b]?) false [] a cap 0 #[] 0 (0, 0) (fun _ _ => undef) spot (fun h => absurd rfl h) (by simp) (by simp) (fun i e h => by simp at h) (fun i e j v h => by simp at h) (fun i e j v h => by simp at h)
            simp only [List.length_nil] at r
            rw [hl0]
            exact sing r
          · obtain ⟨r0, hr0⟩ : ∃ r0, es[0]? = some r0 := ⟨_, List.getElem?_eq_getElem (by omega)⟩
            obtain ⟨q1, q2, q3⟩ := hq 0 r0 hr0
            obtain ⟨p0, hp0⟩ : ∃ p0, r0[0]? = some p0 := ⟨_, List.getElem?_eq_getElem (by omega)⟩
            obtain ⟨c, ty, fz, v0, hb, _, _⟩ := q3 0 p0 hp0
            have get : ∀ (i : Nat) (e' : List PV) (j : Nat) (v : PV), es[i]? = some e' → e'[j]? = some v → ∃ u, c[a.off + (i * P.cellsOf e + j)]? = some u ∧ PRel (fun b => w.heap[b]?) v u := by
              intro i e' j v hi hj
              obtain ⟨c', ty', fz', u, hb', hc', hr'⟩ := (hq i e' hi).2.2 j v hj
              rw [hb] at hb'
              injection hb' with hb'; injection hb' with hb' _ _; subst hb'
              exact ⟨u, hc', hr'⟩
            have r := PRel.ro (H := fun b => w.heap[b]?) false es a cap (P.cellsOf e) c ty fz (fun i j => c[a.off + (i * P.cellsOf e + j)]?.getD undef) spot (fun _ => hb) (by omega) (by simp) (fun i e' hi => (hq i e' hi).1)
              (fun i e' j v hi hj => by obtain ⟨u, hu, _⟩ := get i e' j v hi hj; rw [hu]; rfl) (fun i e' j v hi hj => by obtain ⟨u, hu, hr⟩ := get i e' j v hi hj; rw [hu]; exact hr)
            rw [hes] at r
            exact sing r
    · rename_i fs hu
      simp only [Bool.and_eq_true, List.all_eq_true, beq_iff_eq, List.contains_iff_mem] at ho
      obtain ⟨hf, htile⟩ := ho
      obtain ⟨xs, m, hm, hx, hlen, hxs, hget⟩ := DataW.trod_struct hu h
      injection hm with hm; subst hm
      obtain ⟨_, hb⟩ := tilesP_ge htile
      have hwe : ∀ (i : Nat) (f : Field) (y : DataW H × List MemPlace), fs.toList[i]? = some f → xs[i]? = some y → (y.1.weights P f.type).all (· ≤ R) = true := by
        intro i f y hf hy
        subst hx
        simp only [DataW.weights, hu] at hwt
        exact weightsEach_get hwt i f.type y.1 (by rw [List.getElem?_map, hf]; rfl) (by rw [List.getElem?_map, hy]; rfl)
      obtain ⟨ps, h1, h2, h3⟩ := open_fieldsR (w := w) (n := n) (total := P.cellsOf t) (cs := cs) (by omega) htile fun f hfm => by
        obtain ⟨i, hi⟩ := List.getElem?_of_mem hfm
        have hil := (List.getElem?_eq_some_iff.1 hi).1
        have h4 := hget i f (by simpa using hi)
        rw [List.getElem?_eq_getElem (by simp at hil; omega)] at h4
        obtain ⟨ps, h5, h6, h7⟩ := ih f.type _ _ (hf f hfm) h4 (hwe i f _ hi (List.getElem?_eq_getElem (by simp at hil; omega)))
        refine ⟨ps, ?_, h6, h7⟩
        have := hb f hfm
        rw [h5]; simp; omega
      refine ⟨ps, by omega, ?_, h3⟩
      unfold PTR
      rw [hu]
      have : ps.length = P.cellsOf t := by omega
      split <;> simp_all
    · cases ho
end
end Go.Dx
