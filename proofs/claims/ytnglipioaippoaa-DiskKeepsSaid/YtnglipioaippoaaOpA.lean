/- Arguments that are rows of plain values, told as plain values. -/
import Derived.Test.YtnglipioaippoaaEy1
import Derived.ChangeShapes
namespace Go.Dx
open Go.ChangeShapes

/-- What plain values of a type look like. -/
def PT (P : Program) : Nat → TypeId → List PV → Prop
  | 0, _, _ => False
  | n + 1, t, ps => match P.underlying t, ps with
    | some .bool, [.bool _] => True
    | some (.int k), [.int k' a] => k' = k ∧ (Lit.int k a).wf = true
    | some .string, [.str s] => s.size ≤ maxLen
    | some (.slice _), [.nils] => True
    | some (.slice _), [.emp] => True
    | some (.slice e), [.ro false es] => es.length ≤ maxLen ∧ ∀ r ∈ es, r.length = P.cellsOf e ∧ PT P n e r
    | some (.struct fs), ps => ps.length = P.cellsOf t ∧ ∀ f ∈ fs.toList, PT P n f.type ((ps.drop f.offset).take (P.cellsOf f.type))
    | _, _ => False

def tilesP (P : Program) : List Field → Nat → Option Nat
  | [], n => some n
  | f :: r, n => if f.offset = n then tilesP P r (n + P.cellsOf f.type) else none
def okT (P : Program) (S : List TypeId) (t : TypeId) : Bool := match P.underlying t with
  | some .bool => true
  | some (.int _) => true
  | some .string => true
  | some (.slice e) => S.contains e && decide (0 < P.cellsOf e)
  | some (.struct fs) => fs.toList.all (fun f => S.contains f.type) && (tilesP P fs.toList 0 == some (P.cellsOf t))
  | _ => false
def okS (P : Program) (S : List TypeId) : Bool := S.all (okT P S)

section
variable {H : Type} {enc : TypeId × Value → H} {P : Program} {w : World} {base : Nat} {held : Bool}

theorem tilesP_ge : ∀ {fs : List Field} {n m : Nat}, tilesP P fs n = some m → n ≤ m ∧ ∀ f ∈ fs, n ≤ f.offset ∧ f.offset + P.cellsOf f.type ≤ m
  | [], n, m, h => by simp only [tilesP] at h; injection h with h; subst h; exact ⟨Nat.le_refl _, fun f hf => by simp at hf⟩
  | f :: r, n, m, h => by
    simp only [tilesP] at h
    split at h
    · rename_i hf
      obtain ⟨h1, h2⟩ := tilesP_ge h
      refine ⟨by omega, fun g hg => ?_⟩
      rcases List.mem_cons.1 hg with rfl | hg
      · omega
      · have := h2 g hg; omega
    · cases h

/-- Members told one by one make a list. -/
theorem list_of {α β : Type} {Q : Nat → β → Prop} : ∀ (n : Nat), (∀ i, i < n → ∃ y, Q i y) → ∃ ys : List β, ys.length = n ∧ ∀ i y, ys[i]? = some y → Q i y
  | 0, _ => ⟨[], rfl, fun i y h => by simp at h⟩
  | n + 1, h => by
    obtain ⟨ys, h1, h2⟩ := list_of (α := α) n fun i hi => h i (by omega)
    obtain ⟨y, hy⟩ := h n (by omega)
    refine ⟨ys ++ [y], by simp [h1], fun i z hz => ?_⟩
    by_cases hi : i < n
    · rw [List.getElem?_append_left (by omega)] at hz; exact h2 i z hz
    · rw [List.getElem?_append_right (by omega)] at hz
      have hi' : i - ys.length = 0 := by
        rcases Nat.eq_zero_or_pos (i - ys.length) with h | h
        · exact h
        · rw [List.getElem?_eq_none (by simp; omega)] at hz; cases hz
      rw [hi'] at hz
      simp at hz
      subst hz
      have : i = n := by omega
      subst this
      exact hy

abbrev PRs (w : World) (ps : List PV) (cs : List Value) (off : Nat) : Prop := ∀ (j : Nat) (p : PV) (c : Value), ps[j]? = some p → cs[off + j]? = some c → PRel (fun b => w.heap[b]?) p c

theorem open_fields {n total : Nat} {cs : List Value} (hl : total ≤ cs.length) : ∀ {fs : List Field} {off : Nat}, tilesP P fs off = some total →
    (∀ f ∈ fs, ∃ ps : List PV, ps.length = P.cellsOf f.type ∧ PT P n f.type ps ∧ PRs w ps ((cs.drop f.offset).take (P.cellsOf f.type)) 0) →
    ∃ ps : List PV, ps.length = total - off ∧ (∀ f ∈ fs, PT P n f.type ((ps.drop (f.offset - off)).take (P.cellsOf f.type))) ∧ PRs w ps cs off
  | [], off, h, _ => by
    simp only [tilesP] at h; injection h with h; subst h
    exact ⟨[], by simp, fun f hf => by simp at hf, fun j p c hp => by simp at hp⟩
  | f :: r, off, h, hf => by
    simp only [tilesP] at h
    split at h
    · rename_i ho
      obtain ⟨ps1, h1, h2, h3⟩ := hf f List.mem_cons_self
      obtain ⟨ps2, k1, k2, k3⟩ := open_fields hl h fun g hg => hf g (List.mem_cons_of_mem _ hg)
      obtain ⟨t1, t2⟩ := tilesP_ge h
      refine ⟨ps1 ++ ps2, by simp [h1, k1]; omega, fun g hg => ?_, fun j p c hp hc => ?_⟩
      · rcases List.mem_cons.1 hg with rfl | hg
        · rw [ho, Nat.sub_self, List.drop_zero, List.take_append_of_le_length (by omega), ← h1, List.take_length]
          exact h2
        · have := (t2 g hg).1
          rw [List.drop_append, List.drop_eq_nil_of_le (by omega), List.nil_append, h1, show g.offset - off - P.cellsOf f.type = g.offset - (off + P.cellsOf f.type) by omega]
          exact k2 g hg
      · by_cases hj : j < ps1.length
        · rw [List.getElem?_append_left hj] at hp
          refine h3 j p c hp ?_
          rw [Nat.zero_add, List.getElem?_take, if_pos (by omega), List.getElem?_drop, ho]
          exact hc
        · rw [List.getElem?_append_right (by omega)] at hp
          exact k3 _ p c hp (by rw [show off + P.cellsOf f.type + (j - ps1.length) = off + j by omega]; exact hc)
    · cases h

theorem add_eq {a : Addr} (h : a.spot = none) (i : Nat) : a.add i = ⟨a.block, a.off + i, none⟩ := by
  obtain ⟨b, o, s⟩ := a
  simp only at h; subst h
  unfold Addr.add
  split <;> simp_all
theorem cell_get {w : World} {b o : Nat} {v : Value} (h : w.cell? ⟨b, o, none⟩ = some v) : ∃ c ty fz, w.heap[b]? = some (.cells c ty fz) ∧ c[o]? = some v := by
  unfold World.cell? at h
  split at h
  · rename_i c ty fz hb
    exact ⟨c, ty, fz, hb, by simpa using h⟩
  · cases h

theorem open_pv {S : List TypeId} (hS : okS P S = true) : ∀ (n : Nat) (t : TypeId) (cs : List Value) (x : DataW H × List MemPlace), t ∈ S → DataW.trod enc P w base (fun _ => true) held n t cs = some x →
    ∃ ps : List PV, ps.length = cs.length ∧ PT P n t ps ∧ PRs w ps cs 0 := by
  have sing : ∀ {p : PV} {c : Value}, PRel (fun b => w.heap[b]?) p c → PRs w [p] [c] 0 := by
    intro p c h j p' c' hp hc
    rcases j with _ | j
    · simp at hp hc; subst hp; subst hc; exact h
    · simp at hp
  intro n
  induction n with
  | zero => intro t cs x _ h; simp [DataW.trod] at h
  | succ n ih =>
    intro t cs x ht h
    have ho := List.all_eq_true.1 hS t ht
    unfold okT at ho
    split at ho
    · rename_i hu
      obtain ⟨b, rfl, _⟩ := DataW.trod_bool hu h
      exact ⟨[.bool b], rfl, by simp [PT, hu], sing (.bool b)⟩
    · rename_i k hu
      obtain ⟨b, rfl, _, hw⟩ := DataW.trod_int hu h
      exact ⟨[.int k b], rfl, by simp [PT, hu, hw], sing (.int k b)⟩
    · rename_i hu
      obtain ⟨b, rfl, _, hw⟩ := DataW.trod_string hu h
      exact ⟨[.str b], rfl, by simp [PT, hu, hw], sing (.str b)⟩
    · rename_i e hu
      simp only [Bool.and_eq_true, decide_eq_true_eq, List.contains_iff_mem] at ho
      obtain ⟨he, hpos⟩ := ho
      rcases DataW.trod_slice hu h with ⟨rfl, _⟩ | ⟨a, len, cap, elems, rest, m, hm, rfl, _, _, hlc, hcm, hel, hget, hsp, _⟩
      · exact ⟨[.nils], rfl, by simp [PT, hu], sing .nils⟩
      · injection hm with hm; subst hm
        -- an element
        have elem : ∀ i, i < len → ∃ cs', cs'.length = P.cellsOf e ∧ (∀ j, j < P.cellsOf e → w.cell? ((a.add (i * P.cellsOf e)).add j) = cs'[j]?) ∧ ∃ ps : List PV, ps.length = cs'.length ∧ PT P n e ps ∧ PRs w ps cs' 0 := by
          intro i hi
          have h1 := hget i hi
          rw [List.getElem?_eq_getElem (by omega)] at h1
          obtain ⟨cs', h2, h3⟩ := Option.bind_eq_some_iff.1 h1
          obtain ⟨_, h4, h5⟩ := World.cells?_some h2
          exact ⟨cs', h4, h5, ih e cs' _ he h3⟩
        by_cases h0 : cap = 0
        · have : len = 0 := by omega
          subst this; subst h0
          exact ⟨[.emp], rfl, by simp [PT, hu], sing (.emp a)⟩
        · -- the address is plain
          have spot : a.spot = none := by
            by_cases hl0 : 0 < len
            · obtain ⟨cs', h4, h5, _⟩ := elem 0 hl0
              have h6 := h5 0 hpos
              rw [List.getElem?_eq_getElem (by omega)] at h6
              have := World.cell?_spot h6
              unfold Addr.add at this
              cases hs : a.spot with
              | none => rfl
              | some s => simp [hs] at this
            · have hlen0 : len = 0 := by omega
              subst hlen0
              obtain ⟨hr, hg⟩ := hsp rfl
              have h1 := hg 0 (by omega)
              rw [List.getElem?_eq_getElem (by omega)] at h1
              obtain ⟨cs', h2, h3⟩ := Option.bind_eq_some_iff.1 h1
              obtain ⟨_, h4, h5⟩ := World.cells?_some h2
              have h6 := h5 0 hpos
              rw [List.getElem?_eq_getElem (by omega)] at h6
              have := World.cell?_spot h6
              unfold Addr.add at this
              cases hs : a.spot with
              | none => rfl
              | some s => simp [hs] at this
          -- its block
          have blk : ∀ i, i < len → ∃ ps : List PV, ps.length = P.cellsOf e ∧ PT P n e ps ∧ ∀ (j : Nat) (p : PV), ps[j]? = some p → ∃ c ty fz v, w.heap[a.block]? = some (.cells c ty fz) ∧ c[a.off + (i * P.cellsOf e + j)]? = some v ∧ PRel (fun b => w.heap[b]?) p v := by
            intro i hi
            obtain ⟨cs', h4, h5, ps, h6, h7, h8⟩ := elem i hi
            refine ⟨ps, by omega, h7, fun j p hj => ?_⟩
            have hjl := (List.getElem?_eq_some_iff.1 hj).1
            have h9 := h5 j (by omega)
            rw [List.getElem?_eq_getElem (by omega), add_eq spot, add_eq rfl] at h9
            obtain ⟨c, ty, fz, hb, hc⟩ := cell_get h9
            simp only [Nat.add_assoc] at hc
            exact ⟨c, ty, fz, _, hb, hc, h8 j p _ hj (by rw [Nat.zero_add]; exact List.getElem?_eq_getElem (by omega))⟩
          obtain ⟨es, hes, hq⟩ := list_of (α := Unit) len blk
          have hmem : ∀ r ∈ es, r.length = P.cellsOf e ∧ PT P n e r := by
            intro r hr
            obtain ⟨i, hi⟩ := List.getElem?_of_mem hr
            exact ⟨(hq i r hi).1, (hq i r hi).2.1⟩
          refine ⟨[.ro false es], rfl, by simp only [PT, hu]; exact ⟨by omega, hmem⟩, ?_⟩
          by_cases hl0 : len = 0
          · have : es = [] := List.eq_nil_of_length_eq_zero (by omega)
            subst this
            have r := PRel.ro (H := fun b => w.heap[b]?) false [] a cap 0 #[] 0 (0, 0) (fun _ _ => undef) spot (fun h => absurd rfl h) (by simp) (by simp) (fun i e h => by simp at h) (fun i e j v h => by simp at h) (fun i e j v h => by simp at h)
            simp only [List.length_nil] at r
            rw [hl0]
            exact sing r
          · obtain ⟨r0, hr0⟩ : ∃ r0, es[0]? = some r0 := ⟨_, List.getElem?_eq_getElem (by omega)⟩
            obtain ⟨q1, q2, q3⟩ := hq 0 r0 hr0
            obtain ⟨p0, hp0⟩ : ∃ p0, r0[0]? = some p0 := ⟨_, List.getElem?_eq_getElem (by omega)⟩
            obtain ⟨c, ty, fz, v0, hb, _, _⟩ := q3 0 p0 hp0
            have get : ∀ (i : Nat) (e' : List PV) (j : Nat) (v : PV), es[i]? = some e' → e'[j]? = some v → ∃ u, c[a.off + (i * P.cellsOf e + j)]? = some u ∧ PRel (fun b => w.heap[b]?) v u := by
              intro i e' j v hi hj
              obtain ⟨c', ty', fz', u, hb', hc', hr'⟩ := (hq i e' hi).2.2 j v hj
              rw [hb] at hb'
              injection hb' with hb'; injection hb' with hb' _ _; subst hb'
              exact ⟨u, hc', hr'⟩
            have r := PRel.ro (H := fun b => w.heap[b]?) false es a cap (P.cellsOf e) c ty fz (fun i j => c[a.off + (i * P.cellsOf e + j)]?.getD undef) spot (fun _ => hb) (by omega) (by simp) (fun i e' hi => (hq i e' hi).1)
              (fun i e' j v hi hj => by obtain ⟨u, hu, _⟩ := get i e' j v hi hj; rw [hu]; rfl) (fun i e' j v hi hj => by obtain ⟨u, hu, hr⟩ := get i e' j v hi hj; rw [hu]; exact hr)
            rw [hes] at r
            exact sing r
    · rename_i fs hu
      simp only [Bool.and_eq_true, List.all_eq_true, beq_iff_eq, List.contains_iff_mem] at ho
      obtain ⟨hf, htile⟩ := ho
      obtain ⟨xs, m, hm, _, hlen, hxs, hget⟩ := DataW.trod_struct hu h
      injection hm with hm; subst hm
      obtain ⟨_, hb⟩ := tilesP_ge htile
      obtain ⟨ps, h1, h2, h3⟩ := open_fields (w := w) (n := n) (total := P.cellsOf t) (cs := cs) (by omega) htile fun f hfm => by
        obtain ⟨i, hi⟩ := List.getElem?_of_mem hfm
        have hil := (List.getElem?_eq_some_iff.1 hi).1
        have h4 := hget i f (by simpa using hi)
        rw [List.getElem?_eq_getElem (by simp at hil; omega)] at h4
        obtain ⟨ps, h5, h6, h7⟩ := ih f.type _ _ (hf f hfm) h4
        refine ⟨ps, ?_, h6, h7⟩
        have := hb f hfm
        rw [h5]; simp; omega
      refine ⟨ps, by omega, ?_, h3⟩
      unfold PT
      rw [hu]
      have : ps.length = P.cellsOf t := by omega
      split <;> simp_all
    · cases ho
end
end Go.Dx
