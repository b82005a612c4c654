/- The two functions that compare data: every datum. -/
import Derived.Test.YtkiicnfpogdmgaaDoorSa3
namespace Go.Proofs.YtkiicnfpogdmgaaDoor.T.Same
open Go.Dx Go.Proofs

/-- What a datum is made of. -/
structure DT (P : Program) : Prop where
  u24 : P.underlying 24 = some (.struct #[⟨"Kind", 3, 0, false, "", "", 0⟩, ⟨"N", 2, 1, false, "", "", 8⟩, ⟨"S", 9, 2, false, "", "", 16⟩, ⟨"L", 22, 3, false, "", "", 32⟩])
  u22 : P.underlying 22 = some (.slice 24)
  u3 : P.underlying 3 = some (.int .i64)
  u2 : P.underlying 2 = some (.int .i64)
  u9 : P.underlying 9 = some .string
  z24 : P.cellsOf 24 = 4
  z22 : P.cellsOf 22 = 1
  z3 : P.cellsOf 3 = 1
  z2 : P.cellsOf 2 = 1
  z9 : P.cellsOf 9 = 1
theorem dt : DT Tryd.prog := ⟨by kernel_rfl, by kernel_rfl, by kernel_rfl, by kernel_rfl, by kernel_rfl, by kernel_rfl, by kernel_rfl, by kernel_rfl, by kernel_rfl, by kernel_rfl⟩
section
variable {P : Program}
theorem pt_int {d t : Nat} {p : PV} (hu : P.underlying t = some (.int .i64)) (h : PT P d t [p]) : ∃ n, p = .int .i64 n ∧ (Lit.int .i64 n).wf = true := by
  cases d with
  | zero => exact (show False from h).elim
  | succ d =>
    unfold PT at h
    rw [hu] at h
    cases p <;> simp only at h
    rename_i k n
    obtain ⟨rfl, h⟩ := h
    exact ⟨n, rfl, h⟩
theorem pt_str {d t : Nat} {p : PV} (hu : P.underlying t = some .string) (h : PT P d t [p]) : ∃ s, p = .str s ∧ s.size ≤ maxLen := by
  cases d with
  | zero => exact (show False from h).elim
  | succ d =>
    unfold PT at h
    rw [hu] at h
    cases p <;> simp only at h
    exact ⟨_, rfl, h⟩
theorem pt_list {d t e : Nat} {p : PV} (hu : P.underlying t = some (.slice e)) (h : PT P (d + 1) t [p]) : ∃ len, lenP p = some len ∧ len ≤ maxLen ∧ ∀ f es, p = .ro f es → ∀ r ∈ es, PT P d e r := by
  unfold PT at h
  rw [hu] at h
  cases p <;> simp only at h
  · exact ⟨0, rfl, Nat.zero_le _, fun f es he => by cases he⟩
  · exact ⟨0, rfl, Nat.zero_le _, fun f es he => by cases he⟩
  · rename_i f es
    cases f <;> simp only at h
    exact ⟨es.length, rfl, h.1, fun f' es' he r hr => by injection he with h1 h2; subst h2; exact (h.2 r hr).2⟩
/-- A datum: its parts. -/
theorem pt_datum (D : DT P) {d : Nat} {ps : List PV} (h : PT P (d + 2) 24 ps) : ∃ k n s l len, IsD ps k n s l len ∧ (Lit.int .i64 n).wf = true ∧ s.size ≤ maxLen ∧ (Lit.int .i64 k).wf = true ∧ ∀ f es, l = .ro f es → ∀ r ∈ es, PT P d 24 r := by
  unfold PT at h
  rw [D.u24] at h
  simp only [D.z24] at h
  rcases ps with _ | ⟨p0, _ | ⟨p1, _ | ⟨p2, _ | ⟨p3, _ | ⟨p4, ps⟩⟩⟩⟩⟩ <;> simp only [List.length_cons, List.length_nil] at h <;> try (exact absurd h.1 (by omega))
  obtain ⟨_, h⟩ := h
  have h0 := h ⟨"Kind", 3, 0, false, "", "", 0⟩ (by simp)
  have h1 := h ⟨"N", 2, 1, false, "", "", 8⟩ (by simp)
  have h2 := h ⟨"S", 9, 2, false, "", "", 16⟩ (by simp)
  have h3 := h ⟨"L", 22, 3, false, "", "", 32⟩ (by simp)
  simp only [D.z3, D.z2, D.z9, D.z22, List.drop_zero, List.drop_succ_cons, List.take_succ_cons, List.take_zero] at h0 h1 h2 h3
  obtain ⟨k, rfl, hk⟩ := pt_int D.u3 h0
  obtain ⟨n, rfl, hn⟩ := pt_int D.u2 h1
  obtain ⟨s, rfl, hs⟩ := pt_str D.u9 h2
  obtain ⟨len, hl, hm, he⟩ := pt_list D.u22 h3
  exact ⟨k, n, s, p3, len, ⟨rfl, hl, hm⟩, hn, hs, hk, he⟩
theorem pt_isD (D : DT P) {d : Nat} {ps : List PV} (h : PT P d 24 ps) : IsD' ps := by
  rcases d with _ | _ | d
  · exact (show False from h).elim
  · unfold PT at h
    rw [D.u24] at h
    simp only [D.z24] at h
    rcases ps with _ | ⟨p0, _ | ⟨p1, _ | ⟨p2, _ | ⟨p3, _ | ⟨p4, ps⟩⟩⟩⟩⟩ <;> simp only [List.length_cons, List.length_nil] at h <;> try (exact absurd h.1 (by omega))
    have h0 := h.2 ⟨"Kind", 3, 0, false, "", "", 0⟩ (by simp)
    exact (show False from h0).elim
  · obtain ⟨k, n, s, l, len, h1, _⟩ := pt_datum D h
    exact ⟨k, n, s, l, len, h1⟩
theorem pt_one (D : DT P) {ps : List PV} (h : PT P 1 24 ps) : False := by
  unfold PT at h
  rw [D.u24] at h
  simp only [D.z24] at h
  rcases ps with _ | ⟨p0, _ | ⟨p1, _ | ⟨p2, _ | ⟨p3, _ | ⟨p4, ps⟩⟩⟩⟩⟩ <;> simp only [List.length_cons, List.length_nil] at h <;> try (exact absurd h.1 (by omega))
  have h0 := h.2 ⟨"Kind", 3, 0, false, "", "", 0⟩ (by simp)
  exact h0

theorem allJ (D : DT P) : ∀ (d d' : Nat) (pa pb : List PV), PT P d 24 pa → PT P d' 24 pb → J pa pb
  | 0, _, pa, pb, h, _ => (show False from h).elim
  | 1, _, pa, pb, h, _ => (pt_one D h).elim
  | _, 0, pa, pb, _, h => (show False from h).elim
  | _, 1, pa, pb, _, h => (pt_one D h).elim
  | d + 2, d' + 2, pa, pb, ha, hb => by
    obtain ⟨ka, na, sa, la, ln, a1, _, _, _, a2⟩ := pt_datum D ha
    obtain ⟨kb, nb, sb, lb, lm, b1, _, _, _, b2⟩ := pt_datum D hb
    exact step a1 b1 fun fa ea fb eb h1 h2 => ⟨fun q hq => pt_isD D (a2 fa ea h1 q hq), fun q hq => pt_isD D (b2 fb eb h2 q hq), fun qa hqa qb hqb => allJ D d d' qa qb (a2 fa ea h1 qa hqa) (b2 fb eb h2 qb hqb)⟩
end
end Go.Proofs.YtkiicnfpogdmgaaDoor.T.Same
