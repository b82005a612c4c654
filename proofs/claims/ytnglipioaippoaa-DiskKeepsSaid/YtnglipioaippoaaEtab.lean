/- The table of the functions, for the plain reckoning. -/
import Derived.Test.YtnglipioaippoaaEyJ
import Derived.Test.YtnglipioaippoaaProg
import Derived.KernelRfl
namespace Go.Proofs.Ytnglipioaippoaa.T
open Go.Dx Go.Proofs
def rounds : Nat := 1000000000
noncomputable def i3 : FnI := ⟨Try.f3, [0, 1, 2, 3, 4, 5, 12, 13, 14, 15, 16, 17, 19, 20, 21, 25, 30, 47, 79, 91, 95, 136], 0, false, rounds⟩
noncomputable def i4 : FnI := ⟨Try.f4, [0, 2, 3, 5, 6, 7, 13, 19, 39], 0, false, rounds⟩
noncomputable def i5 : FnI := ⟨Try.f5, [0, 1, 4, 5, 6, 7, 8, 9, 21, 75], 0, false, rounds⟩
noncomputable def i6 : FnI := ⟨Try.f6, [0, 2, 3, 4, 5, 7, 8, 9, 10, 20, 28], 0, false, rounds⟩
noncomputable def i7 : FnI := ⟨Try.f7, [0, 1, 2, 3, 4, 10, 11, 13, 14, 15, 16, 17, 18, 19, 20, 21, 22, 23, 37, 53, 65, 81, 82, 88, 105, 126, 165], 0, false, rounds⟩
noncomputable def i8 : FnI := ⟨Try.f8, [0, 1, 2, 6, 7, 9, 11, 12, 13, 14, 15, 23, 34, 35, 78], 0, false, rounds⟩
noncomputable def i9 : FnI := ⟨Try.f9, [0, 1, 2, 3, 4, 10, 11, 13, 14, 15, 16, 17, 18, 19, 20, 21, 35, 51, 55, 72, 80, 114, 116], 0, false, rounds⟩
noncomputable def i10 : FnI := ⟨Try.f10, [0, 1, 4, 5, 6, 8, 10, 11, 12, 14, 15, 18, 52, 60, 69, 97, 98, 111, 112, 128, 129, 143], 0, false, rounds⟩
noncomputable def i11 : FnI := ⟨Try.f11, [0, 2, 3, 4, 10], 0, false, rounds⟩
noncomputable def i12 : FnI := ⟨Try.f12, [0, 1, 2, 3, 5, 6, 16], 2, false, rounds⟩
noncomputable def i13 : FnI := ⟨Try.f13, [0, 1, 4, 6], 0, false, rounds⟩
noncomputable def i14 : FnI := ⟨Try.f14, [0, 1, 2, 6, 7, 17, 24, 31], 0, false, rounds⟩
noncomputable def i15 : FnI := ⟨Try.f15, [0, 2, 18], 0, false, rounds⟩
noncomputable def i16 : FnI := ⟨Try.f16, [0, 1, 2, 6, 7, 8, 10, 14, 15, 16, 17, 21, 40], 0, false, rounds⟩
noncomputable def i17 : FnI := ⟨Try.f17, [0, 1, 2, 6, 7, 16, 21], 0, false, rounds⟩
noncomputable def i18 : FnI := ⟨Try.f18, [0, 1, 4], 0, false, rounds⟩
noncomputable def i19 : FnI := ⟨Try.f19, [0, 2, 4], 0, false, rounds⟩
noncomputable def i20 : FnI := ⟨Try.f20, [0, 2, 4], 0, false, rounds⟩
noncomputable def i21 : FnI := ⟨Try.f21, [0, 2, 3, 5], 0, false, rounds⟩
noncomputable def i22 : FnI := ⟨Try.f22, [0, 1, 5], 0, false, rounds⟩
noncomputable def i23 : FnI := ⟨Try.f23, [0, 1, 3, 4, 5, 6, 7, 8, 9, 25], 0, true, rounds⟩
noncomputable def i24 : FnI := ⟨Try.f24, [0, 1, 2, 3, 4, 5, 6, 14, 36, 52], 0, false, rounds⟩
noncomputable def i25 : FnI := ⟨Try.f25, [0, 2, 3, 5, 7, 11, 12, 13, 14], 0, false, rounds⟩
noncomputable def i26 : FnI := ⟨Try.f26, [0, 1, 4, 5, 10, 14, 27], 0, false, rounds⟩
noncomputable def i27 : FnI := ⟨Try.f27, [0, 2, 3, 9], 0, false, rounds⟩
noncomputable def i28 : FnI := ⟨Try.f28, [0, 1, 2, 6, 7, 12, 19, 26], 0, false, rounds⟩
noncomputable def i29 : FnI := ⟨Try.f29, [0, 2, 3, 4, 5, 6, 7, 8, 9, 11, 20, 64, 115], 0, false, rounds⟩
noncomputable def i30 : FnI := ⟨Try.f30, [0, 1, 2, 6, 7, 8, 9, 10], 0, false, rounds⟩
noncomputable def i31 : FnI := ⟨Try.f31, [0, 1, 4, 5, 6, 7, 8, 9, 10, 11, 21, 31, 49, 57, 63, 77, 84], 0, false, rounds⟩
noncomputable def i32 : FnI := ⟨Try.f32, [0, 1, 2, 4, 5, 7, 8, 9, 11, 12, 13, 21, 27, 28, 29, 30, 41, 49, 50, 51, 52, 53, 81], 0, false, rounds⟩
noncomputable def i33 : FnI := ⟨Try.f33, [0, 2, 3, 4, 12], 0, false, rounds⟩
noncomputable def i34 : FnI := ⟨Try.f34, [0, 1, 4, 5, 6, 10], 0, false, rounds⟩
noncomputable def i35 : FnI := ⟨Try.f35, [0, 1, 4, 5, 6, 7, 8, 9, 10, 11, 12, 16, 20, 60, 71, 77, 84], 0, false, rounds⟩
noncomputable def i36 : FnI := ⟨Try.f36, [0, 1], 0, false, rounds⟩
noncomputable def i37 : FnI := ⟨Try.f37, [0, 1, 2, 6, 7, 8, 15, 34, 46], 0, false, rounds⟩
noncomputable def i38 : FnI := ⟨Try.f38, [0, 2], 0, false, rounds⟩
noncomputable def i39 : FnI := ⟨Try.f39, [0, 1, 2, 6], 0, false, rounds⟩
noncomputable def i40 : FnI := ⟨Try.f40, [0, 2, 7, 12], 0, false, rounds⟩
noncomputable def i41 : FnI := ⟨Try.f41, [0, 2, 4], 0, false, rounds⟩
noncomputable def i42 : FnI := ⟨Try.f42, [0, 1, 2], 0, false, rounds⟩
noncomputable def i43 : FnI := ⟨Try.f43, [0, 2, 3, 4, 5, 6, 7, 9, 28, 33, 80, 92, 93, 94, 95, 115], 0, false, rounds⟩
noncomputable def i44 : FnI := ⟨Try.f44, [0, 2, 10], 0, false, rounds⟩
noncomputable def i45 : FnI := ⟨Try.f45, [0, 2], 0, false, rounds⟩
noncomputable def i46 : FnI := ⟨Try.f46, [0, 1, 4], 0, false, rounds⟩
noncomputable def i47 : FnI := ⟨Try.f47, [0, 1, 2, 4], 0, false, rounds⟩
noncomputable def i48 : FnI := ⟨Try.f48, [0, 1, 2, 3, 4, 5, 6, 7, 18, 23, 29, 43], 0, false, rounds⟩
noncomputable def i49 : FnI := ⟨Try.f49, [0, 1, 2, 6, 7, 16], 0, false, rounds⟩
noncomputable def i50 : FnI := ⟨Try.f50, [0, 2, 3, 5, 6, 8, 9, 10, 11, 12, 20, 25, 26, 27, 28], 0, false, rounds⟩
noncomputable def i51 : FnI := ⟨Try.f51, [0, 2], 0, false, rounds⟩
noncomputable def i52 : FnI := ⟨Try.f52, [0, 1, 2, 6], 0, false, rounds⟩
noncomputable def i53 : FnI := ⟨Try.f53, [0, 2, 7, 15], 0, false, rounds⟩
noncomputable def i54 : FnI := ⟨Try.f54, [0, 1, 2, 6, 7, 8, 9, 13, 18, 31], 0, false, rounds⟩
noncomputable def i55 : FnI := ⟨Try.f55, [0, 2], 0, false, rounds⟩
noncomputable def i56 : FnI := ⟨Try.f56, [0, 2], 0, false, rounds⟩
noncomputable def i57 : FnI := ⟨Try.f57, [0, 2, 6], 0, false, rounds⟩
noncomputable def i58 : FnI := ⟨Try.f58, [0, 2, 6], 0, false, rounds⟩
noncomputable def i59 : FnI := ⟨Try.f59, [0, 2], 0, false, rounds⟩
noncomputable def i60 : FnI := ⟨Try.f60, [0, 2], 0, false, rounds⟩
noncomputable def i61 : FnI := ⟨Try.f61, [0, 1, 2, 6, 7, 16], 0, false, rounds⟩
noncomputable def i62 : FnI := ⟨Try.f62, [0, 2], 0, false, rounds⟩
noncomputable def i63 : FnI := ⟨Try.f63, [0, 1, 2, 3, 4, 14], 0, false, rounds⟩
noncomputable def i64 : FnI := ⟨Try.f64, [0, 1, 3], 0, false, rounds⟩
noncomputable def i65 : FnI := ⟨Try.f65, [0, 1, 4, 6, 16], 0, false, rounds⟩
noncomputable def i66 : FnI := ⟨Try.f66, [0, 2, 3, 12, 19], 0, false, rounds⟩
def lookT : List (Nat × FnI) → Nat → Option FnI
  | [], _ => none
  | (g, i) :: r, f => if g == f then some i else lookT r f
def TabL (P : Program) : List (Nat × FnI) → Prop
  | [] => True
  | (g, i) :: r => ((P.funcs[g]? = some i.fn ∧ (i.fn.name == "runtime.NumGoroutine") = false) ∧ (Nat.beq i.mode 7 = false ∨ (i.fn.body.isNone = true ∧ Extern.findNext i.fn = none ∧ Extern.find i.fn = some Extern.BytealgIndexByte.indexByte))) ∧ TabL P r
theorem lookT_ok {P : Program} : ∀ {l : List (Nat × FnI)} {f : Nat} {i : FnI}, TabL P l → lookT l f = some i → (P.funcs[f]? = some i.fn ∧ (i.fn.name == "runtime.NumGoroutine") = false) ∧ (Nat.beq i.mode 7 = false ∨ (i.fn.body.isNone = true ∧ Extern.findNext i.fn = none ∧ Extern.find i.fn = some Extern.BytealgIndexByte.indexByte))
  | [], f, i, _, h => by simp [lookT] at h
  | (g, j) :: r, f, i, hl, h => by
    simp only [lookT] at h
    split at h
    · rename_i he
      have he : g = f := by simpa using he
      subst he; injection h with h; subst h; exact hl.1
    · exact lookT_ok hl.2 h
noncomputable def tl0 : List (Nat × FnI) := [(3, i3), (4, i4), (5, i5), (6, i6), (7, i7), (8, i8), (9, i9), (10, i10), (11, i11), (12, i12), (13, i13), (14, i14), (15, i15)]
theorem tl0_ok : TabL Try.prog tl0 := ⟨⟨⟨Try.func3, by kernel_rfl⟩, .inl (by kernel_rfl)⟩, ⟨⟨Try.func4, by kernel_rfl⟩, .inl (by kernel_rfl)⟩, ⟨⟨Try.func5, by kernel_rfl⟩, .inl (by kernel_rfl)⟩, ⟨⟨Try.func6, by kernel_rfl⟩, .inl (by kernel_rfl)⟩, ⟨⟨Try.func7, by kernel_rfl⟩, .inl (by kernel_rfl)⟩, ⟨⟨Try.func8, by kernel_rfl⟩, .inl (by kernel_rfl)⟩, ⟨⟨Try.func9, by kernel_rfl⟩, .inl (by kernel_rfl)⟩, ⟨⟨Try.func10, by kernel_rfl⟩, .inl (by kernel_rfl)⟩, ⟨⟨Try.func11, by kernel_rfl⟩, .inl (by kernel_rfl)⟩, ⟨⟨Try.func12, by kernel_rfl⟩, .inl (by kernel_rfl)⟩, ⟨⟨Try.func13, by kernel_rfl⟩, .inl (by kernel_rfl)⟩, ⟨⟨Try.func14, by kernel_rfl⟩, .inl (by kernel_rfl)⟩, ⟨⟨Try.func15, by kernel_rfl⟩, .inl (by kernel_rfl)⟩, trivial⟩
noncomputable def tl1 : List (Nat × FnI) := [(16, i16), (17, i17), (18, i18), (19, i19), (20, i20), (21, i21), (22, i22), (23, i23), (24, i24), (25, i25), (26, i26), (27, i27), (28, i28), (29, i29), (30, i30), (31, i31)]
theorem tl1_ok : TabL Try.prog tl1 := ⟨⟨⟨Try.func16, by kernel_rfl⟩, .inl (by kernel_rfl)⟩, ⟨⟨Try.func17, by kernel_rfl⟩, .inl (by kernel_rfl)⟩, ⟨⟨Try.func18, by kernel_rfl⟩, .inl (by kernel_rfl)⟩, ⟨⟨Try.func19, by kernel_rfl⟩, .inl (by kernel_rfl)⟩, ⟨⟨Try.func20, by kernel_rfl⟩, .inl (by kernel_rfl)⟩, ⟨⟨Try.func21, by kernel_rfl⟩, .inl (by kernel_rfl)⟩, ⟨⟨Try.func22, by kernel_rfl⟩, .inl (by kernel_rfl)⟩, ⟨⟨Try.func23, by kernel_rfl⟩, .inl (by kernel_rfl)⟩, ⟨⟨Try.func24, by kernel_rfl⟩, .inl (by kernel_rfl)⟩, ⟨⟨Try.func25, by kernel_rfl⟩, .inl (by kernel_rfl)⟩, ⟨⟨Try.func26, by kernel_rfl⟩, .inl (by kernel_rfl)⟩, ⟨⟨Try.func27, by kernel_rfl⟩, .inl (by kernel_rfl)⟩, ⟨⟨Try.func28, by kernel_rfl⟩, .inl (by kernel_rfl)⟩, ⟨⟨Try.func29, by kernel_rfl⟩, .inl (by kernel_rfl)⟩, ⟨⟨Try.func30, by kernel_rfl⟩, .inl (by kernel_rfl)⟩, ⟨⟨Try.func31, by kernel_rfl⟩, .inl (by kernel_rfl)⟩, trivial⟩
noncomputable def tl2 : List (Nat × FnI) := [(32, i32), (33, i33), (34, i34), (35, i35), (36, i36), (37, i37), (38, i38), (39, i39), (40, i40), (41, i41), (42, i42), (43, i43), (44, i44), (45, i45), (46, i46), (47, i47)]
theorem tl2_ok : TabL Try.prog tl2 := ⟨⟨⟨Try.func32, by kernel_rfl⟩, .inl (by kernel_rfl)⟩, ⟨⟨Try.func33, by kernel_rfl⟩, .inl (by kernel_rfl)⟩, ⟨⟨Try.func34, by kernel_rfl⟩, .inl (by kernel_rfl)⟩, ⟨⟨Try.func35, by kernel_rfl⟩, .inl (by kernel_rfl)⟩, ⟨⟨Try.func36, by kernel_rfl⟩, .inl (by kernel_rfl)⟩, ⟨⟨Try.func37, by kernel_rfl⟩, .inl (by kernel_rfl)⟩, ⟨⟨Try.func38, by kernel_rfl⟩, .inl (by kernel_rfl)⟩, ⟨⟨Try.func39, by kernel_rfl⟩, .inl (by kernel_rfl)⟩, ⟨⟨Try.func40, by kernel_rfl⟩, .inl (by kernel_rfl)⟩, ⟨⟨Try.func41, by kernel_rfl⟩, .inl (by kernel_rfl)⟩, ⟨⟨Try.func42, by kernel_rfl⟩, .inl (by kernel_rfl)⟩, ⟨⟨Try.func43, by kernel_rfl⟩, .inl (by kernel_rfl)⟩, ⟨⟨Try.func44, by kernel_rfl⟩, .inl (by kernel_rfl)⟩, ⟨⟨Try.func45, by kernel_rfl⟩, .inl (by kernel_rfl)⟩, ⟨⟨Try.func46, by kernel_rfl⟩, .inl (by kernel_rfl)⟩, ⟨⟨Try.func47, by kernel_rfl⟩, .inl (by kernel_rfl)⟩, trivial⟩
noncomputable def tl3 : List (Nat × FnI) := [(48, i48), (49, i49), (50, i50), (51, i51), (52, i52), (53, i53), (54, i54), (55, i55), (56, i56), (57, i57), (58, i58), (59, i59), (60, i60), (61, i61), (62, i62), (63, i63)]
theorem tl3_ok : TabL Try.prog tl3 := ⟨⟨⟨Try.func48, by kernel_rfl⟩, .inl (by kernel_rfl)⟩, ⟨⟨Try.func49, by kernel_rfl⟩, .inl (by kernel_rfl)⟩, ⟨⟨Try.func50, by kernel_rfl⟩, .inl (by kernel_rfl)⟩, ⟨⟨Try.func51, by kernel_rfl⟩, .inl (by kernel_rfl)⟩, ⟨⟨Try.func52, by kernel_rfl⟩, .inl (by kernel_rfl)⟩, ⟨⟨Try.func53, by kernel_rfl⟩, .inl (by kernel_rfl)⟩, ⟨⟨Try.func54, by kernel_rfl⟩, .inl (by kernel_rfl)⟩, ⟨⟨Try.func55, by kernel_rfl⟩, .inl (by kernel_rfl)⟩, ⟨⟨Try.func56, by kernel_rfl⟩, .inl (by kernel_rfl)⟩, ⟨⟨Try.func57, by kernel_rfl⟩, .inl (by kernel_rfl)⟩, ⟨⟨Try.func58, by kernel_rfl⟩, .inl (by kernel_rfl)⟩, ⟨⟨Try.func59, by kernel_rfl⟩, .inl (by kernel_rfl)⟩, ⟨⟨Try.func60, by kernel_rfl⟩, .inl (by kernel_rfl)⟩, ⟨⟨Try.func61, by kernel_rfl⟩, .inl (by kernel_rfl)⟩, ⟨⟨Try.func62, by kernel_rfl⟩, .inl (by kernel_rfl)⟩, ⟨⟨Try.func63, by kernel_rfl⟩, .inl (by kernel_rfl)⟩, trivial⟩
noncomputable def tl4 : List (Nat × FnI) := [(64, i64), (65, i65), (66, i66)]
theorem tl4_ok : TabL Try.prog tl4 := ⟨⟨⟨Try.func64, by kernel_rfl⟩, .inl (by kernel_rfl)⟩, ⟨⟨Try.func65, by kernel_rfl⟩, .inl (by kernel_rfl)⟩, ⟨⟨Try.func66, by kernel_rfl⟩, .inl (by kernel_rfl)⟩, trivial⟩
noncomputable def tab (f : FuncId) : Option FnI :=
  match f / 16 with
  | 0 => lookT tl0 f
  | 1 => lookT tl1 f
  | 2 => lookT tl2 f
  | 3 => lookT tl3 f
  | 4 => lookT tl4 f
  | _ => none
theorem tab_ok : Tab Try.prog tab := by
  intro f i h
  unfold tab at h
  split at h
  · exact lookT_ok tl0_ok h
  · exact lookT_ok tl1_ok h
  · exact lookT_ok tl2_ok h
  · exact lookT_ok tl3_ok h
  · exact lookT_ok tl4_ok h
  · cases h
end Go.Proofs.Ytnglipioaippoaa.T
