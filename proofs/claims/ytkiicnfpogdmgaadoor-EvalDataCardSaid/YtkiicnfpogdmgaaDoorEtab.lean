/- The table of the functions, for the plain reckoning. -/
import Derived.Test.YtkiicnfpogdmgaaDoorEyJ
import Derived.Test.YtkiicnfpogdmgaaDoorProg
import Derived.KernelRfl
namespace Go.Proofs.YtkiicnfpogdmgaaDoor.T
open Go.Dx Go.Proofs
def rounds : Nat := 1000000000
noncomputable def i2 : FnI := ⟨Tryd.f2, [], 0, false, rounds⟩
noncomputable def i3 : FnI := ⟨Tryd.f3, [0, 1, 2, 5], 0, false, rounds⟩
noncomputable def i4 : FnI := ⟨Tryd.f4, [0, 1, 2, 3, 4, 12], 0, false, rounds⟩
noncomputable def i5 : FnI := ⟨Tryd.f5, [0, 2, 3, 5, 6, 7, 8], 0, false, rounds⟩
noncomputable def i6 : FnI := ⟨Tryd.f6, [0, 1, 4, 5, 6, 7, 8, 10, 11, 12, 13, 32, 37, 41, 83], 0, false, rounds⟩
noncomputable def i7 : FnI := ⟨Tryd.f7, [0, 1, 2], 0, false, rounds⟩
noncomputable def i8 : FnI := ⟨Tryd.f8, [0, 1, 3, 4, 5, 6, 8, 9], 2, false, rounds⟩
noncomputable def i9 : FnI := ⟨Tryd.f9, [0, 1, 2], 0, false, rounds⟩
noncomputable def i10 : FnI := ⟨Tryd.f10, [0, 1, 2], 0, false, rounds⟩
noncomputable def i11 : FnI := ⟨Tryd.f11, [0, 1, 2, 3], 0, false, rounds⟩
noncomputable def i12 : FnI := ⟨Tryd.f12, [0, 1, 2], 0, false, rounds⟩
noncomputable def i13 : FnI := ⟨Tryd.f13, [0, 1, 2, 3, 4, 5, 33, 36, 37, 38, 51], 0, false, rounds⟩
noncomputable def i14 : FnI := ⟨Tryd.f14, [0, 1, 2, 3, 4, 5, 33, 38, 52], 0, false, rounds⟩
noncomputable def i15 : FnI := ⟨Tryd.f15, [0, 1, 4, 9], 0, false, rounds⟩
noncomputable def i16 : FnI := ⟨Tryd.f16, [0, 2, 3, 4, 5, 6, 7, 8, 10, 19, 26, 27, 28, 29, 74, 86], 1, false, rounds⟩
noncomputable def i17 : FnI := ⟨Tryd.f17, [0, 1, 2, 3, 4, 10, 11, 12, 13, 14, 15, 17, 18, 19, 20, 71, 87, 89, 90, 91, 92, 97, 113], 0, false, rounds⟩
noncomputable def i18 : FnI := ⟨Tryd.f18, [0, 2], 0, false, rounds⟩
noncomputable def i19 : FnI := ⟨Tryd.f19, [0, 1, 2, 4, 5, 6, 16], 0, false, rounds⟩
noncomputable def i20 : FnI := ⟨Tryd.f20, [0, 1, 2, 4, 6, 7, 18, 29, 50, 53, 54, 55, 56, 61], 0, false, rounds⟩
noncomputable def i21 : FnI := ⟨Tryd.f21, [0, 1, 2, 3, 5, 6, 17, 28, 49, 55, 64], 0, false, rounds⟩
noncomputable def i22 : FnI := ⟨Tryd.f22, [0, 1, 2, 5, 20, 21, 22, 23, 29], 0, false, rounds⟩
noncomputable def i23 : FnI := ⟨Tryd.f23, [0, 1, 2, 4, 5, 6, 20], 0, false, rounds⟩
noncomputable def i24 : FnI := ⟨Tryd.f24, [0, 2, 3, 4, 5, 6, 7, 8, 9, 10, 11, 12, 13, 16, 21, 27, 32, 36, 39, 57, 71], 1, false, rounds⟩
noncomputable def i25 : FnI := ⟨Tryd.f25, [0, 1, 4, 5, 6, 7, 8, 27, 31, 36, 60], 0, false, rounds⟩
noncomputable def i26 : FnI := ⟨Tryd.f26, [0, 1, 2, 3, 5, 7, 8, 9, 10], 0, false, rounds⟩
noncomputable def i27 : FnI := ⟨Tryd.f27, [0, 2, 3, 4, 5, 6, 8, 9, 10, 11, 13, 18, 19, 20, 21, 32, 44, 54, 55, 56, 57, 69], 0, false, rounds⟩
noncomputable def i28 : FnI := ⟨Tryd.f28, [0, 1, 2, 3, 6, 8, 9, 10, 11, 16], 0, false, rounds⟩
noncomputable def i29 : FnI := ⟨Tryd.f29, [0, 1, 2, 3, 5, 7, 8, 9, 10], 0, false, rounds⟩
noncomputable def i30 : FnI := ⟨Tryd.f30, [0, 2], 0, false, rounds⟩
noncomputable def i31 : FnI := ⟨Tryd.f31, [0, 1, 4, 5, 6, 7, 8, 12, 22, 35, 45, 50, 53, 63, 82, 88], 0, false, rounds⟩
noncomputable def i32 : FnI := ⟨Tryd.f32, [0, 1, 4, 5, 27], 0, false, rounds⟩
noncomputable def i33 : FnI := ⟨Tryd.f33, [0, 1, 4, 5, 16], 0, false, rounds⟩
noncomputable def i34 : FnI := ⟨Tryd.f34, [0, 1, 4], 0, false, rounds⟩
noncomputable def i35 : FnI := ⟨Tryd.f35, [0, 1, 8], 0, false, rounds⟩
noncomputable def i36 : FnI := ⟨Tryd.f36, [0, 2, 3, 4, 5, 6, 7, 8, 9, 10, 11, 12, 13, 14, 15, 40, 49, 75], 0, false, rounds⟩
noncomputable def i37 : FnI := ⟨Tryd.f37, [0, 2, 3, 4, 5, 6], 0, false, rounds⟩
noncomputable def i38 : FnI := ⟨Tryd.f38, [0, 1, 2, 3, 4, 19, 21, 22, 23, 24, 42], 0, false, rounds⟩
noncomputable def i39 : FnI := ⟨Tryd.f39, [0, 1, 2, 3, 6, 8, 9, 10, 12, 13, 15, 16, 17, 18, 19, 20, 21, 22, 23, 24, 29, 39, 40, 50, 60, 63, 66, 70, 81, 86, 95, 99, 100, 101, 102, 114, 126, 129, 143, 148, 152, 173, 187, 205, 219, 234, 244], 0, false, rounds⟩
noncomputable def i40 : FnI := ⟨Tryd.f40, [0, 2], 0, false, rounds⟩
noncomputable def i41 : FnI := ⟨Tryd.f41, [0, 1, 4, 5, 6, 7, 8, 9, 10, 11, 47, 64, 67, 71, 74, 78, 83], 0, false, rounds⟩
noncomputable def i42 : FnI := ⟨Tryd.f42, [0, 2], 0, false, rounds⟩
noncomputable def i43 : FnI := ⟨Tryd.f43, [0, 1, 4, 5, 6, 7, 8, 14, 20, 25, 41], 0, false, rounds⟩
noncomputable def i44 : FnI := ⟨Tryd.f44, [0, 1, 4], 0, false, rounds⟩
noncomputable def i45 : FnI := ⟨Tryd.f45, [0, 2, 12], 0, false, rounds⟩
noncomputable def i46 : FnI := ⟨Tryd.f46, [0, 2, 12], 0, false, rounds⟩
noncomputable def i47 : FnI := ⟨Tryd.f47, [0, 2, 3, 4], 0, false, rounds⟩
noncomputable def i48 : FnI := ⟨Tryd.f48, [0, 2, 3, 4, 5, 6, 7, 14, 21, 28, 42], 0, false, rounds⟩
noncomputable def i49 : FnI := ⟨Tryd.f49, [0, 2, 3, 4, 5, 6, 7, 8, 9, 10, 11, 12, 13, 14, 15, 16, 17, 44, 83], 0, false, rounds⟩
noncomputable def i50 : FnI := ⟨Tryd.f50, [0, 1, 4, 5, 6, 9, 10, 13, 18, 21, 26, 29, 32, 44, 45, 48, 49, 54, 55, 58, 59, 62, 63, 66, 67, 70], 0, false, rounds⟩
noncomputable def i51 : FnI := ⟨Tryd.f51, [0, 1, 4, 5, 8, 9, 14, 21, 29, 33, 37, 45], 0, false, rounds⟩
noncomputable def i52 : FnI := ⟨Tryd.f52, [0, 1, 2, 3, 8, 9, 10, 18, 20, 27, 36, 42, 46], 0, false, rounds⟩
noncomputable def i53 : FnI := ⟨Tryd.f53, [0, 1, 2, 6, 7, 8, 17], 0, false, rounds⟩
noncomputable def i54 : FnI := ⟨Tryd.f54, [0, 1, 2, 3, 6, 8, 9, 10, 12, 13, 14, 15, 16, 17, 18, 20, 21, 22, 23, 38, 59, 81], 0, false, rounds⟩
noncomputable def i55 : FnI := ⟨Tryd.f55, [0, 1, 2, 4, 5, 6, 7, 8, 10, 15, 19, 33, 42, 57, 60, 61, 69, 77, 85, 92], 0, false, rounds⟩
noncomputable def i56 : FnI := ⟨Tryd.f56, [0, 1, 4, 14], 0, false, rounds⟩
noncomputable def i57 : FnI := ⟨Tryd.f57, [0, 2, 3, 4], 0, false, rounds⟩
noncomputable def i58 : FnI := ⟨Tryd.f58, [0, 1, 4], 0, false, rounds⟩
noncomputable def i59 : FnI := ⟨Tryd.f59, [0, 1, 2, 3, 4, 5, 6, 7, 8, 9, 10, 11, 12, 13, 15, 20, 23, 29, 35, 40, 45, 50, 64, 82, 102, 112, 113, 114, 115], 0, false, rounds⟩
noncomputable def i60 : FnI := ⟨Tryd.f60, [0, 2], 0, false, rounds⟩
noncomputable def i61 : FnI := ⟨Tryd.f61, [0, 2, 3, 4, 6, 8, 23], 0, false, rounds⟩
noncomputable def i62 : FnI := ⟨Tryd.f62, [0, 2], 0, false, rounds⟩
noncomputable def i63 : FnI := ⟨Tryd.f63, [0, 2], 0, false, rounds⟩
noncomputable def i64 : FnI := ⟨Tryd.f64, [0, 2], 0, false, rounds⟩
noncomputable def i65 : FnI := ⟨Tryd.f65, [0, 1, 2, 6, 7, 8, 9, 10, 11, 13, 16, 17, 21, 38, 41, 52, 62, 69], 0, false, rounds⟩
noncomputable def i66 : FnI := ⟨Tryd.f66, [0, 1, 2, 3, 4, 10, 11, 12, 19, 26, 34], 0, false, rounds⟩
noncomputable def i67 : FnI := ⟨Tryd.f67, [0, 1, 2, 6, 7, 8, 9, 10, 11, 12, 13, 14, 15, 26, 33, 44, 60], 0, false, rounds⟩
noncomputable def i68 : FnI := ⟨Tryd.f68, [0, 2], 0, false, rounds⟩
noncomputable def i69 : FnI := ⟨Tryd.f69, [], 7, false, rounds⟩
noncomputable def i70 : FnI := ⟨Tryd.f70, [0, 1, 2, 5, 6, 7, 14], 0, false, rounds⟩
noncomputable def i71 : FnI := ⟨Tryd.f71, [0, 1, 2, 6, 7, 14, 19, 27, 37], 0, false, rounds⟩
noncomputable def i72 : FnI := ⟨Tryd.f72, [0, 1, 2, 6, 7, 8, 9, 10, 11, 12, 13, 15, 16, 17, 19, 25, 32, 37, 40, 52, 64, 77, 83, 85, 90, 92, 99, 100, 101, 102, 106, 112, 121, 137, 141, 159, 169], 0, false, rounds⟩
noncomputable def i73 : FnI := ⟨Tryd.f73, [0, 1, 4], 0, false, rounds⟩
noncomputable def i74 : FnI := ⟨Tryd.f74, [0, 1, 4], 0, false, rounds⟩
noncomputable def i75 : FnI := ⟨Tryd.f75, [0, 1, 2, 6], 0, false, rounds⟩
noncomputable def i76 : FnI := ⟨Tryd.f76, [0, 1, 2, 6], 0, false, rounds⟩
noncomputable def i77 : FnI := ⟨Tryd.f77, [0, 1, 4, 5, 6], 0, false, rounds⟩
noncomputable def i78 : FnI := ⟨Tryd.f78, [0, 2, 4, 5], 0, false, rounds⟩
noncomputable def i79 : FnI := ⟨Tryd.f79, [0, 2], 0, false, rounds⟩
noncomputable def i80 : FnI := ⟨Tryd.f80, [0, 2, 3, 4, 5, 18, 46, 54, 83, 87, 89, 91], 0, false, rounds⟩
noncomputable def i81 : FnI := ⟨Tryd.f81, [0, 2, 3, 6], 0, false, rounds⟩
noncomputable def i82 : FnI := ⟨Tryd.f82, [0, 2], 0, false, rounds⟩
noncomputable def i83 : FnI := ⟨Tryd.f83, [0, 2], 0, false, rounds⟩
noncomputable def i84 : FnI := ⟨Tryd.f84, [0, 1, 4, 5, 6, 7, 12], 0, false, rounds⟩
noncomputable def i85 : FnI := ⟨Tryd.f85, [0, 2], 0, false, rounds⟩
noncomputable def i86 : FnI := ⟨Tryd.f86, [0, 1, 4, 5, 6, 7, 8, 9, 10, 11, 12, 13, 16, 24, 31, 36, 59, 64, 73, 93, 107, 114, 132, 139], 0, false, rounds⟩
noncomputable def i87 : FnI := ⟨Tryd.f87, [0, 1, 4, 5, 6, 7, 9, 11, 17, 23, 34], 0, false, rounds⟩
noncomputable def i89 : FnI := ⟨Tryd.f89, [0, 2], 0, false, rounds⟩
noncomputable def i90 : FnI := ⟨Tryd.f90, [0, 1, 4, 5, 6, 7, 8, 9, 10, 20, 39, 44, 77], 0, false, rounds⟩
noncomputable def i91 : FnI := ⟨Tryd.f91, [0, 2, 4], 0, false, rounds⟩
noncomputable def i92 : FnI := ⟨Tryd.f92, [0, 2, 3], 0, false, rounds⟩
noncomputable def i93 : FnI := ⟨Tryd.f93, [0, 1, 4, 5, 6, 7, 8, 9, 10, 11, 12, 13, 14, 15, 16, 20, 99, 139, 161], 0, false, rounds⟩
noncomputable def i94 : FnI := ⟨Tryd.f94, [0, 1, 2, 3, 4, 10, 11, 12, 13, 14, 15, 16, 17, 18, 28, 30, 34, 46, 68, 89, 94], 0, false, rounds⟩
noncomputable def i95 : FnI := ⟨Tryd.f95, [0, 2, 3, 4, 5, 6, 7, 8, 12, 25, 30], 0, false, rounds⟩
noncomputable def i96 : FnI := ⟨Tryd.f96, [0, 2], 0, false, rounds⟩
noncomputable def i97 : FnI := ⟨Tryd.f97, [0, 2, 4, 8, 14], 0, false, rounds⟩
noncomputable def i98 : FnI := ⟨Tryd.f98, [0, 2, 3], 0, false, rounds⟩
noncomputable def i99 : FnI := ⟨Tryd.f99, [0, 2], 0, false, rounds⟩
noncomputable def i100 : FnI := ⟨Tryd.f100, [0, 2], 0, false, rounds⟩
noncomputable def i101 : FnI := ⟨Tryd.f101, [0, 2, 4], 0, false, rounds⟩
noncomputable def i102 : FnI := ⟨Tryd.f102, [0, 2, 4], 0, false, rounds⟩
noncomputable def i130 : FnI := ⟨Tryd.f130, [], 0, false, rounds⟩
def lookT : List (Nat × FnI) → Nat → Option FnI
  | [], _ => none
  | (g, i) :: r, f => if g == f then some i else lookT r f
def TabL (P : Program) : List (Nat × FnI) → Prop
  | [] => True
  | (g, i) :: r => ((P.funcs[g]? = some i.fn ∧ (i.fn.name == "runtime.NumGoroutine") = false) ∧ (Nat.beq i.mode 7 = false ∨ (i.fn.body.isNone = true ∧ Extern.findNext i.fn = none ∧ Extern.find i.fn = some Extern.BytealgIndexByte.indexByte))) ∧ TabL P r
theorem lookT_ok {P : Program} : ∀ {l : List (Nat × FnI)} {f : Nat} {i : FnI}, TabL P l → lookT l f = some i → (P.funcs[f]? = some i.fn ∧ (i.fn.name == "runtime.NumGoroutine") = false) ∧ (Nat.beq i.mode 7 = false ∨ (i.fn.body.isNone = true ∧ Extern.findNext i.fn = none ∧ Extern.find i.fn = some Extern.BytealgIndexByte.indexByte))
  | [], f, i, _, h => by simp [lookT] at h
  | (g, j) :: r, f, i, hl, h => by
    simp only [lookT] at h
    split at h
    · rename_i he
      have he : g = f := by simpa using he
      subst he; injection h with h; subst h; exact hl.1
    · exact lookT_ok hl.2 h
noncomputable def tl0 : List (Nat × FnI) := [(2, i2), (3, i3), (4, i4), (5, i5), (6, i6), (7, i7), (8, i8), (9, i9), (10, i10), (11, i11), (12, i12), (13, i13), (14, i14), (15, i15)]
theorem tl0_ok : TabL Tryd.prog tl0 := ⟨⟨⟨Tryd.func2, by kernel_rfl⟩, .inl (by kernel_rfl)⟩, ⟨⟨Tryd.func3, by kernel_rfl⟩, .inl (by kernel_rfl)⟩, ⟨⟨Tryd.func4, by kernel_rfl⟩, .inl (by kernel_rfl)⟩, ⟨⟨Tryd.func5, by kernel_rfl⟩, .inl (by kernel_rfl)⟩, ⟨⟨Tryd.func6, by kernel_rfl⟩, .inl (by kernel_rfl)⟩, ⟨⟨Tryd.func7, by kernel_rfl⟩, .inl (by kernel_rfl)⟩, ⟨⟨Tryd.func8, by kernel_rfl⟩, .inl (by kernel_rfl)⟩, ⟨⟨Tryd.func9, by kernel_rfl⟩, .inl (by kernel_rfl)⟩, ⟨⟨Tryd.func10, by kernel_rfl⟩, .inl (by kernel_rfl)⟩, ⟨⟨Tryd.func11, by kernel_rfl⟩, .inl (by kernel_rfl)⟩, ⟨⟨Tryd.func12, by kernel_rfl⟩, .inl (by kernel_rfl)⟩, ⟨⟨Tryd.func13, by kernel_rfl⟩, .inl (by kernel_rfl)⟩, ⟨⟨Tryd.func14, by kernel_rfl⟩, .inl (by kernel_rfl)⟩, ⟨⟨Tryd.func15, by kernel_rfl⟩, .inl (by kernel_rfl)⟩, trivial⟩
noncomputable def tl1 : List (Nat × FnI) := [(16, i16), (17, i17), (18, i18), (19, i19), (20, i20), (21, i21), (22, i22), (23, i23), (24, i24), (25, i25), (26, i26), (27, i27), (28, i28), (29, i29), (30, i30), (31, i31)]
theorem tl1_ok : TabL Tryd.prog tl1 := ⟨⟨⟨Tryd.func16, by kernel_rfl⟩, .inl (by kernel_rfl)⟩, ⟨⟨Tryd.func17, by kernel_rfl⟩, .inl (by kernel_rfl)⟩, ⟨⟨Tryd.func18, by kernel_rfl⟩, .inl (by kernel_rfl)⟩, ⟨⟨Tryd.func19, by kernel_rfl⟩, .inl (by kernel_rfl)⟩, ⟨⟨Tryd.func20, by kernel_rfl⟩, .inl (by kernel_rfl)⟩, ⟨⟨Tryd.func21, by kernel_rfl⟩, .inl (by kernel_rfl)⟩, ⟨⟨Tryd.func22, by kernel_rfl⟩, .inl (by kernel_rfl)⟩, ⟨⟨Tryd.func23, by kernel_rfl⟩, .inl (by kernel_rfl)⟩, ⟨⟨Tryd.func24, by kernel_rfl⟩, .inl (by kernel_rfl)⟩, ⟨⟨Tryd.func25, by kernel_rfl⟩, .inl (by kernel_rfl)⟩, ⟨⟨Tryd.func26, by kernel_rfl⟩, .inl (by kernel_rfl)⟩, ⟨⟨Tryd.func27, by kernel_rfl⟩, .inl (by kernel_rfl)⟩, ⟨⟨Tryd.func28, by kernel_rfl⟩, .inl (by kernel_rfl)⟩, ⟨⟨Tryd.func29, by kernel_rfl⟩, .inl (by kernel_rfl)⟩, ⟨⟨Tryd.func30, by kernel_rfl⟩, .inl (by kernel_rfl)⟩, ⟨⟨Tryd.func31, by kernel_rfl⟩, .inl (by kernel_rfl)⟩, trivial⟩
noncomputable def tl2 : List (Nat × FnI) := [(32, i32), (33, i33), (34, i34), (35, i35), (36, i36), (37, i37), (38, i38), (39, i39), (40, i40), (41, i41), (42, i42), (43, i43), (44, i44), (45, i45), (46, i46), (47, i47)]
theorem tl2_ok : TabL Tryd.prog tl2 := ⟨⟨⟨Tryd.func32, by kernel_rfl⟩, .inl (by kernel_rfl)⟩, ⟨⟨Tryd.func33, by kernel_rfl⟩, .inl (by kernel_rfl)⟩, ⟨⟨Tryd.func34, by kernel_rfl⟩, .inl (by kernel_rfl)⟩, ⟨⟨Tryd.func35, by kernel_rfl⟩, .inl (by kernel_rfl)⟩, ⟨⟨Tryd.func36, by kernel_rfl⟩, .inl (by kernel_rfl)⟩, ⟨⟨Tryd.func37, by kernel_rfl⟩, .inl (by kernel_rfl)⟩, ⟨⟨Tryd.func38, by kernel_rfl⟩, .inl (by kernel_rfl)⟩, ⟨⟨Tryd.func39, by kernel_rfl⟩, .inl (by kernel_rfl)⟩, ⟨⟨Tryd.func40, by kernel_rfl⟩, .inl (by kernel_rfl)⟩, ⟨⟨Tryd.func41, by kernel_rfl⟩, .inl (by kernel_rfl)⟩, ⟨⟨Tryd.func42, by kernel_rfl⟩, .inl (by kernel_rfl)⟩, ⟨⟨Tryd.func43, by kernel_rfl⟩, .inl (by kernel_rfl)⟩, ⟨⟨Tryd.func44, by kernel_rfl⟩, .inl (by kernel_rfl)⟩, ⟨⟨Tryd.func45, by kernel_rfl⟩, .inl (by kernel_rfl)⟩, ⟨⟨Tryd.func46, by kernel_rfl⟩, .inl (by kernel_rfl)⟩, ⟨⟨Tryd.func47, by kernel_rfl⟩, .inl (by kernel_rfl)⟩, trivial⟩
noncomputable def tl3 : List (Nat × FnI) := [(48, i48), (49, i49), (50, i50), (51, i51), (52, i52), (53, i53), (54, i54), (55, i55), (56, i56), (57, i57), (58, i58), (59, i59), (60, i60), (61, i61), (62, i62), (63, i63)]
theorem tl3_ok : TabL Tryd.prog tl3 := ⟨⟨⟨Tryd.func48, by kernel_rfl⟩, .inl (by kernel_rfl)⟩, ⟨⟨Tryd.func49, by kernel_rfl⟩, .inl (by kernel_rfl)⟩, ⟨⟨Tryd.func50, by kernel_rfl⟩, .inl (by kernel_rfl)⟩, ⟨⟨Tryd.func51, by kernel_rfl⟩, .inl (by kernel_rfl)⟩, ⟨⟨Tryd.func52, by kernel_rfl⟩, .inl (by kernel_rfl)⟩, ⟨⟨Tryd.func53, by kernel_rfl⟩, .inl (by kernel_rfl)⟩, ⟨⟨Tryd.func54, by kernel_rfl⟩, .inl (by kernel_rfl)⟩, ⟨⟨Tryd.func55, by kernel_rfl⟩, .inl (by kernel_rfl)⟩, ⟨⟨Tryd.func56, by kernel_rfl⟩, .inl (by kernel_rfl)⟩, ⟨⟨Tryd.func57, by kernel_rfl⟩, .inl (by kernel_rfl)⟩, ⟨⟨Tryd.func58, by kernel_rfl⟩, .inl (by kernel_rfl)⟩, ⟨⟨Tryd.func59, by kernel_rfl⟩, .inl (by kernel_rfl)⟩, ⟨⟨Tryd.func60, by kernel_rfl⟩, .inl (by kernel_rfl)⟩, ⟨⟨Tryd.func61, by kernel_rfl⟩, .inl (by kernel_rfl)⟩, ⟨⟨Tryd.func62, by kernel_rfl⟩, .inl (by kernel_rfl)⟩, ⟨⟨Tryd.func63, by kernel_rfl⟩, .inl (by kernel_rfl)⟩, trivial⟩
noncomputable def tl4 : List (Nat × FnI) := [(64, i64), (65, i65), (66, i66), (67, i67), (68, i68), (69, i69), (70, i70), (71, i71), (72, i72), (73, i73), (74, i74), (75, i75), (76, i76), (77, i77), (78, i78), (79, i79)]
theorem tl4_ok : TabL Tryd.prog tl4 := ⟨⟨⟨Tryd.func64, by kernel_rfl⟩, .inl (by kernel_rfl)⟩, ⟨⟨Tryd.func65, by kernel_rfl⟩, .inl (by kernel_rfl)⟩, ⟨⟨Tryd.func66, by kernel_rfl⟩, .inl (by kernel_rfl)⟩, ⟨⟨Tryd.func67, by kernel_rfl⟩, .inl (by kernel_rfl)⟩, ⟨⟨Tryd.func68, by kernel_rfl⟩, .inl (by kernel_rfl)⟩, ⟨⟨Tryd.func69, by kernel_rfl⟩, .inr ⟨by kernel_rfl, by kernel_rfl, by kernel_rfl⟩⟩, ⟨⟨Tryd.func70, by kernel_rfl⟩, .inl (by kernel_rfl)⟩, ⟨⟨Tryd.func71, by kernel_rfl⟩, .inl (by kernel_rfl)⟩, ⟨⟨Tryd.func72, by kernel_rfl⟩, .inl (by kernel_rfl)⟩, ⟨⟨Tryd.func73, by kernel_rfl⟩, .inl (by kernel_rfl)⟩, ⟨⟨Tryd.func74, by kernel_rfl⟩, .inl (by kernel_rfl)⟩, ⟨⟨Tryd.func75, by kernel_rfl⟩, .inl (by kernel_rfl)⟩, ⟨⟨Tryd.func76, by kernel_rfl⟩, .inl (by kernel_rfl)⟩, ⟨⟨Tryd.func77, by kernel_rfl⟩, .inl (by kernel_rfl)⟩, ⟨⟨Tryd.func78, by kernel_rfl⟩, .inl (by kernel_rfl)⟩, ⟨⟨Tryd.func79, by kernel_rfl⟩, .inl (by kernel_rfl)⟩, trivial⟩
noncomputable def tl5 : List (Nat × FnI) := [(80, i80), (81, i81), (82, i82), (83, i83), (84, i84), (85, i85), (86, i86), (87, i87), (89, i89), (90, i90), (91, i91), (92, i92), (93, i93), (94, i94), (95, i95)]
theorem tl5_ok : TabL Tryd.prog tl5 := ⟨⟨⟨Tryd.func80, by kernel_rfl⟩, .inl (by kernel_rfl)⟩, ⟨⟨Tryd.func81, by kernel_rfl⟩, .inl (by kernel_rfl)⟩, ⟨⟨Tryd.func82, by kernel_rfl⟩, .inl (by kernel_rfl)⟩, ⟨⟨Tryd.func83, by kernel_rfl⟩, .inl (by kernel_rfl)⟩, ⟨⟨Tryd.func84, by kernel_rfl⟩, .inl (by kernel_rfl)⟩, ⟨⟨Tryd.func85, by kernel_rfl⟩, .inl (by kernel_rfl)⟩, ⟨⟨Tryd.func86, by kernel_rfl⟩, .inl (by kernel_rfl)⟩, ⟨⟨Tryd.func87, by kernel_rfl⟩, .inl (by kernel_rfl)⟩, ⟨⟨Tryd.func89, by kernel_rfl⟩, .inl (by kernel_rfl)⟩, ⟨⟨Tryd.func90, by kernel_rfl⟩, .inl (by kernel_rfl)⟩, ⟨⟨Tryd.func91, by kernel_rfl⟩, .inl (by kernel_rfl)⟩, ⟨⟨Tryd.func92, by kernel_rfl⟩, .inl (by kernel_rfl)⟩, ⟨⟨Tryd.func93, by kernel_rfl⟩, .inl (by kernel_rfl)⟩, ⟨⟨Tryd.func94, by kernel_rfl⟩, .inl (by kernel_rfl)⟩, ⟨⟨Tryd.func95, by kernel_rfl⟩, .inl (by kernel_rfl)⟩, trivial⟩
noncomputable def tl6 : List (Nat × FnI) := [(96, i96), (97, i97), (98, i98), (99, i99), (100, i100), (101, i101), (102, i102)]
theorem tl6_ok : TabL Tryd.prog tl6 := ⟨⟨⟨Tryd.func96, by kernel_rfl⟩, .inl (by kernel_rfl)⟩, ⟨⟨Tryd.func97, by kernel_rfl⟩, .inl (by kernel_rfl)⟩, ⟨⟨Tryd.func98, by kernel_rfl⟩, .inl (by kernel_rfl)⟩, ⟨⟨Tryd.func99, by kernel_rfl⟩, .inl (by kernel_rfl)⟩, ⟨⟨Tryd.func100, by kernel_rfl⟩, .inl (by kernel_rfl)⟩, ⟨⟨Tryd.func101, by kernel_rfl⟩, .inl (by kernel_rfl)⟩, ⟨⟨Tryd.func102, by kernel_rfl⟩, .inl (by kernel_rfl)⟩, trivial⟩
noncomputable def tl8 : List (Nat × FnI) := [(130, i130)]
theorem tl8_ok : TabL Tryd.prog tl8 := ⟨⟨⟨Tryd.func130, by kernel_rfl⟩, .inl (by kernel_rfl)⟩, trivial⟩
noncomputable def tab (f : FuncId) : Option FnI :=
  match f / 16 with
  | 0 => lookT tl0 f
  | 1 => lookT tl1 f
  | 2 => lookT tl2 f
  | 3 => lookT tl3 f
  | 4 => lookT tl4 f
  | 5 => lookT tl5 f
  | 6 => lookT tl6 f
  | 8 => lookT tl8 f
  | _ => none
theorem tab_ok : Tab Tryd.prog tab := by
  intro f i h
  unfold tab at h
  split at h
  · exact lookT_ok tl0_ok h
  · exact lookT_ok tl1_ok h
  · exact lookT_ok tl2_ok h
  · exact lookT_ok tl3_ok h
  · exact lookT_ok tl4_ok h
  · exact lookT_ok tl5_ok h
  · exact lookT_ok tl6_ok h
  · exact lookT_ok tl8_ok h
  · cases h

end Go.Proofs.YtkiicnfpogdmgaaDoor.T
