/- The table of the functions, for the plain reckoning. -/
import Derived.Test.YtppbeklokajeaaaGreatEyJ
import Derived.Test.YtppbeklokajeaaaGreatProg
import Derived.KernelRfl
namespace Go.Proofs.YtppbeklokajeaaaGreat.T
open Go.Dx Go.Proofs
def rounds : Nat := 1000000000
noncomputable def i2 : FnI := ⟨Tryz.f2, [], 0, false, rounds⟩
noncomputable def i3 : FnI := ⟨Tryz.f3, [0, 1, 3, 4, 5, 6, 7, 8, 24], 0, false, rounds⟩
noncomputable def i4 : FnI := ⟨Tryz.f4, [0, 2, 3, 6], 0, false, rounds⟩
noncomputable def i5 : FnI := ⟨Tryz.f5, [0, 2, 3, 4, 5, 6, 7, 8, 9, 10, 13, 20, 31, 64], 0, false, rounds⟩
noncomputable def i6 : FnI := ⟨Tryz.f6, [0, 2, 3, 4, 5, 8, 15], 0, false, rounds⟩
noncomputable def i7 : FnI := ⟨Tryz.f7, [0, 1, 2, 6, 7, 8, 9, 10, 11, 12, 15, 61, 64], 0, false, rounds⟩
noncomputable def i8 : FnI := ⟨Tryz.f8, [0, 2, 3, 4, 6, 7], 0, false, rounds⟩
noncomputable def i9 : FnI := ⟨Tryz.f9, [0, 1, 2, 3, 4, 9], 0, false, rounds⟩
noncomputable def i10 : FnI := ⟨Tryz.f10, [0, 1, 2, 3, 4, 9], 0, false, rounds⟩
noncomputable def i11 : FnI := ⟨Tryz.f11, [0, 1, 3, 4, 5, 6], 2, false, rounds⟩
noncomputable def i12 : FnI := ⟨Tryz.f12, [0, 1, 3, 4, 5, 6, 7, 8, 9, 10, 35, 64, 84], 1, false, rounds⟩
noncomputable def i13 : FnI := ⟨Tryz.f13, [0, 1, 3, 4, 5, 6, 7, 8, 23, 43, 64, 84], 0, false, rounds⟩
noncomputable def i14 : FnI := ⟨Tryz.f14, [0, 1, 2, 3, 4, 5, 34, 39, 53], 0, false, rounds⟩
noncomputable def i15 : FnI := ⟨Tryz.f15, [0, 1, 4, 5, 10, 14, 58], 0, false, rounds⟩
noncomputable def i16 : FnI := ⟨Tryz.f16, [0, 2, 3, 4, 5, 6, 7, 8, 9, 16, 17, 18, 19, 20, 30, 31, 32], 1, false, rounds⟩
noncomputable def i17 : FnI := ⟨Tryz.f17, [0, 2, 3, 4, 5, 6, 7, 8, 9, 10, 11, 14, 18, 32, 49, 53, 73, 87, 104], 0, false, rounds⟩
noncomputable def i18 : FnI := ⟨Tryz.f18, [0, 2], 0, false, rounds⟩
noncomputable def i19 : FnI := ⟨Tryz.f19, [0, 2, 3, 4, 5, 6, 7, 14, 26, 29], 0, false, rounds⟩
noncomputable def i20 : FnI := ⟨Tryz.f20, [0, 1, 2], 0, false, rounds⟩
noncomputable def i21 : FnI := ⟨Tryz.f21, [0, 1, 2, 3, 4, 14], 0, false, rounds⟩
noncomputable def i22 : FnI := ⟨Tryz.f22, [0, 1, 4, 9], 0, false, rounds⟩
noncomputable def i23 : FnI := ⟨Tryz.f23, [0, 1, 2, 6, 7, 11, 12, 31, 45, 55, 74, 89, 106, 110, 114], 0, false, rounds⟩
noncomputable def i24 : FnI := ⟨Tryz.f24, [0, 2], 0, false, rounds⟩
noncomputable def i25 : FnI := ⟨Tryz.f25, [0, 1, 3, 4, 5, 6], 1, false, rounds⟩
noncomputable def i26 : FnI := ⟨Tryz.f26, [0, 1, 4, 5, 10, 14, 25], 1, false, rounds⟩
noncomputable def i27 : FnI := ⟨Tryz.f27, [0, 2, 3, 4, 5, 6, 7, 8, 10, 19, 26, 27, 28, 29, 74, 86], 1, false, rounds⟩
noncomputable def i28 : FnI := ⟨Tryz.f28, [0, 2, 3, 4, 5, 6, 8, 9, 10, 11, 13, 18, 19, 20, 21, 32, 44, 54, 55, 56, 57, 69], 0, false, rounds⟩
noncomputable def i29 : FnI := ⟨Tryz.f29, [0, 1, 2, 4, 5, 7, 8, 9, 10, 11, 22], 0, false, rounds⟩
noncomputable def i30 : FnI := ⟨Tryz.f30, [0, 1, 4, 5, 6, 7, 8, 9, 10, 30, 40, 61, 62, 63, 64, 133], 0, false, rounds⟩
noncomputable def i31 : FnI := ⟨Tryz.f31, [0, 1, 2], 0, false, rounds⟩
noncomputable def i32 : FnI := ⟨Tryz.f32, [0, 1, 2, 3, 5, 12, 13, 14, 15], 0, false, rounds⟩
noncomputable def i33 : FnI := ⟨Tryz.f33, [0, 2, 3, 7, 23], 0, false, rounds⟩
noncomputable def i34 : FnI := ⟨Tryz.f34, [0, 1, 2, 4, 5, 6, 10, 27], 0, false, rounds⟩
noncomputable def i35 : FnI := ⟨Tryz.f35, [0, 2], 0, false, rounds⟩
noncomputable def i36 : FnI := ⟨Tryz.f36, [0, 1, 4, 5, 6, 7, 8, 29], 0, false, rounds⟩
noncomputable def i37 : FnI := ⟨Tryz.f37, [0, 1, 4, 5, 10, 14, 25], 0, false, rounds⟩
noncomputable def i38 : FnI := ⟨Tryz.f38, [0, 1, 4], 0, false, rounds⟩
noncomputable def i39 : FnI := ⟨Tryz.f39, [0, 1, 2, 3, 4, 5, 14], 0, false, rounds⟩
noncomputable def i40 : FnI := ⟨Tryz.f40, [0, 1, 4, 5, 6, 7, 8, 9, 10, 11, 12, 19, 28, 35], 0, false, rounds⟩
noncomputable def i41 : FnI := ⟨Tryz.f41, [0, 1, 4, 8, 9, 27, 44, 52], 0, false, rounds⟩
noncomputable def i42 : FnI := ⟨Tryz.f42, [0, 1, 2, 6, 7, 8, 9, 10, 11, 12, 51, 71, 85, 88, 94], 0, false, rounds⟩
noncomputable def i43 : FnI := ⟨Tryz.f43, [0, 1, 2], 0, false, rounds⟩
noncomputable def i44 : FnI := ⟨Tryz.f44, [0, 1, 2, 3, 4], 0, false, rounds⟩
noncomputable def i45 : FnI := ⟨Tryz.f45, [0, 1, 2, 5, 6, 7, 8], 0, false, rounds⟩
noncomputable def i46 : FnI := ⟨Tryz.f46, [0, 1, 2, 3, 4, 5, 19, 34, 56], 0, false, rounds⟩
noncomputable def i47 : FnI := ⟨Tryz.f47, [0, 1, 4, 14], 0, false, rounds⟩
noncomputable def i48 : FnI := ⟨Tryz.f48, [0, 1, 4, 5, 6, 12, 26], 0, false, rounds⟩
noncomputable def i49 : FnI := ⟨Tryz.f49, [0, 1, 2], 0, false, rounds⟩
noncomputable def i50 : FnI := ⟨Tryz.f50, [0, 1, 2, 4, 6, 7, 16], 0, false, rounds⟩
noncomputable def i51 : FnI := ⟨Tryz.f51, [0, 1, 2], 0, false, rounds⟩
noncomputable def i52 : FnI := ⟨Tryz.f52, [0, 2, 3, 4, 5, 6, 7, 8, 9, 10, 11, 12, 13, 16, 21, 27, 32, 36, 39, 57, 71], 1, false, rounds⟩
noncomputable def i53 : FnI := ⟨Tryz.f53, [0, 1, 4, 5, 6, 7, 8, 27, 31, 36, 60], 0, false, rounds⟩
noncomputable def i54 : FnI := ⟨Tryz.f54, [0, 1, 2, 3, 5, 7, 8, 9, 10], 0, false, rounds⟩
noncomputable def i55 : FnI := ⟨Tryz.f55, [0, 1, 2, 3, 4, 19, 21, 22, 23, 24, 42], 0, false, rounds⟩
noncomputable def i56 : FnI := ⟨Tryz.f56, [0, 1, 2, 3, 5, 15, 16, 17, 18], 0, false, rounds⟩
noncomputable def i57 : FnI := ⟨Tryz.f57, [0, 1, 2, 6, 7, 8, 9, 10, 11, 12, 13, 56, 65, 86, 93, 105, 111, 112], 0, false, rounds⟩
noncomputable def i58 : FnI := ⟨Tryz.f58, [0, 1, 2], 0, false, rounds⟩
noncomputable def i59 : FnI := ⟨Tryz.f59, [0, 1, 2, 4, 8, 11, 21, 38], 0, false, rounds⟩
noncomputable def i60 : FnI := ⟨Tryz.f60, [0, 1, 2, 5, 6, 7, 8, 20], 0, false, rounds⟩
noncomputable def i61 : FnI := ⟨Tryz.f61, [0, 2, 3, 9], 0, false, rounds⟩
noncomputable def i62 : FnI := ⟨Tryz.f62, [0, 1, 2, 3, 5, 8, 9, 26], 0, false, rounds⟩
noncomputable def i63 : FnI := ⟨Tryz.f63, [0, 1, 2, 3, 4], 0, false, rounds⟩
noncomputable def i64 : FnI := ⟨Tryz.f64, [0, 1, 2, 3, 18, 23, 44], 0, false, rounds⟩
noncomputable def i65 : FnI := ⟨Tryz.f65, [0, 1, 2, 3, 5, 8, 9, 28], 0, false, rounds⟩
noncomputable def i66 : FnI := ⟨Tryz.f66, [0, 1, 2, 3, 4, 10, 11, 12, 13, 14, 15, 16, 17, 18, 19, 20, 25, 32, 39, 56, 75, 80, 97, 125], 0, false, rounds⟩
noncomputable def i67 : FnI := ⟨Tryz.f67, [0, 2], 0, false, rounds⟩
noncomputable def i68 : FnI := ⟨Tryz.f68, [0, 1, 4, 5, 6, 11, 12, 13, 16, 19], 0, false, rounds⟩
noncomputable def i69 : FnI := ⟨Tryz.f69, [0, 1, 2, 6, 7, 8, 9, 10, 11, 15, 30, 36, 49, 62], 0, false, rounds⟩
noncomputable def i70 : FnI := ⟨Tryz.f70, [0, 1, 4], 0, false, rounds⟩
noncomputable def i71 : FnI := ⟨Tryz.f71, [0, 1, 2, 5], 0, false, rounds⟩
noncomputable def i72 : FnI := ⟨Tryz.f72, [0, 1, 3, 4, 5, 9, 17], 0, false, rounds⟩
noncomputable def i73 : FnI := ⟨Tryz.f73, [0, 1, 2, 5, 6, 7, 8, 9, 10, 11, 12, 18, 29, 33], 0, false, rounds⟩
noncomputable def i74 : FnI := ⟨Tryz.f74, [0, 2, 3, 4, 7, 22], 0, false, rounds⟩
noncomputable def i75 : FnI := ⟨Tryz.f75, [0, 1, 2, 5], 0, false, rounds⟩
noncomputable def i76 : FnI := ⟨Tryz.f76, [0, 1, 3, 4, 5, 6, 16, 21, 38], 0, false, rounds⟩
noncomputable def i77 : FnI := ⟨Tryz.f77, [0, 1, 2], 0, false, rounds⟩
noncomputable def i78 : FnI := ⟨Tryz.f78, [0, 1, 2, 3, 4, 41, 44, 53], 0, false, rounds⟩
noncomputable def i79 : FnI := ⟨Tryz.f79, [0, 1, 2, 3, 4, 9], 0, false, rounds⟩
noncomputable def i80 : FnI := ⟨Tryz.f80, [0, 1, 2, 3, 4, 5, 8, 14, 40], 0, false, rounds⟩
noncomputable def i81 : FnI := ⟨Tryz.f81, [0, 2], 0, false, rounds⟩
noncomputable def i82 : FnI := ⟨Tryz.f82, [0, 1, 4, 5, 6, 7, 8, 12, 22, 35, 45, 50, 53, 63, 82, 88], 0, false, rounds⟩
noncomputable def i83 : FnI := ⟨Tryz.f83, [0, 1, 4, 5, 27], 0, false, rounds⟩
noncomputable def i84 : FnI := ⟨Tryz.f84, [0, 1, 4, 5, 16], 0, false, rounds⟩
noncomputable def i85 : FnI := ⟨Tryz.f85, [0, 1, 4], 0, false, rounds⟩
noncomputable def i86 : FnI := ⟨Tryz.f86, [0, 1, 8], 0, false, rounds⟩
noncomputable def i87 : FnI := ⟨Tryz.f87, [0, 2, 3, 4, 5, 6, 7, 8, 9, 10, 11, 12, 13, 14, 15, 40, 49, 75], 0, false, rounds⟩
noncomputable def i88 : FnI := ⟨Tryz.f88, [0, 2, 3, 4, 5, 6], 0, false, rounds⟩
noncomputable def i89 : FnI := ⟨Tryz.f89, [0, 1, 4, 5, 6, 9, 10, 13, 18, 21, 26, 29, 32, 44, 45, 48, 49, 54, 55, 58, 59, 62, 63, 66, 67, 70], 0, false, rounds⟩
noncomputable def i90 : FnI := ⟨Tryz.f90, [0, 1, 4, 5, 8, 9, 14, 21, 29, 33, 37, 45], 0, false, rounds⟩
noncomputable def i91 : FnI := ⟨Tryz.f91, [0, 1, 2, 3, 8, 9, 10, 18, 20, 27, 36, 42, 46], 0, false, rounds⟩
noncomputable def i92 : FnI := ⟨Tryz.f92, [0, 1, 2, 6, 7, 8, 9, 10, 11, 12, 13, 14, 15, 26, 33, 44, 60], 0, false, rounds⟩
noncomputable def i93 : FnI := ⟨Tryz.f93, [0, 1, 2, 5, 6, 7, 8, 9, 10, 11, 12, 13, 17, 26, 37, 43, 67], 0, false, rounds⟩
noncomputable def i94 : FnI := ⟨Tryz.f94, [0, 1, 2, 3, 5, 8, 9, 10, 11, 12, 13, 14, 15, 16, 18, 19, 22, 25, 29, 35, 45, 54, 61, 65, 66, 67, 77, 81, 90, 94, 113, 121, 128, 131, 150, 157], 0, false, rounds⟩
noncomputable def i95 : FnI := ⟨Tryz.f95, [0, 1, 4, 5, 10, 12, 13, 14, 24], 0, false, rounds⟩
noncomputable def i96 : FnI := ⟨Tryz.f96, [0, 1, 2, 3, 4, 5, 34, 37, 38, 39, 52], 0, false, rounds⟩
noncomputable def i97 : FnI := ⟨Tryz.f97, [0, 1, 4, 5, 6, 9, 10, 13, 18, 22, 28, 41, 44, 49, 53, 56, 59, 63, 67], 0, false, rounds⟩
noncomputable def i98 : FnI := ⟨Tryz.f98, [0, 1, 4, 5, 8, 9, 14, 21, 29, 37, 41, 45], 0, false, rounds⟩
noncomputable def i99 : FnI := ⟨Tryz.f99, [0, 1, 2, 3, 6, 7, 12, 13, 21, 23, 24, 30, 38, 44, 48], 0, false, rounds⟩
noncomputable def i100 : FnI := ⟨Tryz.f100, [0, 1, 2, 3, 5, 8, 9, 10, 11, 12, 13, 15, 16, 19, 22, 26, 32, 42, 52, 59, 66, 85, 92, 98, 101, 121, 128], 0, false, rounds⟩
noncomputable def i101 : FnI := ⟨Tryz.f101, [0, 1, 2, 3, 8, 9, 14, 34], 0, false, rounds⟩
noncomputable def i102 : FnI := ⟨Tryz.f102, [0, 1, 2, 3, 8, 9, 10, 11, 12, 21, 33], 0, false, rounds⟩
noncomputable def i103 : FnI := ⟨Tryz.f103, [0, 1, 2, 8, 9, 10, 11, 12, 17, 35, 45], 0, false, rounds⟩
noncomputable def i104 : FnI := ⟨Tryz.f104, [0, 1, 2, 3, 8, 9, 10, 11, 12, 13, 14, 34, 36, 55, 57, 60], 0, false, rounds⟩
noncomputable def i105 : FnI := ⟨Tryz.f105, [0, 1, 2, 8, 9, 15], 0, false, rounds⟩
noncomputable def i106 : FnI := ⟨Tryz.f106, [0, 1, 2, 3, 8, 9, 10, 11, 12, 16, 36, 41, 45, 65, 69, 84, 104, 109, 124], 0, false, rounds⟩
noncomputable def i107 : FnI := ⟨Tryz.f107, [0, 1, 2, 3, 4, 10, 11, 12, 47, 65, 70], 0, false, rounds⟩
noncomputable def i108 : FnI := ⟨Tryz.f108, [0, 1, 2, 3, 4, 10, 11, 12, 13, 47, 66, 71, 120, 139, 144], 0, false, rounds⟩
noncomputable def i109 : FnI := ⟨Tryz.f109, [0, 2, 4, 8], 0, false, rounds⟩
noncomputable def i110 : FnI := ⟨Tryz.f110, [0, 2, 4, 8, 14], 0, false, rounds⟩
noncomputable def i111 : FnI := ⟨Tryz.f111, [0, 2], 0, false, rounds⟩
noncomputable def i112 : FnI := ⟨Tryz.f112, [0, 2, 3, 7, 13], 0, false, rounds⟩
noncomputable def i113 : FnI := ⟨Tryz.f113, [0, 1, 2, 3, 4, 7], 0, false, rounds⟩
noncomputable def i114 : FnI := ⟨Tryz.f114, [0, 1, 4], 0, false, rounds⟩
noncomputable def i115 : FnI := ⟨Tryz.f115, [0, 1, 4, 6, 7, 11, 14, 17, 24], 0, false, rounds⟩
noncomputable def i116 : FnI := ⟨Tryz.f116, [0, 1, 4, 5, 6, 7, 8, 9, 10, 11, 19, 23, 24, 25, 32, 38, 44, 50, 54, 57, 67, 82, 89, 102, 118, 134, 145], 0, false, rounds⟩
noncomputable def i117 : FnI := ⟨Tryz.f117, [0, 1, 2, 4, 5, 6, 7, 8, 9, 10, 28, 51, 57, 58, 63, 78, 85, 92, 99], 0, false, rounds⟩
noncomputable def i118 : FnI := ⟨Tryz.f118, [0, 1, 2, 3, 4, 14, 19, 35, 40, 49], 0, false, rounds⟩
noncomputable def i119 : FnI := ⟨Tryz.f119, [0, 1, 2], 0, false, rounds⟩
noncomputable def i120 : FnI := ⟨Tryz.f120, [0, 1, 4, 5, 6, 8, 16], 0, false, rounds⟩
noncomputable def i121 : FnI := ⟨Tryz.f121, [0, 2], 0, false, rounds⟩
noncomputable def i122 : FnI := ⟨Tryz.f122, [0, 1, 4, 5, 6, 7, 8, 9, 10, 11, 47, 64, 67, 71, 74, 78, 83], 0, false, rounds⟩
noncomputable def i123 : FnI := ⟨Tryz.f123, [0, 2], 0, false, rounds⟩
noncomputable def i124 : FnI := ⟨Tryz.f124, [0, 1, 4, 5, 6, 7, 8, 14, 20, 25, 41], 0, false, rounds⟩
noncomputable def i125 : FnI := ⟨Tryz.f125, [0, 1, 4], 0, false, rounds⟩
noncomputable def i126 : FnI := ⟨Tryz.f126, [0, 2, 12], 0, false, rounds⟩
noncomputable def i127 : FnI := ⟨Tryz.f127, [0, 2, 12], 0, false, rounds⟩
noncomputable def i128 : FnI := ⟨Tryz.f128, [0, 2, 3, 4], 0, false, rounds⟩
noncomputable def i129 : FnI := ⟨Tryz.f129, [0, 2, 3, 4, 5, 6, 7, 14, 21, 28, 42], 0, false, rounds⟩
noncomputable def i130 : FnI := ⟨Tryz.f130, [0, 2, 3, 4, 5, 6, 7, 8, 9, 10, 11, 12, 13, 14, 15, 16, 17, 44, 83], 0, false, rounds⟩
noncomputable def i131 : FnI := ⟨Tryz.f131, [0, 2, 3, 4, 6, 8, 23], 0, false, rounds⟩
noncomputable def i132 : FnI := ⟨Tryz.f132, [0, 2], 0, false, rounds⟩
noncomputable def i133 : FnI := ⟨Tryz.f133, [0, 2], 0, false, rounds⟩
noncomputable def i134 : FnI := ⟨Tryz.f134, [0, 2], 0, false, rounds⟩
noncomputable def i135 : FnI := ⟨Tryz.f135, [0, 2], 0, false, rounds⟩
noncomputable def i136 : FnI := ⟨Tryz.f136, [0, 1, 4, 5, 6], 0, false, rounds⟩
noncomputable def i137 : FnI := ⟨Tryz.f137, [0, 2], 0, false, rounds⟩
noncomputable def i138 : FnI := ⟨Tryz.f138, [0, 1, 2, 3, 5, 8, 9, 10, 11, 12, 13, 14, 15, 16, 32, 55, 63, 64, 65, 66, 101, 110], 0, false, rounds⟩
noncomputable def i139 : FnI := ⟨Tryz.f139, [0, 1, 2, 3, 4, 6, 10], 0, false, rounds⟩
noncomputable def i140 : FnI := ⟨Tryz.f140, [0, 1, 4], 0, false, rounds⟩
noncomputable def i141 : FnI := ⟨Tryz.f141, [0, 1, 2, 3, 5, 8, 9, 10, 11, 12, 13, 14, 15, 16, 28, 29, 33, 34, 35, 36, 47, 61, 67, 72, 78, 82, 91, 92, 93, 94, 100, 110], 0, false, rounds⟩
noncomputable def i142 : FnI := ⟨Tryz.f142, [0, 1, 4, 5, 10, 12, 13, 14, 24], 0, false, rounds⟩
noncomputable def i143 : FnI := ⟨Tryz.f143, [0, 1, 2, 6, 9], 0, false, rounds⟩
noncomputable def i144 : FnI := ⟨Tryz.f144, [0, 2, 3, 15, 27], 0, false, rounds⟩
noncomputable def i145 : FnI := ⟨Tryz.f145, [0, 2, 3, 4], 0, false, rounds⟩
noncomputable def i146 : FnI := ⟨Tryz.f146, [0, 2], 0, false, rounds⟩
noncomputable def i147 : FnI := ⟨Tryz.f147, [0, 2], 0, false, rounds⟩
noncomputable def i148 : FnI := ⟨Tryz.f148, [0, 2], 0, false, rounds⟩
noncomputable def i149 : FnI := ⟨Tryz.f149, [0, 1, 2, 3, 5, 8, 9, 10, 11, 12, 13, 14, 15, 16, 33, 38, 58, 66, 99, 104], 0, false, rounds⟩
noncomputable def i150 : FnI := ⟨Tryz.f150, [0, 1, 2, 3, 5, 8, 9, 10, 11, 17, 28, 32, 40], 0, false, rounds⟩
noncomputable def i151 : FnI := ⟨Tryz.f151, [0, 1, 2, 3, 4, 6, 10], 0, false, rounds⟩
noncomputable def i152 : FnI := ⟨Tryz.f152, [0, 1, 2, 3, 5, 8, 9, 10, 11, 12, 13, 29, 30, 43, 58, 68, 72, 80, 89, 93, 100, 106, 112], 0, false, rounds⟩
noncomputable def i153 : FnI := ⟨Tryz.f153, [0, 1, 2, 3, 4, 10, 11, 18, 40, 58], 0, false, rounds⟩
noncomputable def i154 : FnI := ⟨Tryz.f154, [0, 2], 0, false, rounds⟩
noncomputable def i155 : FnI := ⟨Tryz.f155, [0, 2], 0, false, rounds⟩
noncomputable def i156 : FnI := ⟨Tryz.f156, [0, 1, 2, 3, 8], 0, false, rounds⟩
noncomputable def i157 : FnI := ⟨Tryz.f157, [0, 1, 2, 3, 4, 5, 12], 0, false, rounds⟩
noncomputable def i158 : FnI := ⟨Tryz.f158, [0, 1, 4, 5, 12], 0, false, rounds⟩
noncomputable def i159 : FnI := ⟨Tryz.f159, [0, 2, 3, 4, 7], 0, false, rounds⟩
noncomputable def i160 : FnI := ⟨Tryz.f160, [0, 1, 2, 3, 6, 7, 11, 15, 16, 21, 26, 27], 0, false, rounds⟩
noncomputable def i161 : FnI := ⟨Tryz.f161, [0, 1, 4, 5, 6, 7, 8, 21, 22, 26, 32, 36], 0, false, rounds⟩
noncomputable def i162 : FnI := ⟨Tryz.f162, [0, 1, 3, 4, 5, 6, 11, 12, 27, 43, 94, 116, 135, 143, 151, 159, 167, 175, 183, 202, 224, 232, 249, 284, 317, 338], 0, false, rounds⟩
noncomputable def i163 : FnI := ⟨Tryz.f163, [0, 2, 3, 4, 5, 8], 0, false, rounds⟩
noncomputable def i164 : FnI := ⟨Tryz.f164, [0, 1, 4, 14], 0, false, rounds⟩
noncomputable def i165 : FnI := ⟨Tryz.f165, [0, 2, 3, 4], 0, false, rounds⟩
noncomputable def i166 : FnI := ⟨Tryz.f166, [0, 1, 4], 0, false, rounds⟩
noncomputable def i167 : FnI := ⟨Tryz.f167, [0, 1, 2, 3, 4, 5, 6, 7, 8, 9, 10, 11, 12, 13, 15, 20, 23, 29, 35, 40, 45, 50, 64, 82, 102, 112, 113, 114, 115], 0, false, rounds⟩
noncomputable def i168 : FnI := ⟨Tryz.f168, [0, 1, 4, 5, 6, 7, 12], 0, false, rounds⟩
noncomputable def i169 : FnI := ⟨Tryz.f169, [0, 1, 2], 0, false, rounds⟩
noncomputable def i170 : FnI := ⟨Tryz.f170, [0, 2], 0, false, rounds⟩
noncomputable def i171 : FnI := ⟨Tryz.f171, [0, 1, 4, 5, 6, 7, 8, 12, 18, 26, 29, 39, 47, 63, 76, 79, 90, 101, 115], 0, false, rounds⟩
noncomputable def i172 : FnI := ⟨Tryz.f172, [0, 1, 2, 4], 0, false, rounds⟩
noncomputable def i173 : FnI := ⟨Tryz.f173, [0, 1, 2, 3, 4, 10, 11, 22], 0, false, rounds⟩
noncomputable def i174 : FnI := ⟨Tryz.f174, [0, 1, 4, 5, 6, 11, 15, 22, 36, 41], 0, false, rounds⟩
noncomputable def i175 : FnI := ⟨Tryz.f175, [0, 1, 2, 4, 9], 0, false, rounds⟩
noncomputable def i176 : FnI := ⟨Tryz.f176, [0, 1, 2, 3, 4, 6, 10, 11, 15, 20], 0, false, rounds⟩
noncomputable def i177 : FnI := ⟨Tryz.f177, [0, 2, 3, 4, 5, 6, 7, 8, 9, 10, 18, 25, 37], 0, false, rounds⟩
noncomputable def i178 : FnI := ⟨Tryz.f178, [0, 2], 0, false, rounds⟩
noncomputable def i179 : FnI := ⟨Tryz.f179, [], 7, false, rounds⟩
noncomputable def i180 : FnI := ⟨Tryz.f180, [0, 1, 2, 5, 6, 7, 14], 0, false, rounds⟩
noncomputable def i181 : FnI := ⟨Tryz.f181, [0, 1, 2, 6, 7, 14, 19, 27, 37], 0, false, rounds⟩
noncomputable def i182 : FnI := ⟨Tryz.f182, [0, 1, 4, 5, 6, 7, 8, 9, 10, 11, 12, 13, 16, 24, 31, 36, 59, 64, 73, 93, 107, 114, 132, 139], 0, false, rounds⟩
noncomputable def i183 : FnI := ⟨Tryz.f183, [0, 2], 0, false, rounds⟩
noncomputable def i184 : FnI := ⟨Tryz.f184, [0, 2], 0, false, rounds⟩
noncomputable def i185 : FnI := ⟨Tryz.f185, [0, 2], 0, false, rounds⟩
noncomputable def i186 : FnI := ⟨Tryz.f186, [0, 2], 0, false, rounds⟩
noncomputable def i187 : FnI := ⟨Tryz.f187, [0, 2], 0, false, rounds⟩
noncomputable def i188 : FnI := ⟨Tryz.f188, [0, 1, 4, 5, 6, 7, 8, 9, 10, 51, 66, 67, 76, 87, 92, 97], 0, false, rounds⟩
noncomputable def i189 : FnI := ⟨Tryz.f189, [0, 1, 4, 7, 8, 21, 22], 0, false, rounds⟩
noncomputable def i190 : FnI := ⟨Tryz.f190, [0, 2, 4, 5], 0, false, rounds⟩
noncomputable def i192 : FnI := ⟨Tryz.f192, [0, 2], 0, false, rounds⟩
noncomputable def i193 : FnI := ⟨Tryz.f193, [0, 1, 4, 5, 6, 7, 8, 9, 10, 20, 39, 44, 77], 0, false, rounds⟩
noncomputable def i194 : FnI := ⟨Tryz.f194, [0, 1, 4, 5, 23, 34], 0, false, rounds⟩
noncomputable def i195 : FnI := ⟨Tryz.f195, [0, 2, 3, 4], 0, false, rounds⟩
noncomputable def i196 : FnI := ⟨Tryz.f196, [0, 2, 3, 4, 5, 6, 7, 8, 12, 25, 30], 0, false, rounds⟩
noncomputable def i197 : FnI := ⟨Tryz.f197, [0, 2], 0, false, rounds⟩
def lookT : List (Nat × FnI) → Nat → Option FnI
  | [], _ => none
  | (g, i) :: r, f => if g == f then some i else lookT r f
def TabL (P : Program) : List (Nat × FnI) → Prop
  | [] => True
  | (g, i) :: r => ((P.funcs[g]? = some i.fn ∧ (i.fn.name == "runtime.NumGoroutine") = false) ∧ (Nat.beq i.mode 7 = false ∨ (i.fn.body.isNone = true ∧ Extern.findNext i.fn = none ∧ Extern.find i.fn = some Extern.BytealgIndexByte.indexByte))) ∧ TabL P r
theorem lookT_ok {P : Program} : ∀ {l : List (Nat × FnI)} {f : Nat} {i : FnI}, TabL P l → lookT l f = some i → (P.funcs[f]? = some i.fn ∧ (i.fn.name == "runtime.NumGoroutine") = false) ∧ (Nat.beq i.mode 7 = false ∨ (i.fn.body.isNone = true ∧ Extern.findNext i.fn = none ∧ Extern.find i.fn = some Extern.BytealgIndexByte.indexByte))
  | [], f, i, _, h => by simp [lookT] at h
  | (g, j) :: r, f, i, hl, h => by
    simp only [lookT] at h
    split at h
    · rename_i he
      have he : g = f := by simpa using he
      subst he; injection h with h; subst h; exact hl.1
    · exact lookT_ok hl.2 h
noncomputable def tl0 : List (Nat × FnI) := [(2, i2), (3, i3), (4, i4), (5, i5), (6, i6), (7, i7), (8, i8), (9, i9), (10, i10), (11, i11), (12, i12), (13, i13), (14, i14), (15, i15)]
theorem tl0_ok : TabL Tryz.prog tl0 := ⟨⟨⟨Tryz.func2, by kernel_rfl⟩, .inl (by kernel_rfl)⟩, ⟨⟨Tryz.func3, by kernel_rfl⟩, .inl (by kernel_rfl)⟩, ⟨⟨Tryz.func4, by kernel_rfl⟩, .inl (by kernel_rfl)⟩, ⟨⟨Tryz.func5, by kernel_rfl⟩, .inl (by kernel_rfl)⟩, ⟨⟨Tryz.func6, by kernel_rfl⟩, .inl (by kernel_rfl)⟩, ⟨⟨Tryz.func7, by kernel_rfl⟩, .inl (by kernel_rfl)⟩, ⟨⟨Tryz.func8, by kernel_rfl⟩, .inl (by kernel_rfl)⟩, ⟨⟨Tryz.func9, by kernel_rfl⟩, .inl (by kernel_rfl)⟩, ⟨⟨Tryz.func10, by kernel_rfl⟩, .inl (by kernel_rfl)⟩, ⟨⟨Tryz.func11, by kernel_rfl⟩, .inl (by kernel_rfl)⟩, ⟨⟨Tryz.func12, by kernel_rfl⟩, .inl (by kernel_rfl)⟩, ⟨⟨Tryz.func13, by kernel_rfl⟩, .inl (by kernel_rfl)⟩, ⟨⟨Tryz.func14, by kernel_rfl⟩, .inl (by kernel_rfl)⟩, ⟨⟨Tryz.func15, by kernel_rfl⟩, .inl (by kernel_rfl)⟩, trivial⟩
noncomputable def tl1 : List (Nat × FnI) := [(16, i16), (17, i17), (18, i18), (19, i19), (20, i20), (21, i21), (22, i22), (23, i23), (24, i24), (25, i25), (26, i26), (27, i27), (28, i28), (29, i29), (30, i30), (31, i31)]
theorem tl1_ok : TabL Tryz.prog tl1 := ⟨⟨⟨Tryz.func16, by kernel_rfl⟩, .inl (by kernel_rfl)⟩, ⟨⟨Tryz.func17, by kernel_rfl⟩, .inl (by kernel_rfl)⟩, ⟨⟨Tryz.func18, by kernel_rfl⟩, .inl (by kernel_rfl)⟩, ⟨⟨Tryz.func19, by kernel_rfl⟩, .inl (by kernel_rfl)⟩, ⟨⟨Tryz.func20, by kernel_rfl⟩, .inl (by kernel_rfl)⟩, ⟨⟨Tryz.func21, by kernel_rfl⟩, .inl (by kernel_rfl)⟩, ⟨⟨Tryz.func22, by kernel_rfl⟩, .inl (by kernel_rfl)⟩, ⟨⟨Tryz.func23, by kernel_rfl⟩, .inl (by kernel_rfl)⟩, ⟨⟨Tryz.func24, by kernel_rfl⟩, .inl (by kernel_rfl)⟩, ⟨⟨Tryz.func25, by kernel_rfl⟩, .inl (by kernel_rfl)⟩, ⟨⟨Tryz.func26, by kernel_rfl⟩, .inl (by kernel_rfl)⟩, ⟨⟨Tryz.func27, by kernel_rfl⟩, .inl (by kernel_rfl)⟩, ⟨⟨Tryz.func28, by kernel_rfl⟩, .inl (by kernel_rfl)⟩, ⟨⟨Tryz.func29, by kernel_rfl⟩, .inl (by kernel_rfl)⟩, ⟨⟨Tryz.func30, by kernel_rfl⟩, .inl (by kernel_rfl)⟩, ⟨⟨Tryz.func31, by kernel_rfl⟩, .inl (by kernel_rfl)⟩, trivial⟩
noncomputable def tl2 : List (Nat × FnI) := [(32, i32), (33, i33), (34, i34), (35, i35), (36, i36), (37, i37), (38, i38), (39, i39), (40, i40), (41, i41), (42, i42), (43, i43), (44, i44), (45, i45), (46, i46), (47, i47)]
theorem tl2_ok : TabL Tryz.prog tl2 := ⟨⟨⟨Tryz.func32, by kernel_rfl⟩, .inl (by kernel_rfl)⟩, ⟨⟨Tryz.func33, by kernel_rfl⟩, .inl (by kernel_rfl)⟩, ⟨⟨Tryz.func34, by kernel_rfl⟩, .inl (by kernel_rfl)⟩, ⟨⟨Tryz.func35, by kernel_rfl⟩, .inl (by kernel_rfl)⟩, ⟨⟨Tryz.func36, by kernel_rfl⟩, .inl (by kernel_rfl)⟩, ⟨⟨Tryz.func37, by kernel_rfl⟩, .inl (by kernel_rfl)⟩, ⟨⟨Tryz.func38, by kernel_rfl⟩, .inl (by kernel_rfl)⟩, ⟨⟨Tryz.func39, by kernel_rfl⟩, .inl (by kernel_rfl)⟩, ⟨⟨Tryz.func40, by kernel_rfl⟩, .inl (by kernel_rfl)⟩, ⟨⟨Tryz.func41, by kernel_rfl⟩, .inl (by kernel_rfl)⟩, ⟨⟨Tryz.func42, by kernel_rfl⟩, .inl (by kernel_rfl)⟩, ⟨⟨Tryz.func43, by kernel_rfl⟩, .inl (by kernel_rfl)⟩, ⟨⟨Tryz.func44, by kernel_rfl⟩, .inl (by kernel_rfl)⟩, ⟨⟨Tryz.func45, by kernel_rfl⟩, .inl (by kernel_rfl)⟩, ⟨⟨Tryz.func46, by kernel_rfl⟩, .inl (by kernel_rfl)⟩, ⟨⟨Tryz.func47, by kernel_rfl⟩, .inl (by kernel_rfl)⟩, trivial⟩
noncomputable def tl3 : List (Nat × FnI) := [(48, i48), (49, i49), (50, i50), (51, i51), (52, i52), (53, i53), (54, i54), (55, i55), (56, i56), (57, i57), (58, i58), (59, i59), (60, i60), (61, i61), (62, i62), (63, i63)]
theorem tl3_ok : TabL Tryz.prog tl3 := ⟨⟨⟨Tryz.func48, by kernel_rfl⟩, .inl (by kernel_rfl)⟩, ⟨⟨Tryz.func49, by kernel_rfl⟩, .inl (by kernel_rfl)⟩, ⟨⟨Tryz.func50, by kernel_rfl⟩, .inl (by kernel_rfl)⟩, ⟨⟨Tryz.func51, by kernel_rfl⟩, .inl (by kernel_rfl)⟩, ⟨⟨Tryz.func52, by kernel_rfl⟩, .inl (by kernel_rfl)⟩, ⟨⟨Tryz.func53, by kernel_rfl⟩, .inl (by kernel_rfl)⟩, ⟨⟨Tryz.func54, by kernel_rfl⟩, .inl (by kernel_rfl)⟩, ⟨⟨Tryz.func55, by kernel_rfl⟩, .inl (by kernel_rfl)⟩, ⟨⟨Tryz.func56, by kernel_rfl⟩, .inl (by kernel_rfl)⟩, ⟨⟨Tryz.func57, by kernel_rfl⟩, .inl (by kernel_rfl)⟩, ⟨⟨Tryz.func58, by kernel_rfl⟩, .inl (by kernel_rfl)⟩, ⟨⟨Tryz.func59, by kernel_rfl⟩, .inl (by kernel_rfl)⟩, ⟨⟨Tryz.func60, by kernel_rfl⟩, .inl (by kernel_rfl)⟩, ⟨⟨Tryz.func61, by kernel_rfl⟩, .inl (by kernel_rfl)⟩, ⟨⟨Tryz.func62, by kernel_rfl⟩, .inl (by kernel_rfl)⟩, ⟨⟨Tryz.func63, by kernel_rfl⟩, .inl (by kernel_rfl)⟩, trivial⟩
noncomputable def tl4 : List (Nat × FnI) := [(64, i64), (65, i65), (66, i66), (67, i67), (68, i68), (69, i69), (70, i70), (71, i71), (72, i72), (73, i73), (74, i74), (75, i75), (76, i76), (77, i77), (78, i78), (79, i79)]
theorem tl4_ok : TabL Tryz.prog tl4 := ⟨⟨⟨Tryz.func64, by kernel_rfl⟩, .inl (by kernel_rfl)⟩, ⟨⟨Tryz.func65, by kernel_rfl⟩, .inl (by kernel_rfl)⟩, ⟨⟨Tryz.func66, by kernel_rfl⟩, .inl (by kernel_rfl)⟩, ⟨⟨Tryz.func67, by kernel_rfl⟩, .inl (by kernel_rfl)⟩, ⟨⟨Tryz.func68, by kernel_rfl⟩, .inl (by kernel_rfl)⟩, ⟨⟨Tryz.func69, by kernel_rfl⟩, .inl (by kernel_rfl)⟩, ⟨⟨Tryz.func70, by kernel_rfl⟩, .inl (by kernel_rfl)⟩, ⟨⟨Tryz.func71, by kernel_rfl⟩, .inl (by kernel_rfl)⟩, ⟨⟨Tryz.func72, by kernel_rfl⟩, .inl (by kernel_rfl)⟩, ⟨⟨Tryz.func73, by kernel_rfl⟩, .inl (by kernel_rfl)⟩, ⟨⟨Tryz.func74, by kernel_rfl⟩, .inl (by kernel_rfl)⟩, ⟨⟨Tryz.func75, by kernel_rfl⟩, .inl (by kernel_rfl)⟩, ⟨⟨Tryz.func76, by kernel_rfl⟩, .inl (by kernel_rfl)⟩, ⟨⟨Tryz.func77, by kernel_rfl⟩, .inl (by kernel_rfl)⟩, ⟨⟨Tryz.func78, by kernel_rfl⟩, .inl (by kernel_rfl)⟩, ⟨⟨Tryz.func79, by kernel_rfl⟩, .inl (by kernel_rfl)⟩, trivial⟩
noncomputable def tl5 : List (Nat × FnI) := [(80, i80), (81, i81), (82, i82), (83, i83), (84, i84), (85, i85), (86, i86), (87, i87), (88, i88), (89, i89), (90, i90), (91, i91), (92, i92), (93, i93), (94, i94), (95, i95)]
theorem tl5_ok : TabL Tryz.prog tl5 := ⟨⟨⟨Tryz.func80, by kernel_rfl⟩, .inl (by kernel_rfl)⟩, ⟨⟨Tryz.func81, by kernel_rfl⟩, .inl (by kernel_rfl)⟩, ⟨⟨Tryz.func82, by kernel_rfl⟩, .inl (by kernel_rfl)⟩, ⟨⟨Tryz.func83, by kernel_rfl⟩, .inl (by kernel_rfl)⟩, ⟨⟨Tryz.func84, by kernel_rfl⟩, .inl (by kernel_rfl)⟩, ⟨⟨Tryz.func85, by kernel_rfl⟩, .inl (by kernel_rfl)⟩, ⟨⟨Tryz.func86, by kernel_rfl⟩, .inl (by kernel_rfl)⟩, ⟨⟨Tryz.func87, by kernel_rfl⟩, .inl (by kernel_rfl)⟩, ⟨⟨Tryz.func88, by kernel_rfl⟩, .inl (by kernel_rfl)⟩, ⟨⟨Tryz.func89, by kernel_rfl⟩, .inl (by kernel_rfl)⟩, ⟨⟨Tryz.func90, by kernel_rfl⟩, .inl (by kernel_rfl)⟩, ⟨⟨Tryz.func91, by kernel_rfl⟩, .inl (by kernel_rfl)⟩, ⟨⟨Tryz.func92, by kernel_rfl⟩, .inl (by kernel_rfl)⟩, ⟨⟨Tryz.func93, by kernel_rfl⟩, .inl (by kernel_rfl)⟩, ⟨⟨Tryz.func94, by kernel_rfl⟩, .inl (by kernel_rfl)⟩, ⟨⟨Tryz.func95, by kernel_rfl⟩, .inl (by kernel_rfl)⟩, trivial⟩
noncomputable def tl6 : List (Nat × FnI) := [(96, i96), (97, i97), (98, i98), (99, i99), (100, i100), (101, i101), (102, i102), (103, i103), (104, i104), (105, i105), (106, i106), (107, i107), (108, i108), (109, i109), (110, i110), (111, i111)]
theorem tl6_ok : TabL Tryz.prog tl6 := ⟨⟨⟨Tryz.func96, by kernel_rfl⟩, .inl (by kernel_rfl)⟩, ⟨⟨Tryz.func97, by kernel_rfl⟩, .inl (by kernel_rfl)⟩, ⟨⟨Tryz.func98, by kernel_rfl⟩, .inl (by kernel_rfl)⟩, ⟨⟨Tryz.func99, by kernel_rfl⟩, .inl (by kernel_rfl)⟩, ⟨⟨Tryz.func100, by kernel_rfl⟩, .inl (by kernel_rfl)⟩, ⟨⟨Tryz.func101, by kernel_rfl⟩, .inl (by kernel_rfl)⟩, ⟨⟨Tryz.func102, by kernel_rfl⟩, .inl (by kernel_rfl)⟩, ⟨⟨Tryz.func103, by kernel_rfl⟩, .inl (by kernel_rfl)⟩, ⟨⟨Tryz.func104, by kernel_rfl⟩, .inl (by kernel_rfl)⟩, ⟨⟨Tryz.func105, by kernel_rfl⟩, .inl (by kernel_rfl)⟩, ⟨⟨Tryz.func106, by kernel_rfl⟩, .inl (by kernel_rfl)⟩, ⟨⟨Tryz.func107, by kernel_rfl⟩, .inl (by kernel_rfl)⟩, ⟨⟨Tryz.func108, by kernel_rfl⟩, .inl (by kernel_rfl)⟩, ⟨⟨Tryz.func109, by kernel_rfl⟩, .inl (by kernel_rfl)⟩, ⟨⟨Tryz.func110, by kernel_rfl⟩, .inl (by kernel_rfl)⟩, ⟨⟨Tryz.func111, by kernel_rfl⟩, .inl (by kernel_rfl)⟩, trivial⟩
noncomputable def tl7 : List (Nat × FnI) := [(112, i112), (113, i113), (114, i114), (115, i115), (116, i116), (117, i117), (118, i118), (119, i119), (120, i120), (121, i121), (122, i122), (123, i123), (124, i124), (125, i125), (126, i126), (127, i127)]
theorem tl7_ok : TabL Tryz.prog tl7 := ⟨⟨⟨Tryz.func112, by kernel_rfl⟩, .inl (by kernel_rfl)⟩, ⟨⟨Tryz.func113, by kernel_rfl⟩, .inl (by kernel_rfl)⟩, ⟨⟨Tryz.func114, by kernel_rfl⟩, .inl (by kernel_rfl)⟩, ⟨⟨Tryz.func115, by kernel_rfl⟩, .inl (by kernel_rfl)⟩, ⟨⟨Tryz.func116, by kernel_rfl⟩, .inl (by kernel_rfl)⟩, ⟨⟨Tryz.func117, by kernel_rfl⟩, .inl (by kernel_rfl)⟩, ⟨⟨Tryz.func118, by kernel_rfl⟩, .inl (by kernel_rfl)⟩, ⟨⟨Tryz.func119, by kernel_rfl⟩, .inl (by kernel_rfl)⟩, ⟨⟨Tryz.func120, by kernel_rfl⟩, .inl (by kernel_rfl)⟩, ⟨⟨Tryz.func121, by kernel_rfl⟩, .inl (by kernel_rfl)⟩, ⟨⟨Tryz.func122, by kernel_rfl⟩, .inl (by kernel_rfl)⟩, ⟨⟨Tryz.func123, by kernel_rfl⟩, .inl (by kernel_rfl)⟩, ⟨⟨Tryz.func124, by kernel_rfl⟩, .inl (by kernel_rfl)⟩, ⟨⟨Tryz.func125, by kernel_rfl⟩, .inl (by kernel_rfl)⟩, ⟨⟨Tryz.func126, by kernel_rfl⟩, .inl (by kernel_rfl)⟩, ⟨⟨Tryz.func127, by kernel_rfl⟩, .inl (by kernel_rfl)⟩, trivial⟩
noncomputable def tl8 : List (Nat × FnI) := [(128, i128), (129, i129), (130, i130), (131, i131), (132, i132), (133, i133), (134, i134), (135, i135), (136, i136), (137, i137), (138, i138), (139, i139), (140, i140), (141, i141), (142, i142), (143, i143)]
theorem tl8_ok : TabL Tryz.prog tl8 := ⟨⟨⟨Tryz.func128, by kernel_rfl⟩, .inl (by kernel_rfl)⟩, ⟨⟨Tryz.func129, by kernel_rfl⟩, .inl (by kernel_rfl)⟩, ⟨⟨Tryz.func130, by kernel_rfl⟩, .inl (by kernel_rfl)⟩, ⟨⟨Tryz.func131, by kernel_rfl⟩, .inl (by kernel_rfl)⟩, ⟨⟨Tryz.func132, by kernel_rfl⟩, .inl (by kernel_rfl)⟩, ⟨⟨Tryz.func133, by kernel_rfl⟩, .inl (by kernel_rfl)⟩, ⟨⟨Tryz.func134, by kernel_rfl⟩, .inl (by kernel_rfl)⟩, ⟨⟨Tryz.func135, by kernel_rfl⟩, .inl (by kernel_rfl)⟩, ⟨⟨Tryz.func136, by kernel_rfl⟩, .inl (by kernel_rfl)⟩, ⟨⟨Tryz.func137, by kernel_rfl⟩, .inl (by kernel_rfl)⟩, ⟨⟨Tryz.func138, by kernel_rfl⟩, .inl (by kernel_rfl)⟩, ⟨⟨Tryz.func139, by kernel_rfl⟩, .inl (by kernel_rfl)⟩, ⟨⟨Tryz.func140, by kernel_rfl⟩, .inl (by kernel_rfl)⟩, ⟨⟨Tryz.func141, by kernel_rfl⟩, .inl (by kernel_rfl)⟩, ⟨⟨Tryz.func142, by kernel_rfl⟩, .inl (by kernel_rfl)⟩, ⟨⟨Tryz.func143, by kernel_rfl⟩, .inl (by kernel_rfl)⟩, trivial⟩
noncomputable def tl9 : List (Nat × FnI) := [(144, i144), (145, i145), (146, i146), (147, i147), (148, i148), (149, i149), (150, i150), (151, i151), (152, i152), (153, i153), (154, i154), (155, i155), (156, i156), (157, i157), (158, i158), (159, i159)]
theorem tl9_ok : TabL Tryz.prog tl9 := ⟨⟨⟨Tryz.func144, by kernel_rfl⟩, .inl (by kernel_rfl)⟩, ⟨⟨Tryz.func145, by kernel_rfl⟩, .inl (by kernel_rfl)⟩, ⟨⟨Tryz.func146, by kernel_rfl⟩, .inl (by kernel_rfl)⟩, ⟨⟨Tryz.func147, by kernel_rfl⟩, .inl (by kernel_rfl)⟩, ⟨⟨Tryz.func148, by kernel_rfl⟩, .inl (by kernel_rfl)⟩, ⟨⟨Tryz.func149, by kernel_rfl⟩, .inl (by kernel_rfl)⟩, ⟨⟨Tryz.func150, by kernel_rfl⟩, .inl (by kernel_rfl)⟩, ⟨⟨Tryz.func151, by kernel_rfl⟩, .inl (by kernel_rfl)⟩, ⟨⟨Tryz.func152, by kernel_rfl⟩, .inl (by kernel_rfl)⟩, ⟨⟨Tryz.func153, by kernel_rfl⟩, .inl (by kernel_rfl)⟩, ⟨⟨Tryz.func154, by kernel_rfl⟩, .inl (by kernel_rfl)⟩, ⟨⟨Tryz.func155, by kernel_rfl⟩, .inl (by kernel_rfl)⟩, ⟨⟨Tryz.func156, by kernel_rfl⟩, .inl (by kernel_rfl)⟩, ⟨⟨Tryz.func157, by kernel_rfl⟩, .inl (by kernel_rfl)⟩, ⟨⟨Tryz.func158, by kernel_rfl⟩, .inl (by kernel_rfl)⟩, ⟨⟨Tryz.func159, by kernel_rfl⟩, .inl (by kernel_rfl)⟩, trivial⟩
noncomputable def tl10 : List (Nat × FnI) := [(160, i160), (161, i161), (162, i162), (163, i163), (164, i164), (165, i165), (166, i166), (167, i167), (168, i168), (169, i169), (170, i170), (171, i171), (172, i172), (173, i173), (174, i174), (175, i175)]
theorem tl10_ok : TabL Tryz.prog tl10 := ⟨⟨⟨Tryz.func160, by kernel_rfl⟩, .inl (by kernel_rfl)⟩, ⟨⟨Tryz.func161, by kernel_rfl⟩, .inl (by kernel_rfl)⟩, ⟨⟨Tryz.func162, by kernel_rfl⟩, .inl (by kernel_rfl)⟩, ⟨⟨Tryz.func163, by kernel_rfl⟩, .inl (by kernel_rfl)⟩, ⟨⟨Tryz.func164, by kernel_rfl⟩, .inl (by kernel_rfl)⟩, ⟨⟨Tryz.func165, by kernel_rfl⟩, .inl (by kernel_rfl)⟩, ⟨⟨Tryz.func166, by kernel_rfl⟩, .inl (by kernel_rfl)⟩, ⟨⟨Tryz.func167, by kernel_rfl⟩, .inl (by kernel_rfl)⟩, ⟨⟨Tryz.func168, by kernel_rfl⟩, .inl (by kernel_rfl)⟩, ⟨⟨Tryz.func169, by kernel_rfl⟩, .inl (by kernel_rfl)⟩, ⟨⟨Tryz.func170, by kernel_rfl⟩, .inl (by kernel_rfl)⟩, ⟨⟨Tryz.func171, by kernel_rfl⟩, .inl (by kernel_rfl)⟩, ⟨⟨Tryz.func172, by kernel_rfl⟩, .inl (by kernel_rfl)⟩, ⟨⟨Tryz.func173, by kernel_rfl⟩, .inl (by kernel_rfl)⟩, ⟨⟨Tryz.func174, by kernel_rfl⟩, .inl (by kernel_rfl)⟩, ⟨⟨Tryz.func175, by kernel_rfl⟩, .inl (by kernel_rfl)⟩, trivial⟩
noncomputable def tl11 : List (Nat × FnI) := [(176, i176), (177, i177), (178, i178), (179, i179), (180, i180), (181, i181), (182, i182), (183, i183), (184, i184), (185, i185), (186, i186), (187, i187), (188, i188), (189, i189), (190, i190)]
theorem tl11_ok : TabL Tryz.prog tl11 := ⟨⟨⟨Tryz.func176, by kernel_rfl⟩, .inl (by kernel_rfl)⟩, ⟨⟨Tryz.func177, by kernel_rfl⟩, .inl (by kernel_rfl)⟩, ⟨⟨Tryz.func178, by kernel_rfl⟩, .inl (by kernel_rfl)⟩, ⟨⟨Tryz.func179, by kernel_rfl⟩, .inr ⟨by kernel_rfl, by kernel_rfl, by kernel_rfl⟩⟩, ⟨⟨Tryz.func180, by kernel_rfl⟩, .inl (by kernel_rfl)⟩, ⟨⟨Tryz.func181, by kernel_rfl⟩, .inl (by kernel_rfl)⟩, ⟨⟨Tryz.func182, by kernel_rfl⟩, .inl (by kernel_rfl)⟩, ⟨⟨Tryz.func183, by kernel_rfl⟩, .inl (by kernel_rfl)⟩, ⟨⟨Tryz.func184, by kernel_rfl⟩, .inl (by kernel_rfl)⟩, ⟨⟨Tryz.func185, by kernel_rfl⟩, .inl (by kernel_rfl)⟩, ⟨⟨Tryz.func186, by kernel_rfl⟩, .inl (by kernel_rfl)⟩, ⟨⟨Tryz.func187, by kernel_rfl⟩, .inl (by kernel_rfl)⟩, ⟨⟨Tryz.func188, by kernel_rfl⟩, .inl (by kernel_rfl)⟩, ⟨⟨Tryz.func189, by kernel_rfl⟩, .inl (by kernel_rfl)⟩, ⟨⟨Tryz.func190, by kernel_rfl⟩, .inl (by kernel_rfl)⟩, trivial⟩
noncomputable def tl12 : List (Nat × FnI) := [(192, i192), (193, i193), (194, i194), (195, i195), (196, i196), (197, i197)]
theorem tl12_ok : TabL Tryz.prog tl12 := ⟨⟨⟨Tryz.func192, by kernel_rfl⟩, .inl (by kernel_rfl)⟩, ⟨⟨Tryz.func193, by kernel_rfl⟩, .inl (by kernel_rfl)⟩, ⟨⟨Tryz.func194, by kernel_rfl⟩, .inl (by kernel_rfl)⟩, ⟨⟨Tryz.func195, by kernel_rfl⟩, .inl (by kernel_rfl)⟩, ⟨⟨Tryz.func196, by kernel_rfl⟩, .inl (by kernel_rfl)⟩, ⟨⟨Tryz.func197, by kernel_rfl⟩, .inl (by kernel_rfl)⟩, trivial⟩
noncomputable def tab (f : FuncId) : Option FnI :=
  match f / 16 with
  | 0 => lookT tl0 f
  | 1 => lookT tl1 f
  | 2 => lookT tl2 f
  | 3 => lookT tl3 f
  | 4 => lookT tl4 f
  | 5 => lookT tl5 f
  | 6 => lookT tl6 f
  | 7 => lookT tl7 f
  | 8 => lookT tl8 f
  | 9 => lookT tl9 f
  | 10 => lookT tl10 f
  | 11 => lookT tl11 f
  | 12 => lookT tl12 f
  | _ => none
theorem tab_ok : Tab Tryz.prog tab := by
  intro f i h
  unfold tab at h
  split at h
  · exact lookT_ok tl0_ok h
  · exact lookT_ok tl1_ok h
  · exact lookT_ok tl2_ok h
  · exact lookT_ok tl3_ok h
  · exact lookT_ok tl4_ok h
  · exact lookT_ok tl5_ok h
  · exact lookT_ok tl6_ok h
  · exact lookT_ok tl7_ok h
  · exact lookT_ok tl8_ok h
  · exact lookT_ok tl9_ok h
  · exact lookT_ok tl10_ok h
  · exact lookT_ok tl11_ok h
  · exact lookT_ok tl12_ok h
  · cases h
end Go.Proofs.YtppbeklokajeaaaGreat.T
