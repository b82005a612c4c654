/- The layer's sanity check, reckoned. -/
import Derived.Test.YtkiicnfpogdmgaaDoorPa
namespace Go.Proofs.YtkiicnfpogdmgaaDoor.T
open Go.Dx Go.Proofs
theorem known : reck Tryd.prog tab 79 = overS 16 [(s5, v5)] (reck Tryd.prog tab 79) := overS_eq fun s v h => by
  simp only [List.mem_singleton, Prod.mk.injEq] at h
  obtain ⟨rfl, rfl⟩ := h
  exact p5
theorem awakeAt (σ : Heap) : reck Tryd.prog tab 80 8 [] σ = some (.bool true, σ) :=
  pure_by (i := i8) (c := Tryd.f8.body.get!) rfl rfl rfl known rfl (by kernel_rfl) σ
end Go.Proofs.YtkiicnfpogdmgaaDoor.T
