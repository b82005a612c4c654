/- The layer's sanity check, reckoned. -/
import Derived.Test.YtppbeklokajeaaaGreatEtab
import Derived.Test.YtppbeklokajeaaaGreatEcut
namespace Go.Proofs.YtppbeklokajeaaaGreat.T
open Go.Dx Go.Proofs

theorem mixed : Tryz.prog.follows .mixedOrders = true := by kernel_rfl
theorem awakeRun : (reck Tryz.prog tab 40 11 [] []).map (·.1) = some (.bool true) := by kernel_rfl
theorem awakeAt (σ : Heap) : reck Tryz.prog tab 40 11 [] σ = some (.bool true, σ) := pure_at (i := i11) rfl rfl rfl awakeRun σ
end Go.Proofs.YtppbeklokajeaaaGreat.T
