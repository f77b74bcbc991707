/- Closed facts of the program that every row's closing asks. -/
import Derived.Test.YtadnijcgohflhaaDoorXRow
import Derived.Test.YtadnijcgohflhaaDoorCards
import Derived.Test.YtadnijcgohflhaaDoorTie
namespace Go.Proofs.YtadnijcgohflhaaDoor.Row
open Go Go.Proofs Go.Sy Go.ChangeShapes Go.WideShapes Go.ChangeAt Go.RowKit
set_option maxRecDepth 100000

theorem own : ownKnob Tryd.prog.godebug = none := by kernel_rfl
theorem laidOut : laidOutB Tryd.prog = true := by kernel_rfl
theorem rowed : mapsRowed Tryd.prog = true := by kernel_rfl
theorem full : ∀ t e, t < Tryd.prog.types.size → Tryd.prog.underlying t = some (.slice e) → 0 < Tryd.prog.cellsOf e := slices_full_of Tryd.prog (by kernel_rfl)
theorem vt : VT Tryd.prog 27 24 25 125 23 9 3 4 where
  v := ⟨_, Tryd.underlying27, rfl⟩
  l := by kernel_rfl
  m := by kernel_rfl
  e := ⟨_, Tryd.underlying125, rfl⟩
  d := ⟨_, Tryd.underlying23, rfl⟩
  s := by kernel_rfl
  i := by kernel_rfl
  b := by kernel_rfl
  cV := by kernel_rfl
  cE := by kernel_rfl
  cD := by kernel_rfl
  cS := by kernel_rfl
  cI := by kernel_rfl
  cB := by kernel_rfl
  cL := by kernel_rfl
  cM := by kernel_rfl
  bV := of_decide_eq_true (by kernel_rfl)
  bE := of_decide_eq_true (by kernel_rfl)
end Go.Proofs.YtadnijcgohflhaaDoor.Row
