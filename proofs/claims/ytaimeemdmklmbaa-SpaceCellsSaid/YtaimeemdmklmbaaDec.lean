/- The laws of Go's map keys of this program: cells, points, elements. -/
import Derived.Test.YtaimeemdmklmbaaMp2
import Derived.Test.YtaimeemdmklmbaaKit
set_option linter.all false
namespace Go.Proofs.Ytaimeemdmklmbaa
open Go.RowKit
open Go.WideMaps (KeyLaw)
theorem laidOut : laidOutB Try.prog = true := by kernel_rfl
theorem keyCell : KeyLaw Try.prog 52 := deep_law_laid laidOut (m := 2) (by omega) (of_decide_eq_true (by kernel_rfl)) (by kernel_rfl) (by rw [Try.underlying52])
theorem keyPoint : KeyLaw Try.prog 29 := deep_law_laid laidOut (m := 2) (by omega) (of_decide_eq_true (by kernel_rfl)) (by kernel_rfl) (by rw [Try.underlying29])
end Go.Proofs.Ytaimeemdmklmbaa
