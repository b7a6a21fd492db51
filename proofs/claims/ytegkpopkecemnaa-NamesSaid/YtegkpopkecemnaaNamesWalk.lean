/- Proved here: the law Names returns true and changes nothing. Conditions: none. -/
import Derived.Test.YtegkpopkecemnaaCrcWalks
namespace Go.Proofs.Ytegkpopkecemnaa.Crc
open Go.RowKit
theorem names_walk (w : World) : Calls Try.prog 8 #[] w fun e w' => e = .returned (.bool true) ∧ Below w.heap.size w w' := by
  go_enter Try.func8, Try.ntmps8
  go_wp2
  go_ret
  exact ⟨rfl, Below.refl _ _⟩
end Go.Proofs.Ytegkpopkecemnaa.Crc
