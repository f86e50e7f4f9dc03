import Derived.Test.YtheclllbnkolaaaGreatDoorTOk
open Go Go.Eng
namespace Go.Proofs
set_option maxRecDepth 100000
theorem nil11 (v0 v1 v2 v3 v4 : Value) : obs (callA Tryz.env 100000 100 (.func 3 [.s (.agg #[v0, v1, v2]), .s v3, .s v4]) ⟨.nil, 0⟩) = some [true, true] := by kernel_rfl
end Go.Proofs
