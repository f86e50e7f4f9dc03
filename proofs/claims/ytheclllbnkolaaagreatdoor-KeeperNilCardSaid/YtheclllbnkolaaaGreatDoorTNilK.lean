import Derived.Test.YtheclllbnkolaaaGreatDoorTOk
open Go Go.Eng
namespace Go.Proofs
set_option maxRecDepth 100000
theorem nil18 (v0 v1 v2 v3 v4 v5 : Value) : obs (callA Tryz.env 100000 100 (.func 12 [.s v0, .s (.agg #[v1, v2, v3, v4, v5])]) ⟨.nil, 0⟩) = some [true] := by kernel_rfl
end Go.Proofs
