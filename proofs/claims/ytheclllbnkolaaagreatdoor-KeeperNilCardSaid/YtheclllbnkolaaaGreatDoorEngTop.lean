import Derived.Test.YtheclllbnkolaaaGreatDoorEngFunc
namespace Go.Eng
open Go
variable {E : Env}

theorem Gam.nil (m : Mu) (W : World) : Gam m .nil W := ⟨fun i ab h => by simp [T.get] at h, fun i j ab ab' p q h => by simp [T.get] at h⟩

/-- What a step from nothing leaves as it is. -/
theorem Step.below {m m' : Mu} {h' : H} {nx nx' : Nat} {W W' : World} (st : Step m .nil nx W m' h' nx' W') : Go.RowKit.Below W.heap.size W W' :=
  ⟨st.os, st.tape, st.output, st.size, fun b hb => st.frame b hb (fun ⟨i, ab, p, e, _⟩ => by simp [T.get] at e)⟩

theorem engine (ok : E.Ok) {K n : Nat} {f : FuncId} {args : List AV} {outs : List (AV × Hp)} (h : callA E K n (.func f args) ⟨.nil, 0⟩ = some outs) (args' : List Value) (hv : VRL (fun _ => none) args args') (W : World) :
    Calls E.P f args'.toArray W (fun e W' => ∃ x ∈ outs, ∃ v m', e = .returned v ∧ VR m' x.1 v ∧ Step (fun _ => none) .nil 0 W m' x.2.h x.2.nx W') := by
  have hs := ((callA_ok ok K n).fn f args ⟨.nil, 0⟩ outs h).2 0 (fun _ => none) W args' (Gam.nil _ _) (fun _ _ => rfl) hv
  exact callsIn_wide.1 hs
end Go.Eng
