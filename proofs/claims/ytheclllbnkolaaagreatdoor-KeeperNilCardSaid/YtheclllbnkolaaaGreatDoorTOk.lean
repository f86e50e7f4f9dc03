import Derived.Test.YtheclllbnkolaaaGreatDoorTEnv
import Derived.Test.YtheclllbnkolaaaGreatDoorEngTree
open Go Go.Eng
namespace Go.Proofs
set_option maxRecDepth 100000
theorem Tryz.ty_eq : Tryz.ty = T.ofL Tryz.prog.types.size Tryz.prog.types.toList := by kernel_rfl
theorem Tryz.fn_eq : Tryz.fn = T.ofL Tryz.prog.funcs.size Tryz.prog.funcs.toList := by kernel_rfl
theorem Tryz.mixed : Tryz.prog.follows .mixedOrders = true := by kernel_rfl
theorem Tryz.fns : Tryz.prog.funcs.toList.all okFn = true := by kernel_rfl
theorem Tryz.ok : Tryz.env.Ok := Env.ok_of (E := Tryz.env) Tryz.ty_eq Tryz.fn_eq Tryz.mixed Tryz.fns
#print axioms Tryz.ok
end Go.Proofs
