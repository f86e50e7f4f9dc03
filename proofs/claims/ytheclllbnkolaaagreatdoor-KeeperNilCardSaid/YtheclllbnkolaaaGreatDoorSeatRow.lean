import Derived.Test.YtheclllbnkolaaaGreatDoorTOk
import Derived.Test.YtheclllbnkolaaaGreatDoorEngRow
import Derived.Test.YtheclllbnkolaaaGreatDoorRows
import Derived.ProofKit
import Derived.LaidMore
import Derived.Stop.Joined
import Derived.SevenTiedAt
import Derived.KernelRfl
open Go Go.Eng
namespace Go.Proofs.YtheclllbnkolaaaGreatDoor
open Go.ChangeShapes Go.WideShapes Go.ChangeAt Go.RowKit
set_option maxRecDepth 100000

theorem own : ownKnob Tryz.prog.godebug = none := by kernel_rfl
theorem laidOut : laidOutB Tryz.prog = true := by kernel_rfl
theorem mapsRow : mapsRowed Tryz.prog = true := by kernel_rfl

/-- No slice's elements are of no cells. -/
def sliceCells (P : Program) : Bool := (List.range P.types.size).all fun t => match P.underlying t with
  | some (.slice e) => Nat.blt 0 (P.cellsOf e)
  | _ => true
theorem sliceCells_ok : sliceCells Tryz.prog = true := by kernel_rfl
theorem sliceCells_pos (t e : TypeId) (h : t < Tryz.prog.types.size) (hu : Tryz.prog.underlying t = some (.slice e)) : 0 < Tryz.prog.cellsOf e := by
  have h1 := List.all_eq_true.1 sliceCells_ok t (List.mem_range.2 h)
  rw [hu] at h1
  exact Nat.le_of_ble_eq_true h1
theorem kids : Kids Tryz.prog (· < Tryz.prog.types.size) := kids_rows laidOut mapsRow

def datumVals : DataW Unit → List Value
  | .agg l => l.filterMap fun d => match d with
    | .lit (.int k n) => some (.int k n)
    | _ => none
  | _ => []

/-- A world in which the listed variables lie as the text lays them: the door's heap, the pinned table laid. -/
noncomputable def laidWorld (os : Os) : World :=
  let w0 := World.doorLaid Tryz.prog 72 os
  match Tryz.prog.globalNamed "unicode/utf8.first" with
  | some g => { w0 with heap := w0.heap.modify g fun o => match o with
      | .cells _ t frozen => .cells (datumVals Go.Pinned.utf8First).toArray t frozen
      | o => o }
  | none => w0

theorem laid_met (os : Os) (args : Array Value) : laidMetH Tryz.prog Rows.keepNilRow.laid ((laidWorld os).forCall (fun _ _ => 0) ⟨#[], args, []⟩).memory :=
  laidMetH_of_parts3 (fuel := 8) (laidMet_of_run' 8 (by kernel_rfl) (by kernel_rfl)) (by kernel_rfl) (by kernel_rfl)

theorem shaped (os : Os) (args : Array Value) : ((laidWorld os).forCall (fun _ _ => 0) ⟨#[], args, []⟩).Shaped Tryz.prog :=
  World.shaped_of_RefB (by kernel_rfl) (by kernel_rfl)

theorem of_obs {r : Option (List (AV × Hp))} {bs : List Bool} (h : obs r = some bs) (hb : bs.all id = true) : ∃ outs, r = some outs ∧ ∀ x ∈ outs, x.1 = .s (.bool true) := by
  cases r with
  | none => simp [obs] at h
  | some l =>
    refine ⟨l, rfl, fun x hx => ?_⟩
    simp only [obs, Option.some.injEq] at h
    subst h
    have := List.all_eq_true.1 hb _ (List.mem_map.2 ⟨x, hx, rfl⟩)
    obtain ⟨a, w⟩ := x
    dsimp only at this ⊢
    split at this
    · rfl
    · cases this
theorem andI {a b : Bool} (h : a = true) (k : b = true) : (a && b) = true := by rw [h, k]; rfl
theorem seat_main : Tryz.prog.mainIs = some (true, "d82340148dc92871666fbcda639734020f818dc1dcd21106f2c0f6894e100dd3".toList) := by kernel_rfl
theorem seat_looks : true = Tryz.prog.looks [] := by kernel_rfl
end Go.Proofs.YtheclllbnkolaaaGreatDoor
