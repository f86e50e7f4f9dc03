/- The law watershed/watershedlaw18.KeeperNil returns true for every input, and its arguments read behind the call as before. Conditions: the package-level variables that the row lists hold what the program's text lays (the card ties them). -/
import Derived.Test.YtheclllbnkolaaaGreatDoorKeeperNilL
import Derived.Test.YtheclllbnkolaaaGreatDoorKeeperNilF
import Derived.Test.YtheclllbnkolaaaGreatDoorTie
import Derived.Test.YtheclllbnkolaaaGreatDoorCards
open Go Go.Eng
namespace Go.Proofs.YtheclllbnkolaaaGreatDoor
set_option maxRecDepth 100000
theorem keeperNil_holds : Rows.KeeperNilSaid :=
  OpenClaim.holds_of_wide (p := Tryz.pinned) (s := Rows.keeperNilSpec) (c := Rows.keeperNilRow) 12 Tryz.f12 rfl rfl rfl rfl rfl rfl rfl ⟨rfl, rfl, rfl, rfl, rfl⟩ rfl rfl rfl rfl rfl keeperNil_named Tryz.func12 keeperNil_joined
    keeperNil_inst keeperNil_wrap
    (fun os started H enc _ => keeperNil_lifted os started H enc)
theorem keeperNil_proved : Rows.KeeperNilCardSaid :=
  Claim7.holds_tied_plain_at .later [] [.data, .data, .data, .data, .sentinel, .sentinel, .pinned] true (true, "d82340148dc92871666fbcda639734020f818dc1dcd21106f2c0f6894e100dd3") true
    keeperNil_holds (fun _ h => by cases h) keeperNil_wf (fun _ h => by cases h) keeperNil_row_tie rfl ⟨rfl, rfl⟩ seat_main rfl
    (fun f fn hf hfn => by
      obtain rfl : f = 12 := Option.some.inj (keeperNil_named.symm.trans hf) |>.symm
      obtain rfl : fn = Tryz.f12 := (Option.some.inj (Tryz.func12.symm.trans hfn)).symm
      refine ⟨seat_looks, fun j t ht => ?_⟩
      have hm : t ∈ Tryz.f12.params.toList := by
        have := Array.mem_of_getElem? ht
        simpa using this
      have h1 := List.all_eq_true.1 keeperNil_params t hm
      rw [Bool.not_eq_true'] at h1
      exact h1)
    keeperNil_goes
#print axioms keeperNil_proved
end Go.Proofs.YtheclllbnkolaaaGreatDoor
