/- The law watershed/watershedlaw11.KeepNil returns true for every input, and its arguments read behind the call as before. Conditions: the package-level variables that the row lists hold what the program's text lays (the card ties them). -/
import Derived.Test.YtheclllbnkolaaaGreatDoorKeepNilL
import Derived.Test.YtheclllbnkolaaaGreatDoorKeepNilF
import Derived.Test.YtheclllbnkolaaaGreatDoorTie
import Derived.Test.YtheclllbnkolaaaGreatDoorCards
open Go Go.Eng
namespace Go.Proofs.YtheclllbnkolaaaGreatDoor
set_option maxRecDepth 100000
theorem keepNil_holds : Rows.KeepNilSaid :=
  OpenClaim.holds_of_wide (p := Tryz.pinned) (s := Rows.keepNilSpec) (c := Rows.keepNilRow) 3 Tryz.f3 rfl rfl rfl rfl rfl rfl rfl ⟨rfl, rfl, rfl, rfl, rfl⟩ rfl rfl rfl rfl rfl keepNil_named Tryz.func3 keepNil_joined
    keepNil_inst keepNil_wrap
    (fun os started H enc _ => keepNil_lifted os started H enc)
theorem keepNil_proved : Rows.KeepNilCardSaid :=
  Claim7.holds_tied_plain_at .later [] [.data, .data, .data, .data, .sentinel, .sentinel, .pinned] true (true, "d82340148dc92871666fbcda639734020f818dc1dcd21106f2c0f6894e100dd3") true
    keepNil_holds (fun _ h => by cases h) keepNil_wf (fun _ h => by cases h) keepNil_row_tie rfl ⟨rfl, rfl⟩ seat_main rfl
    (fun f fn hf hfn => by
      obtain rfl : f = 3 := Option.some.inj (keepNil_named.symm.trans hf) |>.symm
      obtain rfl : fn = Tryz.f3 := (Option.some.inj (Tryz.func3.symm.trans hfn)).symm
      refine ⟨seat_looks, fun j t ht => ?_⟩
      have hm : t ∈ Tryz.f3.params.toList := by
        have := Array.mem_of_getElem? ht
        simpa using this
      have h1 := List.all_eq_true.1 keepNil_params t hm
      rw [Bool.not_eq_true'] at h1
      exact h1)
    keepNil_goes
#print axioms keepNil_proved
end Go.Proofs.YtheclllbnkolaaaGreatDoor
