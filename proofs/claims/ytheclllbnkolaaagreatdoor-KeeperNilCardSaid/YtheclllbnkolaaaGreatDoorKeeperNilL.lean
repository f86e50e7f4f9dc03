import Derived.Test.YtheclllbnkolaaaGreatDoorSeatRow
import Derived.Test.YtheclllbnkolaaaGreatDoorTNilK
open Go Go.Eng
namespace Go.Proofs.YtheclllbnkolaaaGreatDoor
open Go.ChangeShapes Go.WideShapes Go.ChangeAt Go.RowKit
set_option maxRecDepth 100000
theorem keeperNil_w1 (os : Os) : Input.okWideB Tryz.prog ((laidWorld os).forCall (fun _ _ => 0) ⟨#[], #[.int .i64 0, .agg #[.int .i64 0, .string ⟨#[]⟩, .int .i64 0, .int .i64 0, .int .i64 0]], []⟩) 12 ⟨#[], #[.int .i64 0, .agg #[.int .i64 0, .string ⟨#[]⟩, .int .i64 0, .int .i64 0, .int .i64 0]], []⟩ = true := by kernel_rfl
theorem keeperNil_w2 (os : Os) (H : Type) (enc : TypeId × Value → H) : Rows.keeperNilSpec.preB enc Tryz.prog Tryz.f12 [] false ((laidWorld os).forCall (fun _ _ => 0) ⟨#[], #[.int .i64 0, .agg #[.int .i64 0, .string ⟨#[]⟩, .int .i64 0, .int .i64 0, .int .i64 0]], []⟩).memory #[.int .i64 0, .agg #[.int .i64 0, .string ⟨#[]⟩, .int .i64 0, .int .i64 0, .int .i64 0]] 8 = true := by kernel_rfl
theorem keeperNil_w3 (os : Os) (H : Type) (enc : TypeId × Value → H) : Rows.keeperNilSpec.sizedB enc Tryz.prog Tryz.f12 false ((laidWorld os).forCall (fun _ _ => 0) ⟨#[], #[.int .i64 0, .agg #[.int .i64 0, .string ⟨#[]⟩, .int .i64 0, .int .i64 0, .int .i64 0]], []⟩).memory #[.int .i64 0, .agg #[.int .i64 0, .string ⟨#[]⟩, .int .i64 0, .int .i64 0, .int .i64 0]] 8 = true := by kernel_rfl
theorem five (cs : Array Value) (h : cs.size = 5) : ∃ a b c d k, cs = #[a, b, c, d, k] := by
  obtain ⟨l⟩ := cs
  match l, h with
  | [a, b, c, d, k], _ => exact ⟨a, b, c, d, k, rfl⟩

theorem keeperNil_lifted (os : Os) (started : os.Started) (H : Type) (enc : TypeId × Value → H) :
    ReturnsInHanded {} Tryz.checked os 12 .any (fun w args => (Rows.keeperNilSpec.pre enc Tryz.prog Tryz.f12 [] false w args ∧ laidMetH Tryz.prog Rows.keepNilRow.laid w) ∧ sizedMet enc Tryz.prog Tryz.f12 (OpenSpec.ofChange Rows.keeperNilSpec) false w args)
      (Rows.keeperNilSpec.post enc Tryz.prog Tryz.f12 false true false false) := by
  refine returnsInHanded_of_change_and (C := Tryz.checked) (X := fun w _ => laidMetH Tryz.prog Rows.keepNilRow.laid w) (fun _ _ _ hh h => h.of_heap hh) own started (by kernel_rfl) Tryz.func12
    (ChangeSpec.witness_shaped (enc := enc) (C := Tryz.checked) (os := os) (X := fun w _ => laidMetH Tryz.prog Rows.keepNilRow.laid w) false (laidWorld os) #[.int .i64 0, .agg #[.int .i64 0, .string ⟨#[]⟩, .int .i64 0, .int .i64 0, .int .i64 0]] 8 rfl (shaped os _) (keeperNil_w1 os) (keeperNil_w2 os H enc) (keeperNil_w3 os H enc) (laid_met os _)) ?_
  intro W base args ds gs before hval0 hW _ _ hL _
  have hval : ∀ (j : Nat) t v, Tryz.f12.params[j]? = some t → args[j]? = some v → Value.okWide Tryz.prog W .any base t v := hval0
  have hW' := hW
  obtain ⟨p, q, hA0, hV, rfl, hfz, hnd⟩ := hW
  have hA : DataW.TrodAll enc Tryz.prog W 0 (fun _ => true) true Tryz.f12.params.toList args.toList ds p := hA0
  rw [Tryz.params12] at hA hval
  obtain ⟨v0, vs0, d0, ds0, p0, q0, hargs, hds, hq0, h0, r0⟩ := trodAll_cons hA
  obtain ⟨v1, vs1, d1, ds1, p1, q1, rfl, rfl, hq1, h1, r1⟩ := trodAll_cons r0
  obtain ⟨rfl, rfl, hq2⟩ := trodAll_nil r1
  obtain rfl : args = #[v0, v1] := by
    obtain ⟨l⟩ := args
    exact congrArg Array.mk hargs
  obtain ⟨cs, rfl, hcs⟩ := okWide_struct Tryz.underlying107 (hval 1 107 v1 rfl rfl)
  have hcs' : cs.size = 5 := hcs.trans (by kernel_rfl)
  clear hcs
  obtain ⟨a, b, c, d, k, rfl⟩ := five cs hcs'
  obtain ⟨outs, ho, hall⟩ := of_obs (nil18 v0 a b c d k) rfl
  refine (engine Tryz.ok ho [v0, .agg #[a, b, c, d, k]] ⟨_, _, rfl, rfl, _, _, rfl, rfl, rfl⟩ W).mono fun e W' hx => ?_
  obtain ⟨x, hxm, v, m', rfl, hvr, st⟩ := hx
  rw [hall x hxm] at hvr
  obtain rfl : v = .bool true := hvr
  obtain ⟨rfl, rfl⟩ := trodVars_none hV
  refine ⟨_, rfl, closed_post (T := (· < Tryz.prog.types.size)) kids sliceCells_pos hW' rfl ?_ (tb := 4) (by kernel_rfl) Tryz.underlying4 ?_ st.below⟩
  · have : Tryz.f12.params.toList.all (fun t => Nat.blt t Tryz.prog.types.size) = true := by kernel_rfl
    exact fun t ht => Nat.le_of_ble_eq_true (List.all_eq_true.1 this t ht)
  · subst hds; rfl

end Go.Proofs.YtheclllbnkolaaaGreatDoor
