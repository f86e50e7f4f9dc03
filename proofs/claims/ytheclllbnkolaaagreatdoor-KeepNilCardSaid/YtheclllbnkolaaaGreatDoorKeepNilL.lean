import Derived.Test.YtheclllbnkolaaaGreatDoorSeatRow
import Derived.Test.YtheclllbnkolaaaGreatDoorTNil
open Go Go.Eng
namespace Go.Proofs.YtheclllbnkolaaaGreatDoor
open Go.ChangeShapes Go.WideShapes Go.ChangeAt Go.RowKit
set_option maxRecDepth 100000
theorem keepNil_w1 (os : Os) : Input.okWideB Tryz.prog ((laidWorld os).forCall (fun _ _ => 0) ⟨#[], #[.agg #[.string ⟨#[]⟩, .int .i64 0, .int .i64 0], .int .i64 0, .slice none 0 0], []⟩) 3 ⟨#[], #[.agg #[.string ⟨#[]⟩, .int .i64 0, .int .i64 0], .int .i64 0, .slice none 0 0], []⟩ = true := by kernel_rfl
theorem keepNil_w2 (os : Os) (H : Type) (enc : TypeId × Value → H) : Rows.keepNilSpec.preB enc Tryz.prog Tryz.f3 [] false ((laidWorld os).forCall (fun _ _ => 0) ⟨#[], #[.agg #[.string ⟨#[]⟩, .int .i64 0, .int .i64 0], .int .i64 0, .slice none 0 0], []⟩).memory #[.agg #[.string ⟨#[]⟩, .int .i64 0, .int .i64 0], .int .i64 0, .slice none 0 0] 8 = true := by kernel_rfl
theorem keepNil_w3 (os : Os) (H : Type) (enc : TypeId × Value → H) : Rows.keepNilSpec.sizedB enc Tryz.prog Tryz.f3 false ((laidWorld os).forCall (fun _ _ => 0) ⟨#[], #[.agg #[.string ⟨#[]⟩, .int .i64 0, .int .i64 0], .int .i64 0, .slice none 0 0], []⟩).memory #[.agg #[.string ⟨#[]⟩, .int .i64 0, .int .i64 0], .int .i64 0, .slice none 0 0] 8 = true := by kernel_rfl
theorem three (cs : Array Value) (h : cs.size = 3) : ∃ a b c, cs = #[a, b, c] := by
  obtain ⟨l⟩ := cs
  match l, h with
  | [a, b, c], _ => exact ⟨a, b, c, rfl⟩
theorem keepNil_lifted (os : Os) (started : os.Started) (H : Type) (enc : TypeId × Value → H) :
    ReturnsInHanded {} Tryz.checked os 3 .any (fun w args => (Rows.keepNilSpec.pre enc Tryz.prog Tryz.f3 [] false w args ∧ laidMetH Tryz.prog Rows.keepNilRow.laid w) ∧ sizedMet enc Tryz.prog Tryz.f3 (OpenSpec.ofChange Rows.keepNilSpec) false w args)
      (Rows.keepNilSpec.post enc Tryz.prog Tryz.f3 false true false false) := by
  refine returnsInHanded_of_change_and (C := Tryz.checked) (X := fun w _ => laidMetH Tryz.prog Rows.keepNilRow.laid w) (fun _ _ _ hh h => h.of_heap hh) own started (by kernel_rfl) Tryz.func3
    (ChangeSpec.witness_shaped (enc := enc) (C := Tryz.checked) (os := os) (X := fun w _ => laidMetH Tryz.prog Rows.keepNilRow.laid w) false (laidWorld os) #[.agg #[.string ⟨#[]⟩, .int .i64 0, .int .i64 0], .int .i64 0, .slice none 0 0] 8 rfl (shaped os _) (keepNil_w1 os) (keepNil_w2 os H enc) (keepNil_w3 os H enc) (laid_met os _)) ?_
  intro W base args ds gs before hval0 hW _ _ hL _
  have hval : ∀ (j : Nat) t v, Tryz.f3.params[j]? = some t → args[j]? = some v → Value.okWide Tryz.prog W .any base t v := hval0
  have hW' := hW
  obtain ⟨p, q, hA0, hV, rfl, hfz, hnd⟩ := hW
  have hA : DataW.TrodAll enc Tryz.prog W 0 (fun _ => true) true Tryz.f3.params.toList args.toList ds p := hA0
  rw [Tryz.params3] at hA hval
  obtain ⟨v0, vs0, d0, ds0, p0, q0, hargs, hds, hq0, h0, r0⟩ := trodAll_cons hA
  obtain ⟨v1, vs1, d1, ds1, p1, q1, rfl, rfl, hq1, h1, r1⟩ := trodAll_cons r0
  obtain ⟨v2, vs2, d2, ds2, p2, q2, rfl, rfl, hq2, h2, r2⟩ := trodAll_cons r1
  obtain ⟨rfl, rfl, hq3⟩ := trodAll_nil r2
  obtain rfl : args = #[v0, v1, v2] := by
    obtain ⟨l⟩ := args
    exact congrArg Array.mk hargs
  obtain ⟨cs, rfl, hcs⟩ := okWide_struct Tryz.underlying23 (hval 0 23 v0 rfl rfl)
  have hcs' : cs.size = 3 := hcs.trans (by kernel_rfl)
  clear hcs
  obtain ⟨a, b, c, rfl⟩ := three cs hcs'
  obtain ⟨outs, ho, hall⟩ := of_obs (nil11 a b c v1 v2) rfl
  refine (engine Tryz.ok ho [.agg #[a, b, c], v1, v2] ⟨_, _, rfl, rfl, _, _, rfl, rfl, _, _, rfl, rfl, rfl⟩ W).mono fun e W' hx => ?_
  obtain ⟨x, hxm, v, m', rfl, hvr, st⟩ := hx
  rw [hall x hxm] at hvr
  obtain rfl : v = .bool true := hvr
  obtain ⟨rfl, rfl⟩ := trodVars_none hV
  refine ⟨_, rfl, closed_post (T := (· < Tryz.prog.types.size)) kids sliceCells_pos hW' rfl ?_ (tb := 4) (by kernel_rfl) Tryz.underlying4 ?_ st.below⟩
  · have : Tryz.f3.params.toList.all (fun t => Nat.blt t Tryz.prog.types.size) = true := by kernel_rfl
    exact fun t ht => Nat.le_of_ble_eq_true (List.all_eq_true.1 this t ht)
  · subst hds; rfl

end Go.Proofs.YtheclllbnkolaaaGreatDoor
