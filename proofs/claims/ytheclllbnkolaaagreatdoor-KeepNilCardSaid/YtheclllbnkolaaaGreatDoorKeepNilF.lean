import Derived.Test.YtheclllbnkolaaaGreatDoorSeatRow
import Derived.JoinedOf
import Derived.SevenTiedAt
open Go Go.Eng
namespace Go.Proofs.YtheclllbnkolaaaGreatDoor
set_option maxRecDepth 100000
theorem keepNil_j0 : (Rows.keepNilRow.wf (OpenSpec.ofChange Rows.keepNilSpec) : Bool) = true := by kernel_rfl
theorem keepNil_j1 : (laidOutB Tryz.prog : Bool) = true := by kernel_rfl
theorem keepNil_j2 : (mapsRowed Tryz.prog : Bool) = true := by kernel_rfl
theorem keepNil_j3 : (Tryz.f3.params.all (Tryz.prog.readableRec ·) : Bool) = true := by kernel_rfl
theorem keepNil_j4 : (namedTie Tryz.prog Rows.keepNilRow.named Rows.keepNilSpec.vars : Bool) = true := by kernel_rfl
theorem keepNil_j5 : ((Rows.keepNilRow.stops == []) : Bool) = true := by kernel_rfl
theorem keepNil_j6 : ((Tryz.prog.stops == []) : Bool) = true := by kernel_rfl
theorem keepNil_j7 : ((Rows.keepNilRow.knobs == []) : Bool) = true := by kernel_rfl
theorem keepNil_j8 : ((Tryz.prog.stopKnobs == []) : Bool) = true := by kernel_rfl
theorem keepNil_j9 : ((Rows.keepNilRow.inPlace == Tryz.prog.inPlace 3) : Bool) = true := by kernel_rfl
theorem keepNil_j10 : ((Rows.keepNilRow.unfollowed == Tryz.prog.unfollowed 3) : Bool) = true := by kernel_rfl
theorem keepNil_j11 : ((Rows.keepNilRow.recurses == Tryz.prog.recurses 3) : Bool) = true := by kernel_rfl
theorem keepNil_j12 : ((Rows.keepNilRow.named == Tryz.prog.varsNamed 3) : Bool) = true := by kernel_rfl
theorem keepNil_j13 : ((Rows.keepNilRow.maps == (Tryz.f3.params.toList ++ Rows.keepNilSpec.plain.varTypes Tryz.prog).any (Tryz.prog.mapsRec ·)) : Bool) = true := by kernel_rfl
theorem keepNil_j14 : ((Rows.keepNilRow.ifaces == (Tryz.f3.params.toList ++ Rows.keepNilSpec.plain.varTypes Tryz.prog).any (Tryz.prog.ifacesRec ·)) : Bool) = true := by kernel_rfl
theorem keepNil_j15 : ((Rows.keepNilRow.mapsOut == Tryz.prog.mapsAmong Tryz.f3.resultTypes.toList) : Bool) = true := by kernel_rfl
theorem keepNil_j16 : ((Rows.keepNilRow.loops == (Tryz.f3.params.toList ++ Rows.keepNilSpec.plain.varTypes Tryz.prog).any (Tryz.prog.loopsFrom ·)) : Bool) = true := by kernel_rfl
theorem keepNil_j17 : ((Rows.keepNilRow.wideKeys == (Tryz.f3.params.toList ++ Rows.keepNilSpec.plain.varTypes Tryz.prog ++ Tryz.f3.resultTypes.toList).any (Tryz.prog.wideKeysFrom ·)) : Bool) = true := by kernel_rfl
theorem keepNil_j18 : (Rows.keepNilSpec.vars.all (Tryz.prog.varReadable ·) : Bool) = true := by kernel_rfl
theorem keepNil_j19 : (Tryz.f3.resultTypes.all (fun t => Tryz.prog.readableRec t && decide (t < Tryz.prog.types.size)) : Bool) = true := by kernel_rfl
theorem keepNil_j20 : ((Rows.keepNilRow.ifacesOut == Tryz.f3.resultTypes.toList.any (Tryz.prog.ifacesRec ·)) : Bool) = true := by kernel_rfl
theorem keepNil_j21 : ((Rows.keepNilRow.loopsOut == Tryz.f3.resultTypes.toList.any (Tryz.prog.loopsFrom ·)) : Bool) = true := by kernel_rfl
theorem keepNil_j22 : ((Rows.keepNilRow.plainKeys == Tryz.prog.plainKeys) : Bool) = true := by kernel_rfl
theorem keepNil_j23 : (Rows.keepNilRow.shortTexts.isNone : Bool) = true := by kernel_rfl
theorem keepNil_j24 : (Tryz.prog.stopsHeard : Bool) = true := by kernel_rfl
theorem keepNil_j25 : (Tryz.prog.mayEnter : Bool) = true := by kernel_rfl
theorem keepNil_j26 : ((Rows.keepNilRow.lifted == Tryz.prog.liftsFinal) : Bool) = true := by kernel_rfl
theorem keepNil_j27 : ((Tryz.prog.make == some Rows.keepNilRow.make) : Bool) = true := by kernel_rfl
theorem keepNil_j28 : ((Rows.keepNilRow.kinds == (if Rows.keepNilRow.domain.isEmpty then [] else Tryz.f3.params.toList.map fun t => match Tryz.prog.underlying t with | some (.int k) => some k | _ => none)) : Bool) = true := by kernel_rfl
theorem keepNil_j29 : ((Rows.keepNilRow.pinned == Rows.keepNilRow.pinnedBy) : Bool) = true := by kernel_rfl
theorem keepNil_j30 : ((Rows.keepNilRow.veiled == (Tryz.f3.params.toList ++ Rows.keepNilSpec.plain.varTypes Tryz.prog ++ Tryz.f3.resultTypes.toList).any (Tryz.prog.veiledRec ·)) : Bool) = true := by kernel_rfl
theorem keepNil_j31 : (Rows.keepNilRow.veiledFits Tryz.prog Tryz.f3.params.toList (Tryz.f3.params.toList ++ Rows.keepNilSpec.plain.varTypes Tryz.prog ++ Tryz.f3.resultTypes.toList) : Bool) = true := by kernel_rfl
theorem keepNil_joined : joinedFacts Tryz.prog 3 Tryz.f3 Rows.keepNilSpec Rows.keepNilRow = true := by
  unfold joinedFacts
  exact andI (andI (andI (andI (andI (andI (andI (andI (andI (andI (andI (andI (andI (andI (andI (andI (andI (andI (andI (andI (andI (andI (andI (andI (andI (andI (andI (andI (andI (andI (andI (keepNil_j0) keepNil_j1) keepNil_j2) keepNil_j3) keepNil_j4) keepNil_j5) keepNil_j6) keepNil_j7) keepNil_j8) keepNil_j9) keepNil_j10) keepNil_j11) keepNil_j12) keepNil_j13) keepNil_j14) keepNil_j15) keepNil_j16) keepNil_j17) keepNil_j18) keepNil_j19) keepNil_j20) keepNil_j21) keepNil_j22) keepNil_j23) keepNil_j24) keepNil_j25) keepNil_j26) keepNil_j27) keepNil_j28) keepNil_j29) keepNil_j30) keepNil_j31
theorem keepNil_named : Tryz.prog.funcNamed "watershed/watershedlaw11.KeepNil" = some 3 := by kernel_rfl
theorem keepNil_inst : Tryz.f3.isInstance Tryz.prog Rows.keepNilRow.origin Rows.keepNilRow.targs := of_decide_eq_true (by kernel_rfl)
theorem keepNil_wrap : Tryz.f3.isWrapper Tryz.prog Rows.keepNilRow.wrapper Rows.keepNilRow.mainSum := by
  unfold Func.isWrapper; first | (rw [if_pos (by decide +kernel)]; kernel_rfl) | (rw [if_neg (by decide +kernel)]; exact ⟨rfl, rfl⟩)
theorem keepNil_params : Tryz.f3.params.toList.all (fun t => !Tryz.prog.wantsStandIn t) = true := by kernel_rfl
theorem keepNil_wf : Rows.keepNilRow.wfByText (OpenSpec.ofChange Rows.keepNilSpec) = true := by kernel_rfl
theorem keepNil_goes : false = Rows.keepNilRow.goesBy Tryz.prog := by kernel_rfl
end Go.Proofs.YtheclllbnkolaaaGreatDoor
