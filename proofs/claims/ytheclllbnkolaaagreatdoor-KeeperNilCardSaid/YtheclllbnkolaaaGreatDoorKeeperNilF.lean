import Derived.Test.YtheclllbnkolaaaGreatDoorSeatRow
import Derived.JoinedOf
import Derived.SevenTiedAt
open Go Go.Eng
namespace Go.Proofs.YtheclllbnkolaaaGreatDoor
set_option maxRecDepth 100000
theorem keeperNil_j0 : (Rows.keeperNilRow.wf (OpenSpec.ofChange Rows.keeperNilSpec) : Bool) = true := by kernel_rfl
theorem keeperNil_j1 : (laidOutB Tryz.prog : Bool) = true := by kernel_rfl
theorem keeperNil_j2 : (mapsRowed Tryz.prog : Bool) = true := by kernel_rfl
theorem keeperNil_j3 : (Tryz.f12.params.all (Tryz.prog.readableRec ·) : Bool) = true := by kernel_rfl
theorem keeperNil_j4 : (namedTie Tryz.prog Rows.keeperNilRow.named Rows.keeperNilSpec.vars : Bool) = true := by kernel_rfl
theorem keeperNil_j5 : ((Rows.keeperNilRow.stops == []) : Bool) = true := by kernel_rfl
theorem keeperNil_j6 : ((Tryz.prog.stops == []) : Bool) = true := by kernel_rfl
theorem keeperNil_j7 : ((Rows.keeperNilRow.knobs == []) : Bool) = true := by kernel_rfl
theorem keeperNil_j8 : ((Tryz.prog.stopKnobs == []) : Bool) = true := by kernel_rfl
theorem keeperNil_j9 : ((Rows.keeperNilRow.inPlace == Tryz.prog.inPlace 12) : Bool) = true := by kernel_rfl
theorem keeperNil_j10 : ((Rows.keeperNilRow.unfollowed == Tryz.prog.unfollowed 12) : Bool) = true := by kernel_rfl
theorem keeperNil_j11 : ((Rows.keeperNilRow.recurses == Tryz.prog.recurses 12) : Bool) = true := by kernel_rfl
theorem keeperNil_j12 : ((Rows.keeperNilRow.named == Tryz.prog.varsNamed 12) : Bool) = true := by kernel_rfl
theorem keeperNil_j13 : ((Rows.keeperNilRow.maps == (Tryz.f12.params.toList ++ Rows.keeperNilSpec.plain.varTypes Tryz.prog).any (Tryz.prog.mapsRec ·)) : Bool) = true := by kernel_rfl
theorem keeperNil_j14 : ((Rows.keeperNilRow.ifaces == (Tryz.f12.params.toList ++ Rows.keeperNilSpec.plain.varTypes Tryz.prog).any (Tryz.prog.ifacesRec ·)) : Bool) = true := by kernel_rfl
theorem keeperNil_j15 : ((Rows.keeperNilRow.mapsOut == Tryz.prog.mapsAmong Tryz.f12.resultTypes.toList) : Bool) = true := by kernel_rfl
theorem keeperNil_j16 : ((Rows.keeperNilRow.loops == (Tryz.f12.params.toList ++ Rows.keeperNilSpec.plain.varTypes Tryz.prog).any (Tryz.prog.loopsFrom ·)) : Bool) = true := by kernel_rfl
theorem keeperNil_j17 : ((Rows.keeperNilRow.wideKeys == (Tryz.f12.params.toList ++ Rows.keeperNilSpec.plain.varTypes Tryz.prog ++ Tryz.f12.resultTypes.toList).any (Tryz.prog.wideKeysFrom ·)) : Bool) = true := by kernel_rfl
theorem keeperNil_j18 : (Rows.keeperNilSpec.vars.all (Tryz.prog.varReadable ·) : Bool) = true := by kernel_rfl
theorem keeperNil_j19 : (Tryz.f12.resultTypes.all (fun t => Tryz.prog.readableRec t && decide (t < Tryz.prog.types.size)) : Bool) = true := by kernel_rfl
theorem keeperNil_j20 : ((Rows.keeperNilRow.ifacesOut == Tryz.f12.resultTypes.toList.any (Tryz.prog.ifacesRec ·)) : Bool) = true := by kernel_rfl
theorem keeperNil_j21 : ((Rows.keeperNilRow.loopsOut == Tryz.f12.resultTypes.toList.any (Tryz.prog.loopsFrom ·)) : Bool) = true := by kernel_rfl
theorem keeperNil_j22 : ((Rows.keeperNilRow.plainKeys == Tryz.prog.plainKeys) : Bool) = true := by kernel_rfl
theorem keeperNil_j23 : (Rows.keeperNilRow.shortTexts.isNone : Bool) = true := by kernel_rfl
theorem keeperNil_j24 : (Tryz.prog.stopsHeard : Bool) = true := by kernel_rfl
theorem keeperNil_j25 : (Tryz.prog.mayEnter : Bool) = true := by kernel_rfl
theorem keeperNil_j26 : ((Rows.keeperNilRow.lifted == Tryz.prog.liftsFinal) : Bool) = true := by kernel_rfl
theorem keeperNil_j27 : ((Tryz.prog.make == some Rows.keeperNilRow.make) : Bool) = true := by kernel_rfl
theorem keeperNil_j28 : ((Rows.keeperNilRow.kinds == (if Rows.keeperNilRow.domain.isEmpty then [] else Tryz.f12.params.toList.map fun t => match Tryz.prog.underlying t with | some (.int k) => some k | _ => none)) : Bool) = true := by kernel_rfl
theorem keeperNil_j29 : ((Rows.keeperNilRow.pinned == Rows.keeperNilRow.pinnedBy) : Bool) = true := by kernel_rfl
theorem keeperNil_j30 : ((Rows.keeperNilRow.veiled == (Tryz.f12.params.toList ++ Rows.keeperNilSpec.plain.varTypes Tryz.prog ++ Tryz.f12.resultTypes.toList).any (Tryz.prog.veiledRec ·)) : Bool) = true := by kernel_rfl
theorem keeperNil_j31 : (Rows.keeperNilRow.veiledFits Tryz.prog Tryz.f12.params.toList (Tryz.f12.params.toList ++ Rows.keeperNilSpec.plain.varTypes Tryz.prog ++ Tryz.f12.resultTypes.toList) : Bool) = true := by kernel_rfl
theorem keeperNil_joined : joinedFacts Tryz.prog 12 Tryz.f12 Rows.keeperNilSpec Rows.keeperNilRow = true := by
  unfold joinedFacts
  exact andI (andI (andI (andI (andI (andI (andI (andI (andI (andI (andI (andI (andI (andI (andI (andI (andI (andI (andI (andI (andI (andI (andI (andI (andI (andI (andI (andI (andI (andI (andI (keeperNil_j0) keeperNil_j1) keeperNil_j2) keeperNil_j3) keeperNil_j4) keeperNil_j5) keeperNil_j6) keeperNil_j7) keeperNil_j8) keeperNil_j9) keeperNil_j10) keeperNil_j11) keeperNil_j12) keeperNil_j13) keeperNil_j14) keeperNil_j15) keeperNil_j16) keeperNil_j17) keeperNil_j18) keeperNil_j19) keeperNil_j20) keeperNil_j21) keeperNil_j22) keeperNil_j23) keeperNil_j24) keeperNil_j25) keeperNil_j26) keeperNil_j27) keeperNil_j28) keeperNil_j29) keeperNil_j30) keeperNil_j31
theorem keeperNil_named : Tryz.prog.funcNamed "watershed/watershedlaw18.KeeperNil" = some 12 := by kernel_rfl
theorem keeperNil_inst : Tryz.f12.isInstance Tryz.prog Rows.keeperNilRow.origin Rows.keeperNilRow.targs := of_decide_eq_true (by kernel_rfl)
theorem keeperNil_wrap : Tryz.f12.isWrapper Tryz.prog Rows.keeperNilRow.wrapper Rows.keeperNilRow.mainSum := by
  unfold Func.isWrapper; first | (rw [if_pos (by decide +kernel)]; kernel_rfl) | (rw [if_neg (by decide +kernel)]; exact ⟨rfl, rfl⟩)
theorem keeperNil_params : Tryz.f12.params.toList.all (fun t => !Tryz.prog.wantsStandIn t) = true := by kernel_rfl
theorem keeperNil_wf : Rows.keeperNilRow.wfByText (OpenSpec.ofChange Rows.keeperNilSpec) = true := by kernel_rfl
theorem keeperNil_goes : false = Rows.keeperNilRow.goesBy Tryz.prog := by kernel_rfl
end Go.Proofs.YtheclllbnkolaaaGreatDoor
