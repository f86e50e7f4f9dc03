/-
  DERIVED. GIVEN WITH THE SEED: THE CARDS: each row of YtheclllbnkolaaaGreatDoorRows.lean that lists a variable, with what it lists TIED to the program's text (the seventh form; the later family's looks); each row that meets fmt, with fmt's text TOLD by the authors' own Lean function (tested against real Go, not proved from fmt's source: count such statements apart). THE CARD IS WHAT COUNTS. Prove the row's statement (the work); the ties are given (YtheclllbnkolaaaGreatDoorTie.lean); close each card by the builder's one call (the guide's Derived/Test/ToyasCard.lean, 'card_holds'). Laid BY PROGRAM, IN A SANDBOX (cutbox-door.mjs). By AI agents, Wed Nov 11 2026. No macro, syntax, notation, axiom, sorry.
-/
import Derived.Test.YtheclllbnkolaaaGreatDoorRows
import GoSem.ClaimSeven
namespace Go.Proofs.YtheclllbnkolaaaGreatDoor
namespace Rows

/-- THE TIED CARD OF 'watershedlaw11.KeepNil'. -/
def keepNilCard : Claim7 := { stood := { row := keepNilRow, standIns := [], harness := (true, "d82340148dc92871666fbcda639734020f818dc1dcd21106f2c0f6894e100dd3"), looks := true }, kinds := [], alts := [], laidByText := true, laidKinds := [.data, .data, .data, .data, .sentinel, .sentinel, .pinned], laidTests := true, laidLooks := .later }
def KeepNilCardSaid : Prop := Claim7.holds Tryz.pinned (.plain (OpenSpec.ofChange keepNilSpec)) keepNilCard

/-- THE TIED CARD OF 'watershedlaw12.PlainTapes'. -/
def plainTapesCard : Claim7 := { stood := { row := plainTapesRow, standIns := [], harness := (true, "d82340148dc92871666fbcda639734020f818dc1dcd21106f2c0f6894e100dd3"), looks := true }, kinds := [], alts := [], laidByText := true, laidKinds := [.data, .data, .data, .data, .sentinel, .sentinel, .pinned], laidTests := true, laidLooks := .later }
def PlainTapesCardSaid : Prop := Claim7.holds Tryz.pinned (.plain (OpenSpec.ofChange plainTapesSpec)) plainTapesCard

/-- THE TIED CARD OF 'watershedlaw12.PlainReads'. -/
def plainReadsCard : Claim7 := { stood := { row := plainReadsRow, standIns := [], harness := (true, "d82340148dc92871666fbcda639734020f818dc1dcd21106f2c0f6894e100dd3"), looks := true }, kinds := [], alts := [], laidByText := true, laidKinds := [.data, .data, .data, .data, .sentinel, .sentinel, .pinned], laidTests := true, laidLooks := .later }
def PlainReadsCardSaid : Prop := Claim7.holds Tryz.pinned (.plain (OpenSpec.ofChange plainReadsSpec)) plainReadsCard

/-- THE TIED CARD OF 'watershedlaw12.PlainRuns'. -/
def plainRunsCard : Claim7 := { stood := { row := plainRunsRow, standIns := [], harness := (true, "d82340148dc92871666fbcda639734020f818dc1dcd21106f2c0f6894e100dd3"), looks := true }, kinds := [], alts := [], laidByText := true, laidKinds := [.data, .data, .data, .data, .sentinel, .sentinel, .pinned], laidTests := true, laidLooks := .later }
def PlainRunsCardSaid : Prop := Claim7.holds Tryz.pinned (.plain (OpenSpec.ofChange plainRunsSpec)) plainRunsCard

/-- THE TIED CARD OF 'watershedlaw12.PlainChains'. -/
def plainChainsCard : Claim7 := { stood := { row := plainChainsRow, standIns := [], harness := (true, "d82340148dc92871666fbcda639734020f818dc1dcd21106f2c0f6894e100dd3"), looks := true }, kinds := [], alts := [], laidByText := true, laidKinds := [.data, .data, .data, .data, .sentinel, .sentinel, .pinned], laidTests := true, laidLooks := .later }
def PlainChainsCardSaid : Prop := Claim7.holds Tryz.pinned (.plain (OpenSpec.ofChange plainChainsSpec)) plainChainsCard

/-- THE TIED CARD OF 'watershedlaw18.KeeperMoves'. -/
def keeperMovesCard : Claim7 := { stood := { row := keeperMovesRow, standIns := [], harness := (true, "d82340148dc92871666fbcda639734020f818dc1dcd21106f2c0f6894e100dd3"), looks := true }, kinds := [], alts := [], laidByText := true, laidKinds := [.data, .data, .data, .data, .sentinel, .sentinel, .pinned], laidTests := true, laidLooks := .later }
def KeeperMovesCardSaid : Prop := Claim7.holds Tryz.pinned (.plain (OpenSpec.ofChange keeperMovesSpec)) keeperMovesCard

/-- THE TIED CARD OF 'watershedlaw18.KeeperRoom'. -/
def keeperRoomCard : Claim7 := { stood := { row := keeperRoomRow, standIns := [], harness := (true, "d82340148dc92871666fbcda639734020f818dc1dcd21106f2c0f6894e100dd3"), looks := true }, kinds := [], alts := [], laidByText := true, laidKinds := [.data, .data, .data, .data, .sentinel, .sentinel, .pinned], laidTests := true, laidLooks := .later }
def KeeperRoomCardSaid : Prop := Claim7.holds Tryz.pinned (.plain (OpenSpec.ofChange keeperRoomSpec)) keeperRoomCard

/-- THE TIED CARD OF 'watershedlaw18.KeeperCuts'. -/
def keeperCutsCard : Claim7 := { stood := { row := keeperCutsRow, standIns := [], harness := (true, "d82340148dc92871666fbcda639734020f818dc1dcd21106f2c0f6894e100dd3"), looks := true }, kinds := [], alts := [], laidByText := true, laidKinds := [.data, .data, .data, .data, .sentinel, .sentinel, .pinned], laidTests := true, laidLooks := .later }
def KeeperCutsCardSaid : Prop := Claim7.holds Tryz.pinned (.plain (OpenSpec.ofChange keeperCutsSpec)) keeperCutsCard

/-- THE TIED CARD OF 'watershedlaw18.KeeperOwns'. -/
def keeperOwnsCard : Claim7 := { stood := { row := keeperOwnsRow, standIns := [], harness := (true, "d82340148dc92871666fbcda639734020f818dc1dcd21106f2c0f6894e100dd3"), looks := true }, kinds := [], alts := [], laidByText := true, laidKinds := [.data, .data, .data, .data, .sentinel, .sentinel, .pinned], laidTests := true, laidLooks := .later }
def KeeperOwnsCardSaid : Prop := Claim7.holds Tryz.pinned (.plain (OpenSpec.ofChange keeperOwnsSpec)) keeperOwnsCard

/-- THE TIED CARD OF 'watershedlaw18.KeeperNil'. -/
def keeperNilCard : Claim7 := { stood := { row := keeperNilRow, standIns := [], harness := (true, "d82340148dc92871666fbcda639734020f818dc1dcd21106f2c0f6894e100dd3"), looks := true }, kinds := [], alts := [], laidByText := true, laidKinds := [.data, .data, .data, .data, .sentinel, .sentinel, .pinned], laidTests := true, laidLooks := .later }
def KeeperNilCardSaid : Prop := Claim7.holds Tryz.pinned (.plain (OpenSpec.ofChange keeperNilSpec)) keeperNilCard

/-- THE SECOND FORM's CARD OF 'watershedlaw11.KeepNil'. -/
def keepNilUptoCard : Claim7 := { stood := { row := keepNilUptoRow, standIns := [], harness := (true, "d82340148dc92871666fbcda639734020f818dc1dcd21106f2c0f6894e100dd3"), looks := true }, kinds := [], alts := [], laidByText := true, laidKinds := [.data, .data, .data, .data, .sentinel, .sentinel, .pinned], laidTests := true, laidLooks := .later }
def KeepNilUptoCardSaid : Prop := Claim7.holds Tryz.pinned (.plain (OpenSpec.upto keepNilSpec)) keepNilUptoCard

/-- THE SECOND FORM's CARD OF 'watershedlaw12.PlainTapes'. -/
def plainTapesUptoCard : Claim7 := { stood := { row := plainTapesUptoRow, standIns := [], harness := (true, "d82340148dc92871666fbcda639734020f818dc1dcd21106f2c0f6894e100dd3"), looks := true }, kinds := [], alts := [], laidByText := true, laidKinds := [.data, .data, .data, .data, .sentinel, .sentinel, .pinned], laidTests := true, laidLooks := .later }
def PlainTapesUptoCardSaid : Prop := Claim7.holds Tryz.pinned (.plain (OpenSpec.upto plainTapesSpec)) plainTapesUptoCard

/-- THE SECOND FORM's CARD OF 'watershedlaw12.PlainReads'. -/
def plainReadsUptoCard : Claim7 := { stood := { row := plainReadsUptoRow, standIns := [], harness := (true, "d82340148dc92871666fbcda639734020f818dc1dcd21106f2c0f6894e100dd3"), looks := true }, kinds := [], alts := [], laidByText := true, laidKinds := [.data, .data, .data, .data, .sentinel, .sentinel, .pinned], laidTests := true, laidLooks := .later }
def PlainReadsUptoCardSaid : Prop := Claim7.holds Tryz.pinned (.plain (OpenSpec.upto plainReadsSpec)) plainReadsUptoCard

/-- THE SECOND FORM's CARD OF 'watershedlaw12.PlainRuns'. -/
def plainRunsUptoCard : Claim7 := { stood := { row := plainRunsUptoRow, standIns := [], harness := (true, "d82340148dc92871666fbcda639734020f818dc1dcd21106f2c0f6894e100dd3"), looks := true }, kinds := [], alts := [], laidByText := true, laidKinds := [.data, .data, .data, .data, .sentinel, .sentinel, .pinned], laidTests := true, laidLooks := .later }
def PlainRunsUptoCardSaid : Prop := Claim7.holds Tryz.pinned (.plain (OpenSpec.upto plainRunsSpec)) plainRunsUptoCard

/-- THE SECOND FORM's CARD OF 'watershedlaw12.PlainChains'. -/
def plainChainsUptoCard : Claim7 := { stood := { row := plainChainsUptoRow, standIns := [], harness := (true, "d82340148dc92871666fbcda639734020f818dc1dcd21106f2c0f6894e100dd3"), looks := true }, kinds := [], alts := [], laidByText := true, laidKinds := [.data, .data, .data, .data, .sentinel, .sentinel, .pinned], laidTests := true, laidLooks := .later }
def PlainChainsUptoCardSaid : Prop := Claim7.holds Tryz.pinned (.plain (OpenSpec.upto plainChainsSpec)) plainChainsUptoCard

/-- THE SECOND FORM's CARD OF 'watershedlaw18.KeeperMoves'. -/
def keeperMovesUptoCard : Claim7 := { stood := { row := keeperMovesUptoRow, standIns := [], harness := (true, "d82340148dc92871666fbcda639734020f818dc1dcd21106f2c0f6894e100dd3"), looks := true }, kinds := [], alts := [], laidByText := true, laidKinds := [.data, .data, .data, .data, .sentinel, .sentinel, .pinned], laidTests := true, laidLooks := .later }
def KeeperMovesUptoCardSaid : Prop := Claim7.holds Tryz.pinned (.plain (OpenSpec.upto keeperMovesSpec)) keeperMovesUptoCard

/-- THE SECOND FORM's CARD OF 'watershedlaw18.KeeperRoom'. -/
def keeperRoomUptoCard : Claim7 := { stood := { row := keeperRoomUptoRow, standIns := [], harness := (true, "d82340148dc92871666fbcda639734020f818dc1dcd21106f2c0f6894e100dd3"), looks := true }, kinds := [], alts := [], laidByText := true, laidKinds := [.data, .data, .data, .data, .sentinel, .sentinel, .pinned], laidTests := true, laidLooks := .later }
def KeeperRoomUptoCardSaid : Prop := Claim7.holds Tryz.pinned (.plain (OpenSpec.upto keeperRoomSpec)) keeperRoomUptoCard

/-- THE SECOND FORM's CARD OF 'watershedlaw18.KeeperCuts'. -/
def keeperCutsUptoCard : Claim7 := { stood := { row := keeperCutsUptoRow, standIns := [], harness := (true, "d82340148dc92871666fbcda639734020f818dc1dcd21106f2c0f6894e100dd3"), looks := true }, kinds := [], alts := [], laidByText := true, laidKinds := [.data, .data, .data, .data, .sentinel, .sentinel, .pinned], laidTests := true, laidLooks := .later }
def KeeperCutsUptoCardSaid : Prop := Claim7.holds Tryz.pinned (.plain (OpenSpec.upto keeperCutsSpec)) keeperCutsUptoCard

/-- THE SECOND FORM's CARD OF 'watershedlaw18.KeeperOwns'. -/
def keeperOwnsUptoCard : Claim7 := { stood := { row := keeperOwnsUptoRow, standIns := [], harness := (true, "d82340148dc92871666fbcda639734020f818dc1dcd21106f2c0f6894e100dd3"), looks := true }, kinds := [], alts := [], laidByText := true, laidKinds := [.data, .data, .data, .data, .sentinel, .sentinel, .pinned], laidTests := true, laidLooks := .later }
def KeeperOwnsUptoCardSaid : Prop := Claim7.holds Tryz.pinned (.plain (OpenSpec.upto keeperOwnsSpec)) keeperOwnsUptoCard

/-- THE SECOND FORM's CARD OF 'watershedlaw18.KeeperNil'. -/
def keeperNilUptoCard : Claim7 := { stood := { row := keeperNilUptoRow, standIns := [], harness := (true, "d82340148dc92871666fbcda639734020f818dc1dcd21106f2c0f6894e100dd3"), looks := true }, kinds := [], alts := [], laidByText := true, laidKinds := [.data, .data, .data, .data, .sentinel, .sentinel, .pinned], laidTests := true, laidLooks := .later }
def KeeperNilUptoCardSaid : Prop := Claim7.holds Tryz.pinned (.plain (OpenSpec.upto keeperNilSpec)) keeperNilUptoCard
end Rows
end Go.Proofs.YtheclllbnkolaaaGreatDoor
