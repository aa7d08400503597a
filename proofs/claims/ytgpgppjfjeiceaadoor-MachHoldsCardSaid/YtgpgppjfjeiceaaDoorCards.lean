/-
  DERIVED. GIVEN WITH THE SEED: THE CARDS: each row of YtgpgppjfjeiceaaDoorRows.lean that lists a variable, with what it lists TIED to the program's text (the seventh form; the later family's looks); each row that meets fmt, with fmt's text TOLD by the authors' own Lean function (tested against real Go, not proved from fmt's source: count such statements apart). THE CARD IS WHAT COUNTS. Prove the row's statement (the work); the ties are given (YtgpgppjfjeiceaaDoorTie.lean); close each card by the builder's one call (the guide's Derived/Test/ToyasCard.lean, 'card_holds'). Laid BY PROGRAM, IN A SANDBOX (cutbox-door.mjs). By AI agents, Wed Nov 11 2026. No macro, syntax, notation, axiom, sorry.
-/
import Derived.Test.YtgpgppjfjeiceaaDoorRows
import GoSem.ClaimSeven
namespace Go.Proofs.YtgpgppjfjeiceaaDoor
namespace Rows

/-- THE TIED CARD OF 'burinlaw19.MachHolds'. -/
def machHoldsCard : Claim7 := { stood := { row := machHoldsRow, standIns := [], harness := (true, "fa97e6339995d7217379659a9c676c644ec84e663dabae2d7d2cbc283e360004"), looks := false }, kinds := [], alts := [], laidByText := true, laidKinds := [.data, .data, .data, .data], laidTests := true, laidLooks := .later }
def MachHoldsCardSaid : Prop := Claim7.holds Tryd.pinned (.plain (OpenSpec.ofChange machHoldsSpec)) machHoldsCard

/-- THE TIED CARD OF 'burinlaw17.FoldLive'. -/
def foldLiveCard : Claim7 := { stood := { row := foldLiveRow, standIns := [], harness := (true, "fa97e6339995d7217379659a9c676c644ec84e663dabae2d7d2cbc283e360004"), looks := false }, kinds := [], alts := [], laidByText := true, laidKinds := [.data, .data], laidTests := true, laidLooks := .later }
def FoldLiveCardSaid : Prop := Claim7.holds Tryd.pinned (.plain (OpenSpec.ofChange foldLiveSpec)) foldLiveCard

/-- THE TIED CARD OF 'burinlaw17.FoldShapes'. -/
def foldShapesCard : Claim7 := { stood := { row := foldShapesRow, standIns := [], harness := (true, "fa97e6339995d7217379659a9c676c644ec84e663dabae2d7d2cbc283e360004"), looks := false }, kinds := [], alts := [], laidByText := true, laidKinds := [.data, .data], laidTests := true, laidLooks := .later }
def FoldShapesCardSaid : Prop := Claim7.holds Tryd.pinned (.plain (OpenSpec.ofChange foldShapesSpec)) foldShapesCard

/-- THE TIED CARD OF 'burinlaw17.FoldDead'. -/
def foldDeadCard : Claim7 := { stood := { row := foldDeadRow, standIns := [], harness := (true, "fa97e6339995d7217379659a9c676c644ec84e663dabae2d7d2cbc283e360004"), looks := false }, kinds := [], alts := [], laidByText := true, laidKinds := [.data, .data], laidTests := true, laidLooks := .later }
def FoldDeadCardSaid : Prop := Claim7.holds Tryd.pinned (.plain (OpenSpec.ofChange foldDeadSpec)) foldDeadCard

/-- THE TIED CARD OF 'burinlaw17.FoldAgain'. -/
def foldAgainCard : Claim7 := { stood := { row := foldAgainRow, standIns := [], harness := (true, "fa97e6339995d7217379659a9c676c644ec84e663dabae2d7d2cbc283e360004"), looks := false }, kinds := [], alts := [], laidByText := true, laidKinds := [.data, .data], laidTests := true, laidLooks := .later }
def FoldAgainCardSaid : Prop := Claim7.holds Tryd.pinned (.plain (OpenSpec.ofChange foldAgainSpec)) foldAgainCard

/-- THE TIED CARD OF 'burinlaw17.FoldReached'. -/
def foldReachedCard : Claim7 := { stood := { row := foldReachedRow, standIns := [], harness := (true, "fa97e6339995d7217379659a9c676c644ec84e663dabae2d7d2cbc283e360004"), looks := false }, kinds := [], alts := [], laidByText := true, laidKinds := [.data, .data], laidTests := true, laidLooks := .later }
def FoldReachedCardSaid : Prop := Claim7.holds Tryd.pinned (.plain (OpenSpec.ofChange foldReachedSpec)) foldReachedCard

/-- THE TIED CARD OF 'burinlaw17.FoldIdle'. -/
def foldIdleCard : Claim7 := { stood := { row := foldIdleRow, standIns := [], harness := (true, "fa97e6339995d7217379659a9c676c644ec84e663dabae2d7d2cbc283e360004"), looks := false }, kinds := [], alts := [], laidByText := true, laidKinds := [.data, .data], laidTests := true, laidLooks := .later }
def FoldIdleCardSaid : Prop := Claim7.holds Tryd.pinned (.plain (OpenSpec.ofChange foldIdleSpec)) foldIdleCard

/-- THE SECOND FORM's CARD OF 'burinlaw19.MachHolds'. -/
def machHoldsUptoCard : Claim7 := { stood := { row := machHoldsUptoRow, standIns := [], harness := (true, "fa97e6339995d7217379659a9c676c644ec84e663dabae2d7d2cbc283e360004"), looks := false }, kinds := [], alts := [], laidByText := true, laidKinds := [.data, .data, .data, .data], laidTests := true, laidLooks := .later }
def MachHoldsUptoCardSaid : Prop := Claim7.holds Tryd.pinned (.plain (OpenSpec.upto machHoldsSpec)) machHoldsUptoCard

/-- THE SECOND FORM's CARD OF 'burinlaw17.FoldLive'. -/
def foldLiveUptoCard : Claim7 := { stood := { row := foldLiveUptoRow, standIns := [], harness := (true, "fa97e6339995d7217379659a9c676c644ec84e663dabae2d7d2cbc283e360004"), looks := false }, kinds := [], alts := [], laidByText := true, laidKinds := [.data, .data], laidTests := true, laidLooks := .later }
def FoldLiveUptoCardSaid : Prop := Claim7.holds Tryd.pinned (.plain (OpenSpec.upto foldLiveSpec)) foldLiveUptoCard

/-- THE SECOND FORM's CARD OF 'burinlaw17.FoldShapes'. -/
def foldShapesUptoCard : Claim7 := { stood := { row := foldShapesUptoRow, standIns := [], harness := (true, "fa97e6339995d7217379659a9c676c644ec84e663dabae2d7d2cbc283e360004"), looks := false }, kinds := [], alts := [], laidByText := true, laidKinds := [.data, .data], laidTests := true, laidLooks := .later }
def FoldShapesUptoCardSaid : Prop := Claim7.holds Tryd.pinned (.plain (OpenSpec.upto foldShapesSpec)) foldShapesUptoCard

/-- THE SECOND FORM's CARD OF 'burinlaw17.FoldDead'. -/
def foldDeadUptoCard : Claim7 := { stood := { row := foldDeadUptoRow, standIns := [], harness := (true, "fa97e6339995d7217379659a9c676c644ec84e663dabae2d7d2cbc283e360004"), looks := false }, kinds := [], alts := [], laidByText := true, laidKinds := [.data, .data], laidTests := true, laidLooks := .later }
def FoldDeadUptoCardSaid : Prop := Claim7.holds Tryd.pinned (.plain (OpenSpec.upto foldDeadSpec)) foldDeadUptoCard

/-- THE SECOND FORM's CARD OF 'burinlaw17.FoldAgain'. -/
def foldAgainUptoCard : Claim7 := { stood := { row := foldAgainUptoRow, standIns := [], harness := (true, "fa97e6339995d7217379659a9c676c644ec84e663dabae2d7d2cbc283e360004"), looks := false }, kinds := [], alts := [], laidByText := true, laidKinds := [.data, .data], laidTests := true, laidLooks := .later }
def FoldAgainUptoCardSaid : Prop := Claim7.holds Tryd.pinned (.plain (OpenSpec.upto foldAgainSpec)) foldAgainUptoCard

/-- THE SECOND FORM's CARD OF 'burinlaw17.FoldReached'. -/
def foldReachedUptoCard : Claim7 := { stood := { row := foldReachedUptoRow, standIns := [], harness := (true, "fa97e6339995d7217379659a9c676c644ec84e663dabae2d7d2cbc283e360004"), looks := false }, kinds := [], alts := [], laidByText := true, laidKinds := [.data, .data], laidTests := true, laidLooks := .later }
def FoldReachedUptoCardSaid : Prop := Claim7.holds Tryd.pinned (.plain (OpenSpec.upto foldReachedSpec)) foldReachedUptoCard

/-- THE SECOND FORM's CARD OF 'burinlaw17.FoldIdle'. -/
def foldIdleUptoCard : Claim7 := { stood := { row := foldIdleUptoRow, standIns := [], harness := (true, "fa97e6339995d7217379659a9c676c644ec84e663dabae2d7d2cbc283e360004"), looks := false }, kinds := [], alts := [], laidByText := true, laidKinds := [.data, .data], laidTests := true, laidLooks := .later }
def FoldIdleUptoCardSaid : Prop := Claim7.holds Tryd.pinned (.plain (OpenSpec.upto foldIdleSpec)) foldIdleUptoCard
end Rows
end Go.Proofs.YtgpgppjfjeiceaaDoor
