/-
  DERIVED. GIVEN WITH THE SEED: THE CARDS: each row of YtkhoaaoddpjnpaaDoorRows.lean that lists a variable, with what it lists TIED to the program's text (the seventh form; the later family's looks); each row that meets fmt, with fmt's text TOLD by the authors' own Lean function (tested against real Go, not proved from fmt's source: count such statements apart). THE CARD IS WHAT COUNTS. Prove the row's statement (the work); the ties are given (YtkhoaaoddpjnpaaDoorTie.lean); close each card by the builder's one call (the guide's Derived/Test/ToyasCard.lean, 'card_holds'). Laid BY PROGRAM, IN A SANDBOX (cutbox-door.mjs). By AI agents, Wed Nov 11 2026. No macro, syntax, notation, axiom, sorry.
-/
import Derived.Test.YtkhoaaoddpjnpaaDoorRows
import GoSem.ClaimSeven
namespace Go.Proofs.YtkhoaaoddpjnpaaDoor
namespace Rows

/-- THE TIED CARD OF 'escritoirelaw03.GaugeBins'. -/
def gaugeBinsCard : Claim7 := { stood := { row := gaugeBinsRow, standIns := [], harness := (true, "03eb97a0c233b578deb762a4fa4c89dbe13d88cd8f7326d6a0cb9b41c72670b6"), looks := false }, kinds := [], alts := [], laidByText := true, laidKinds := [.data, .data, .data, .data, .pinned, .pinned], laidTests := true, laidLooks := .later }
def GaugeBinsCardSaid : Prop := Claim7.holds Tryd.pinned (.plain (OpenSpec.ofChange gaugeBinsSpec)) gaugeBinsCard

/-- THE TIED CARD OF 'escritoirelaw03.GaugeSums'. -/
def gaugeSumsCard : Claim7 := { stood := { row := gaugeSumsRow, standIns := [], harness := (true, "03eb97a0c233b578deb762a4fa4c89dbe13d88cd8f7326d6a0cb9b41c72670b6"), looks := false }, kinds := [], alts := [], laidByText := true, laidKinds := [.data, .data, .data, .data, .pinned, .pinned], laidTests := true, laidLooks := .later }
def GaugeSumsCardSaid : Prop := Claim7.holds Tryd.pinned (.plain (OpenSpec.ofChange gaugeSumsSpec)) gaugeSumsCard

/-- THE TIED CARD OF 'escritoirelaw19.TallyOf'. -/
def tallyOfCard : Claim7 := { stood := { row := tallyOfRow, standIns := [], harness := (true, "03eb97a0c233b578deb762a4fa4c89dbe13d88cd8f7326d6a0cb9b41c72670b6"), looks := false }, kinds := [], alts := [], laidByText := true, laidKinds := [.data, .data, .data, .data, .pinned, .pinned], laidTests := true, laidLooks := .later }
def TallyOfCardSaid : Prop := Claim7.holds Tryd.pinned (.plain (OpenSpec.ofChange tallyOfSpec)) tallyOfCard

/-- THE TIED CARD OF 'escritoirelaw19.TallyWorst'. -/
def tallyWorstCard : Claim7 := { stood := { row := tallyWorstRow, standIns := [], harness := (true, "03eb97a0c233b578deb762a4fa4c89dbe13d88cd8f7326d6a0cb9b41c72670b6"), looks := false }, kinds := [], alts := [], laidByText := true, laidKinds := [.data, .data, .data, .data, .pinned, .pinned], laidTests := true, laidLooks := .later }
def TallyWorstCardSaid : Prop := Claim7.holds Tryd.pinned (.plain (OpenSpec.ofChange tallyWorstSpec)) tallyWorstCard

/-- THE TIED CARD OF 'escritoirelaw03.GaugeSorted'. -/
def gaugeSortedCard : Claim7 := { stood := { row := gaugeSortedRow, standIns := [], harness := (true, "03eb97a0c233b578deb762a4fa4c89dbe13d88cd8f7326d6a0cb9b41c72670b6"), looks := false }, kinds := [], alts := [], laidByText := true, laidKinds := [.data, .data, .data, .data, .pinned, .pinned], laidTests := true, laidLooks := .later }
def GaugeSortedCardSaid : Prop := Claim7.holds Tryd.pinned (.plain (OpenSpec.ofChange gaugeSortedSpec)) gaugeSortedCard

/-- THE TIED CARD OF 'escritoirelaw03.GaugeOrder'. -/
def gaugeOrderCard : Claim7 := { stood := { row := gaugeOrderRow, standIns := [], harness := (true, "03eb97a0c233b578deb762a4fa4c89dbe13d88cd8f7326d6a0cb9b41c72670b6"), looks := false }, kinds := [], alts := [], laidByText := true, laidKinds := [.data, .data, .data, .data, .pinned, .pinned], laidTests := true, laidLooks := .later }
def GaugeOrderCardSaid : Prop := Claim7.holds Tryd.pinned (.plain (OpenSpec.ofChange gaugeOrderSpec)) gaugeOrderCard

/-- THE TIED CARD OF 'escritoirelaw03.GaugeRanks'. -/
def gaugeRanksCard : Claim7 := { stood := { row := gaugeRanksRow, standIns := [], harness := (true, "03eb97a0c233b578deb762a4fa4c89dbe13d88cd8f7326d6a0cb9b41c72670b6"), looks := false }, kinds := [], alts := [], laidByText := true, laidKinds := [.data, .data, .data, .data, .pinned, .pinned], laidTests := true, laidLooks := .later }
def GaugeRanksCardSaid : Prop := Claim7.holds Tryd.pinned (.plain (OpenSpec.ofChange gaugeRanksSpec)) gaugeRanksCard

/-- THE SECOND FORM's CARD OF 'escritoirelaw03.GaugeBins'. -/
def gaugeBinsUptoCard : Claim7 := { stood := { row := gaugeBinsUptoRow, standIns := [], harness := (true, "03eb97a0c233b578deb762a4fa4c89dbe13d88cd8f7326d6a0cb9b41c72670b6"), looks := false }, kinds := [], alts := [], laidByText := true, laidKinds := [.data, .data, .data, .data, .pinned, .pinned], laidTests := true, laidLooks := .later }
def GaugeBinsUptoCardSaid : Prop := Claim7.holds Tryd.pinned (.plain (OpenSpec.upto gaugeBinsSpec)) gaugeBinsUptoCard

/-- THE SECOND FORM's CARD OF 'escritoirelaw03.GaugeSums'. -/
def gaugeSumsUptoCard : Claim7 := { stood := { row := gaugeSumsUptoRow, standIns := [], harness := (true, "03eb97a0c233b578deb762a4fa4c89dbe13d88cd8f7326d6a0cb9b41c72670b6"), looks := false }, kinds := [], alts := [], laidByText := true, laidKinds := [.data, .data, .data, .data, .pinned, .pinned], laidTests := true, laidLooks := .later }
def GaugeSumsUptoCardSaid : Prop := Claim7.holds Tryd.pinned (.plain (OpenSpec.upto gaugeSumsSpec)) gaugeSumsUptoCard

/-- THE SECOND FORM's CARD OF 'escritoirelaw19.TallyOf'. -/
def tallyOfUptoCard : Claim7 := { stood := { row := tallyOfUptoRow, standIns := [], harness := (true, "03eb97a0c233b578deb762a4fa4c89dbe13d88cd8f7326d6a0cb9b41c72670b6"), looks := false }, kinds := [], alts := [], laidByText := true, laidKinds := [.data, .data, .data, .data, .pinned, .pinned], laidTests := true, laidLooks := .later }
def TallyOfUptoCardSaid : Prop := Claim7.holds Tryd.pinned (.plain (OpenSpec.upto tallyOfSpec)) tallyOfUptoCard

/-- THE SECOND FORM's CARD OF 'escritoirelaw19.TallyWorst'. -/
def tallyWorstUptoCard : Claim7 := { stood := { row := tallyWorstUptoRow, standIns := [], harness := (true, "03eb97a0c233b578deb762a4fa4c89dbe13d88cd8f7326d6a0cb9b41c72670b6"), looks := false }, kinds := [], alts := [], laidByText := true, laidKinds := [.data, .data, .data, .data, .pinned, .pinned], laidTests := true, laidLooks := .later }
def TallyWorstUptoCardSaid : Prop := Claim7.holds Tryd.pinned (.plain (OpenSpec.upto tallyWorstSpec)) tallyWorstUptoCard

/-- THE SECOND FORM's CARD OF 'escritoirelaw03.GaugeSorted'. -/
def gaugeSortedUptoCard : Claim7 := { stood := { row := gaugeSortedUptoRow, standIns := [], harness := (true, "03eb97a0c233b578deb762a4fa4c89dbe13d88cd8f7326d6a0cb9b41c72670b6"), looks := false }, kinds := [], alts := [], laidByText := true, laidKinds := [.data, .data, .data, .data, .pinned, .pinned], laidTests := true, laidLooks := .later }
def GaugeSortedUptoCardSaid : Prop := Claim7.holds Tryd.pinned (.plain (OpenSpec.upto gaugeSortedSpec)) gaugeSortedUptoCard

/-- THE SECOND FORM's CARD OF 'escritoirelaw03.GaugeOrder'. -/
def gaugeOrderUptoCard : Claim7 := { stood := { row := gaugeOrderUptoRow, standIns := [], harness := (true, "03eb97a0c233b578deb762a4fa4c89dbe13d88cd8f7326d6a0cb9b41c72670b6"), looks := false }, kinds := [], alts := [], laidByText := true, laidKinds := [.data, .data, .data, .data, .pinned, .pinned], laidTests := true, laidLooks := .later }
def GaugeOrderUptoCardSaid : Prop := Claim7.holds Tryd.pinned (.plain (OpenSpec.upto gaugeOrderSpec)) gaugeOrderUptoCard

/-- THE SECOND FORM's CARD OF 'escritoirelaw03.GaugeRanks'. -/
def gaugeRanksUptoCard : Claim7 := { stood := { row := gaugeRanksUptoRow, standIns := [], harness := (true, "03eb97a0c233b578deb762a4fa4c89dbe13d88cd8f7326d6a0cb9b41c72670b6"), looks := false }, kinds := [], alts := [], laidByText := true, laidKinds := [.data, .data, .data, .data, .pinned, .pinned], laidTests := true, laidLooks := .later }
def GaugeRanksUptoCardSaid : Prop := Claim7.holds Tryd.pinned (.plain (OpenSpec.upto gaugeRanksSpec)) gaugeRanksUptoCard
end Rows
end Go.Proofs.YtkhoaaoddpjnpaaDoor
