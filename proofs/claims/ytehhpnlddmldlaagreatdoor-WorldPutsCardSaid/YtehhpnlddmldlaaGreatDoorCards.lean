/-
  DERIVED. GIVEN WITH THE SEED: THE CARDS: each row of YtehhpnlddmldlaaGreatDoorRows.lean that lists a variable, with what it lists TIED to the program's text (the seventh form; the later family's looks); each row that meets fmt, with fmt's text TOLD by the authors' own Lean function (tested against real Go, not proved from fmt's source: count such statements apart). THE CARD IS WHAT COUNTS. Prove the row's statement (the work); the ties are given (YtehhpnlddmldlaaGreatDoorTie.lean); close each card by the builder's one call (the guide's Derived/Test/ToyasCard.lean, 'card_holds'). Laid BY PROGRAM, IN A SANDBOX (cutbox-door.mjs). By AI agents, Wed Nov 11 2026. No macro, syntax, notation, axiom, sorry.
-/
import Derived.Test.YtehhpnlddmldlaaGreatDoorRows
import GoSem.ClaimSeven
namespace Go.Proofs.YtehhpnlddmldlaaGreatDoor
namespace Rows

/-- THE TIED CARD OF 'semaphorelaw26.WorldNobody'. -/
def worldNobodyCard : Claim7 := { stood := { row := worldNobodyRow, standIns := [], harness := (true, "256bc1a6541f2891f9ab3686c22f7cb3bf7ea7fc41c5c2354fc47b4ff57914d6"), looks := true }, kinds := [], alts := [], laidByText := true, laidKinds := [.data, .data, .data], laidTests := true, laidLooks := .later }
def WorldNobodyCardSaid : Prop := Claim7.holds Tryz.pinned (.plain (OpenSpec.ofChange worldNobodySpec)) worldNobodyCard

/-- THE TIED CARD OF 'semaphorelaw26.WorldNews'. -/
def worldNewsCard : Claim7 := { stood := { row := worldNewsRow, standIns := [], harness := (true, "256bc1a6541f2891f9ab3686c22f7cb3bf7ea7fc41c5c2354fc47b4ff57914d6"), looks := true }, kinds := [], alts := [], laidByText := true, laidKinds := [.data, .data, .data], laidTests := true, laidLooks := .later }
def WorldNewsCardSaid : Prop := Claim7.holds Tryz.pinned (.plain (OpenSpec.ofChange worldNewsSpec)) worldNewsCard

/-- THE TIED CARD OF 'semaphorelaw26.WorldDown'. -/
def worldDownCard : Claim7 := { stood := { row := worldDownRow, standIns := [], harness := (true, "256bc1a6541f2891f9ab3686c22f7cb3bf7ea7fc41c5c2354fc47b4ff57914d6"), looks := true }, kinds := [], alts := [], laidByText := true, laidKinds := [.data, .data, .data], laidTests := true, laidLooks := .later }
def WorldDownCardSaid : Prop := Claim7.holds Tryz.pinned (.plain (OpenSpec.ofChange worldDownSpec)) worldDownCard

/-- THE TIED CARD OF 'semaphorelaw26.WorldWrong'. -/
def worldWrongCard : Claim7 := { stood := { row := worldWrongRow, standIns := [], harness := (true, "256bc1a6541f2891f9ab3686c22f7cb3bf7ea7fc41c5c2354fc47b4ff57914d6"), looks := true }, kinds := [], alts := [], laidByText := true, laidKinds := [.data, .data, .data], laidTests := true, laidLooks := .later }
def WorldWrongCardSaid : Prop := Claim7.holds Tryz.pinned (.plain (OpenSpec.ofChange worldWrongSpec)) worldWrongCard

/-- THE TIED CARD OF 'semaphorelaw26.WorldTwins'. -/
def worldTwinsCard : Claim7 := { stood := { row := worldTwinsRow, standIns := [], harness := (true, "256bc1a6541f2891f9ab3686c22f7cb3bf7ea7fc41c5c2354fc47b4ff57914d6"), looks := true }, kinds := [], alts := [], laidByText := true, laidKinds := [.data, .data, .data], laidTests := true, laidLooks := .later }
def WorldTwinsCardSaid : Prop := Claim7.holds Tryz.pinned (.plain (OpenSpec.ofChange worldTwinsSpec)) worldTwinsCard

/-- THE TIED CARD OF 'semaphorelaw26.WorldTicks'. -/
def worldTicksCard : Claim7 := { stood := { row := worldTicksRow, standIns := [], harness := (true, "256bc1a6541f2891f9ab3686c22f7cb3bf7ea7fc41c5c2354fc47b4ff57914d6"), looks := true }, kinds := [], alts := [], laidByText := true, laidKinds := [.data, .data, .data], laidTests := true, laidLooks := .later }
def WorldTicksCardSaid : Prop := Claim7.holds Tryz.pinned (.plain (OpenSpec.ofChange worldTicksSpec)) worldTicksCard

/-- THE TIED CARD OF 'semaphorelaw26.WorldPuts'. -/
def worldPutsCard : Claim7 := { stood := { row := worldPutsRow, standIns := [], harness := (true, "256bc1a6541f2891f9ab3686c22f7cb3bf7ea7fc41c5c2354fc47b4ff57914d6"), looks := true }, kinds := [], alts := [], laidByText := true, laidKinds := [.data, .data, .data], laidTests := true, laidLooks := .later }
def WorldPutsCardSaid : Prop := Claim7.holds Tryz.pinned (.plain (OpenSpec.ofChange worldPutsSpec)) worldPutsCard

/-- THE SECOND FORM's CARD OF 'semaphorelaw26.WorldNobody'. -/
def worldNobodyUptoCard : Claim7 := { stood := { row := worldNobodyUptoRow, standIns := [], harness := (true, "256bc1a6541f2891f9ab3686c22f7cb3bf7ea7fc41c5c2354fc47b4ff57914d6"), looks := true }, kinds := [], alts := [], laidByText := true, laidKinds := [.data, .data, .data], laidTests := true, laidLooks := .later }
def WorldNobodyUptoCardSaid : Prop := Claim7.holds Tryz.pinned (.plain (OpenSpec.upto worldNobodySpec)) worldNobodyUptoCard

/-- THE SECOND FORM's CARD OF 'semaphorelaw26.WorldNews'. -/
def worldNewsUptoCard : Claim7 := { stood := { row := worldNewsUptoRow, standIns := [], harness := (true, "256bc1a6541f2891f9ab3686c22f7cb3bf7ea7fc41c5c2354fc47b4ff57914d6"), looks := true }, kinds := [], alts := [], laidByText := true, laidKinds := [.data, .data, .data], laidTests := true, laidLooks := .later }
def WorldNewsUptoCardSaid : Prop := Claim7.holds Tryz.pinned (.plain (OpenSpec.upto worldNewsSpec)) worldNewsUptoCard

/-- THE SECOND FORM's CARD OF 'semaphorelaw26.WorldDown'. -/
def worldDownUptoCard : Claim7 := { stood := { row := worldDownUptoRow, standIns := [], harness := (true, "256bc1a6541f2891f9ab3686c22f7cb3bf7ea7fc41c5c2354fc47b4ff57914d6"), looks := true }, kinds := [], alts := [], laidByText := true, laidKinds := [.data, .data, .data], laidTests := true, laidLooks := .later }
def WorldDownUptoCardSaid : Prop := Claim7.holds Tryz.pinned (.plain (OpenSpec.upto worldDownSpec)) worldDownUptoCard

/-- THE SECOND FORM's CARD OF 'semaphorelaw26.WorldWrong'. -/
def worldWrongUptoCard : Claim7 := { stood := { row := worldWrongUptoRow, standIns := [], harness := (true, "256bc1a6541f2891f9ab3686c22f7cb3bf7ea7fc41c5c2354fc47b4ff57914d6"), looks := true }, kinds := [], alts := [], laidByText := true, laidKinds := [.data, .data, .data], laidTests := true, laidLooks := .later }
def WorldWrongUptoCardSaid : Prop := Claim7.holds Tryz.pinned (.plain (OpenSpec.upto worldWrongSpec)) worldWrongUptoCard

/-- THE SECOND FORM's CARD OF 'semaphorelaw26.WorldTwins'. -/
def worldTwinsUptoCard : Claim7 := { stood := { row := worldTwinsUptoRow, standIns := [], harness := (true, "256bc1a6541f2891f9ab3686c22f7cb3bf7ea7fc41c5c2354fc47b4ff57914d6"), looks := true }, kinds := [], alts := [], laidByText := true, laidKinds := [.data, .data, .data], laidTests := true, laidLooks := .later }
def WorldTwinsUptoCardSaid : Prop := Claim7.holds Tryz.pinned (.plain (OpenSpec.upto worldTwinsSpec)) worldTwinsUptoCard

/-- THE SECOND FORM's CARD OF 'semaphorelaw26.WorldTicks'. -/
def worldTicksUptoCard : Claim7 := { stood := { row := worldTicksUptoRow, standIns := [], harness := (true, "256bc1a6541f2891f9ab3686c22f7cb3bf7ea7fc41c5c2354fc47b4ff57914d6"), looks := true }, kinds := [], alts := [], laidByText := true, laidKinds := [.data, .data, .data], laidTests := true, laidLooks := .later }
def WorldTicksUptoCardSaid : Prop := Claim7.holds Tryz.pinned (.plain (OpenSpec.upto worldTicksSpec)) worldTicksUptoCard

/-- THE SECOND FORM's CARD OF 'semaphorelaw26.WorldPuts'. -/
def worldPutsUptoCard : Claim7 := { stood := { row := worldPutsUptoRow, standIns := [], harness := (true, "256bc1a6541f2891f9ab3686c22f7cb3bf7ea7fc41c5c2354fc47b4ff57914d6"), looks := true }, kinds := [], alts := [], laidByText := true, laidKinds := [.data, .data, .data], laidTests := true, laidLooks := .later }
def WorldPutsUptoCardSaid : Prop := Claim7.holds Tryz.pinned (.plain (OpenSpec.upto worldPutsSpec)) worldPutsUptoCard
end Rows
end Go.Proofs.YtehhpnlddmldlaaGreatDoor
