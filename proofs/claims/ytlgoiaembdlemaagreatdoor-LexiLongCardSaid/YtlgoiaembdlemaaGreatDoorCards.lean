/-
  DERIVED. GIVEN WITH THE SEED: THE CARDS: each row of YtlgoiaembdlemaaGreatDoorRows.lean that lists a variable, with what it lists TIED to the program's text (the seventh form; the later family's looks); each row that meets fmt, with fmt's text TOLD by the authors' own Lean function (tested against real Go, not proved from fmt's source: count such statements apart). THE CARD IS WHAT COUNTS. Prove the row's statement (the work); the ties are given (YtlgoiaembdlemaaGreatDoorTie.lean); close each card by the builder's one call (the guide's Derived/Test/ToyasCard.lean, 'card_holds'). Laid BY PROGRAM, IN A SANDBOX (cutbox-door.mjs). By AI agents, Wed Nov 11 2026. No macro, syntax, notation, axiom, sorry.
-/
import Derived.Test.YtlgoiaembdlemaaGreatDoorRows
import GoSem.ClaimSeven
namespace Go.Proofs.YtlgoiaembdlemaaGreatDoor
namespace Rows

/-- THE TIED CARD OF 'jigsawlaw06.ModelChecks'. -/
def modelChecksCard : Claim7 := { stood := { row := modelChecksRow, standIns := [], harness := (true, "cb5e8e4fb6f76fcecce959adce0815f459b36c06e8674393564509c78d966a14"), looks := false }, kinds := [], alts := [], laidByText := true, laidKinds := [.data], laidTests := true, laidLooks := .later }
def ModelChecksCardSaid : Prop := Claim7.holds Tryz.pinned (.plain (OpenSpec.ofChange modelChecksSpec)) modelChecksCard

/-- THE TIED CARD OF 'jigsawlaw18.CumulFilters'. -/
def cumulFiltersCard : Claim7 := { stood := { row := cumulFiltersRow, standIns := [], harness := (true, "cb5e8e4fb6f76fcecce959adce0815f459b36c06e8674393564509c78d966a14"), looks := false }, kinds := [], alts := [], laidByText := true, laidKinds := [.data], laidTests := true, laidLooks := .later }
def CumulFiltersCardSaid : Prop := Claim7.holds Tryz.pinned (.plain (OpenSpec.ofChange cumulFiltersSpec)) cumulFiltersCard

/-- THE TIED CARD OF 'jigsawlaw18.CumulRefuses'. -/
def cumulRefusesCard : Claim7 := { stood := { row := cumulRefusesRow, standIns := [], harness := (true, "cb5e8e4fb6f76fcecce959adce0815f459b36c06e8674393564509c78d966a14"), looks := false }, kinds := [], alts := [], laidByText := true, laidKinds := [.data], laidTests := true, laidLooks := .later }
def CumulRefusesCardSaid : Prop := Claim7.holds Tryz.pinned (.plain (OpenSpec.ofChange cumulRefusesSpec)) cumulRefusesCard

/-- THE TIED CARD OF 'jigsawlaw18.CumulFixed'. -/
def cumulFixedCard : Claim7 := { stood := { row := cumulFixedRow, standIns := [], harness := (true, "cb5e8e4fb6f76fcecce959adce0815f459b36c06e8674393564509c78d966a14"), looks := false }, kinds := [], alts := [], laidByText := true, laidKinds := [.data], laidTests := true, laidLooks := .later }
def CumulFixedCardSaid : Prop := Claim7.holds Tryz.pinned (.plain (OpenSpec.ofChange cumulFixedSpec)) cumulFixedCard

/-- THE TIED CARD OF 'jigsawlaw18.CumulKeeps'. -/
def cumulKeepsCard : Claim7 := { stood := { row := cumulKeepsRow, standIns := [], harness := (true, "cb5e8e4fb6f76fcecce959adce0815f459b36c06e8674393564509c78d966a14"), looks := false }, kinds := [], alts := [], laidByText := true, laidKinds := [.data], laidTests := true, laidLooks := .later }
def CumulKeepsCardSaid : Prop := Claim7.holds Tryz.pinned (.plain (OpenSpec.ofChange cumulKeepsSpec)) cumulKeepsCard

/-- THE TIED CARD OF 'jigsawlaw06.ModelEqual'. -/
def modelEqualCard : Claim7 := { stood := { row := modelEqualRow, standIns := [], harness := (true, "cb5e8e4fb6f76fcecce959adce0815f459b36c06e8674393564509c78d966a14"), looks := false }, kinds := [], alts := [], laidByText := true, laidKinds := [.data], laidTests := true, laidLooks := .later }
def ModelEqualCardSaid : Prop := Claim7.holds Tryz.pinned (.plain (OpenSpec.ofChange modelEqualSpec)) modelEqualCard

/-- THE TIED CARD OF 'jigsawlaw18.CumulWide'. -/
def cumulWideCard : Claim7 := { stood := { row := cumulWideRow, standIns := [], harness := (true, "cb5e8e4fb6f76fcecce959adce0815f459b36c06e8674393564509c78d966a14"), looks := false }, kinds := [], alts := [], laidByText := true, laidKinds := [.data], laidTests := true, laidLooks := .later }
def CumulWideCardSaid : Prop := Claim7.holds Tryz.pinned (.plain (OpenSpec.ofChange cumulWideSpec)) cumulWideCard

/-- THE TIED CARD OF 'jigsawlaw21.LexiFilters'. -/
def lexiFiltersCard : Claim7 := { stood := { row := lexiFiltersRow, standIns := [], harness := (true, "cb5e8e4fb6f76fcecce959adce0815f459b36c06e8674393564509c78d966a14"), looks := false }, kinds := [], alts := [], laidByText := true, laidKinds := [.data], laidTests := true, laidLooks := .later }
def LexiFiltersCardSaid : Prop := Claim7.holds Tryz.pinned (.plain (OpenSpec.ofChange lexiFiltersSpec)) lexiFiltersCard

/-- THE TIED CARD OF 'jigsawlaw21.LexiRefuses'. -/
def lexiRefusesCard : Claim7 := { stood := { row := lexiRefusesRow, standIns := [], harness := (true, "cb5e8e4fb6f76fcecce959adce0815f459b36c06e8674393564509c78d966a14"), looks := false }, kinds := [], alts := [], laidByText := true, laidKinds := [.data], laidTests := true, laidLooks := .later }
def LexiRefusesCardSaid : Prop := Claim7.holds Tryz.pinned (.plain (OpenSpec.ofChange lexiRefusesSpec)) lexiRefusesCard

/-- THE TIED CARD OF 'jigsawlaw21.LexiFixed'. -/
def lexiFixedCard : Claim7 := { stood := { row := lexiFixedRow, standIns := [], harness := (true, "cb5e8e4fb6f76fcecce959adce0815f459b36c06e8674393564509c78d966a14"), looks := false }, kinds := [], alts := [], laidByText := true, laidKinds := [.data], laidTests := true, laidLooks := .later }
def LexiFixedCardSaid : Prop := Claim7.holds Tryz.pinned (.plain (OpenSpec.ofChange lexiFixedSpec)) lexiFixedCard

/-- THE TIED CARD OF 'jigsawlaw21.LexiKeeps'. -/
def lexiKeepsCard : Claim7 := { stood := { row := lexiKeepsRow, standIns := [], harness := (true, "cb5e8e4fb6f76fcecce959adce0815f459b36c06e8674393564509c78d966a14"), looks := false }, kinds := [], alts := [], laidByText := true, laidKinds := [.data], laidTests := true, laidLooks := .later }
def LexiKeepsCardSaid : Prop := Claim7.holds Tryz.pinned (.plain (OpenSpec.ofChange lexiKeepsSpec)) lexiKeepsCard

/-- THE TIED CARD OF 'jigsawlaw21.LexiLong'. -/
def lexiLongCard : Claim7 := { stood := { row := lexiLongRow, standIns := [], harness := (true, "cb5e8e4fb6f76fcecce959adce0815f459b36c06e8674393564509c78d966a14"), looks := false }, kinds := [], alts := [], laidByText := true, laidKinds := [.data], laidTests := true, laidLooks := .later }
def LexiLongCardSaid : Prop := Claim7.holds Tryz.pinned (.plain (OpenSpec.ofChange lexiLongSpec)) lexiLongCard

/-- THE TIED CARD OF 'jigsawlaw10.LinFilters'. -/
def linFiltersCard : Claim7 := { stood := { row := linFiltersRow, standIns := [], harness := (true, "cb5e8e4fb6f76fcecce959adce0815f459b36c06e8674393564509c78d966a14"), looks := false }, kinds := [], alts := [], laidByText := true, laidKinds := [.data], laidTests := true, laidLooks := .later }
def LinFiltersCardSaid : Prop := Claim7.holds Tryz.pinned (.plain (OpenSpec.ofChange linFiltersSpec)) linFiltersCard

/-- THE TIED CARD OF 'jigsawlaw10.LinRefuses'. -/
def linRefusesCard : Claim7 := { stood := { row := linRefusesRow, standIns := [], harness := (true, "cb5e8e4fb6f76fcecce959adce0815f459b36c06e8674393564509c78d966a14"), looks := false }, kinds := [], alts := [], laidByText := true, laidKinds := [.data], laidTests := true, laidLooks := .later }
def LinRefusesCardSaid : Prop := Claim7.holds Tryz.pinned (.plain (OpenSpec.ofChange linRefusesSpec)) linRefusesCard

/-- THE TIED CARD OF 'jigsawlaw10.LinFixed'. -/
def linFixedCard : Claim7 := { stood := { row := linFixedRow, standIns := [], harness := (true, "cb5e8e4fb6f76fcecce959adce0815f459b36c06e8674393564509c78d966a14"), looks := false }, kinds := [], alts := [], laidByText := true, laidKinds := [.data], laidTests := true, laidLooks := .later }
def LinFixedCardSaid : Prop := Claim7.holds Tryz.pinned (.plain (OpenSpec.ofChange linFixedSpec)) linFixedCard

/-- THE TIED CARD OF 'jigsawlaw10.LinKeeps'. -/
def linKeepsCard : Claim7 := { stood := { row := linKeepsRow, standIns := [], harness := (true, "cb5e8e4fb6f76fcecce959adce0815f459b36c06e8674393564509c78d966a14"), looks := false }, kinds := [], alts := [], laidByText := true, laidKinds := [.data], laidTests := true, laidLooks := .later }
def LinKeepsCardSaid : Prop := Claim7.holds Tryz.pinned (.plain (OpenSpec.ofChange linKeepsSpec)) linKeepsCard

/-- THE TIED CARD OF 'jigsawlaw10.LinWide'. -/
def linWideCard : Claim7 := { stood := { row := linWideRow, standIns := [], harness := (true, "cb5e8e4fb6f76fcecce959adce0815f459b36c06e8674393564509c78d966a14"), looks := false }, kinds := [], alts := [], laidByText := true, laidKinds := [.data], laidTests := true, laidLooks := .later }
def LinWideCardSaid : Prop := Claim7.holds Tryz.pinned (.plain (OpenSpec.ofChange linWideSpec)) linWideCard

/-- THE TIED CARD OF 'jigsawlaw09.GroundSolves'. -/
def groundSolvesCard : Claim7 := { stood := { row := groundSolvesRow, standIns := [], harness := (true, "cb5e8e4fb6f76fcecce959adce0815f459b36c06e8674393564509c78d966a14"), looks := false }, kinds := [], alts := [], laidByText := true, laidKinds := [.data], laidTests := true, laidLooks := .later }
def GroundSolvesCardSaid : Prop := Claim7.holds Tryz.pinned (.plain (OpenSpec.ofChange groundSolvesSpec)) groundSolvesCard

/-- THE SECOND FORM's CARD OF 'jigsawlaw06.ModelChecks'. -/
def modelChecksUptoCard : Claim7 := { stood := { row := modelChecksUptoRow, standIns := [], harness := (true, "cb5e8e4fb6f76fcecce959adce0815f459b36c06e8674393564509c78d966a14"), looks := false }, kinds := [], alts := [], laidByText := true, laidKinds := [.data], laidTests := true, laidLooks := .later }
def ModelChecksUptoCardSaid : Prop := Claim7.holds Tryz.pinned (.plain (OpenSpec.upto modelChecksSpec)) modelChecksUptoCard

/-- THE SECOND FORM's CARD OF 'jigsawlaw18.CumulFilters'. -/
def cumulFiltersUptoCard : Claim7 := { stood := { row := cumulFiltersUptoRow, standIns := [], harness := (true, "cb5e8e4fb6f76fcecce959adce0815f459b36c06e8674393564509c78d966a14"), looks := false }, kinds := [], alts := [], laidByText := true, laidKinds := [.data], laidTests := true, laidLooks := .later }
def CumulFiltersUptoCardSaid : Prop := Claim7.holds Tryz.pinned (.plain (OpenSpec.upto cumulFiltersSpec)) cumulFiltersUptoCard

/-- THE SECOND FORM's CARD OF 'jigsawlaw18.CumulRefuses'. -/
def cumulRefusesUptoCard : Claim7 := { stood := { row := cumulRefusesUptoRow, standIns := [], harness := (true, "cb5e8e4fb6f76fcecce959adce0815f459b36c06e8674393564509c78d966a14"), looks := false }, kinds := [], alts := [], laidByText := true, laidKinds := [.data], laidTests := true, laidLooks := .later }
def CumulRefusesUptoCardSaid : Prop := Claim7.holds Tryz.pinned (.plain (OpenSpec.upto cumulRefusesSpec)) cumulRefusesUptoCard

/-- THE SECOND FORM's CARD OF 'jigsawlaw18.CumulFixed'. -/
def cumulFixedUptoCard : Claim7 := { stood := { row := cumulFixedUptoRow, standIns := [], harness := (true, "cb5e8e4fb6f76fcecce959adce0815f459b36c06e8674393564509c78d966a14"), looks := false }, kinds := [], alts := [], laidByText := true, laidKinds := [.data], laidTests := true, laidLooks := .later }
def CumulFixedUptoCardSaid : Prop := Claim7.holds Tryz.pinned (.plain (OpenSpec.upto cumulFixedSpec)) cumulFixedUptoCard

/-- THE SECOND FORM's CARD OF 'jigsawlaw18.CumulKeeps'. -/
def cumulKeepsUptoCard : Claim7 := { stood := { row := cumulKeepsUptoRow, standIns := [], harness := (true, "cb5e8e4fb6f76fcecce959adce0815f459b36c06e8674393564509c78d966a14"), looks := false }, kinds := [], alts := [], laidByText := true, laidKinds := [.data], laidTests := true, laidLooks := .later }
def CumulKeepsUptoCardSaid : Prop := Claim7.holds Tryz.pinned (.plain (OpenSpec.upto cumulKeepsSpec)) cumulKeepsUptoCard

/-- THE SECOND FORM's CARD OF 'jigsawlaw06.ModelEqual'. -/
def modelEqualUptoCard : Claim7 := { stood := { row := modelEqualUptoRow, standIns := [], harness := (true, "cb5e8e4fb6f76fcecce959adce0815f459b36c06e8674393564509c78d966a14"), looks := false }, kinds := [], alts := [], laidByText := true, laidKinds := [.data], laidTests := true, laidLooks := .later }
def ModelEqualUptoCardSaid : Prop := Claim7.holds Tryz.pinned (.plain (OpenSpec.upto modelEqualSpec)) modelEqualUptoCard

/-- THE SECOND FORM's CARD OF 'jigsawlaw18.CumulWide'. -/
def cumulWideUptoCard : Claim7 := { stood := { row := cumulWideUptoRow, standIns := [], harness := (true, "cb5e8e4fb6f76fcecce959adce0815f459b36c06e8674393564509c78d966a14"), looks := false }, kinds := [], alts := [], laidByText := true, laidKinds := [.data], laidTests := true, laidLooks := .later }
def CumulWideUptoCardSaid : Prop := Claim7.holds Tryz.pinned (.plain (OpenSpec.upto cumulWideSpec)) cumulWideUptoCard

/-- THE SECOND FORM's CARD OF 'jigsawlaw21.LexiFilters'. -/
def lexiFiltersUptoCard : Claim7 := { stood := { row := lexiFiltersUptoRow, standIns := [], harness := (true, "cb5e8e4fb6f76fcecce959adce0815f459b36c06e8674393564509c78d966a14"), looks := false }, kinds := [], alts := [], laidByText := true, laidKinds := [.data], laidTests := true, laidLooks := .later }
def LexiFiltersUptoCardSaid : Prop := Claim7.holds Tryz.pinned (.plain (OpenSpec.upto lexiFiltersSpec)) lexiFiltersUptoCard

/-- THE SECOND FORM's CARD OF 'jigsawlaw21.LexiRefuses'. -/
def lexiRefusesUptoCard : Claim7 := { stood := { row := lexiRefusesUptoRow, standIns := [], harness := (true, "cb5e8e4fb6f76fcecce959adce0815f459b36c06e8674393564509c78d966a14"), looks := false }, kinds := [], alts := [], laidByText := true, laidKinds := [.data], laidTests := true, laidLooks := .later }
def LexiRefusesUptoCardSaid : Prop := Claim7.holds Tryz.pinned (.plain (OpenSpec.upto lexiRefusesSpec)) lexiRefusesUptoCard

/-- THE SECOND FORM's CARD OF 'jigsawlaw21.LexiFixed'. -/
def lexiFixedUptoCard : Claim7 := { stood := { row := lexiFixedUptoRow, standIns := [], harness := (true, "cb5e8e4fb6f76fcecce959adce0815f459b36c06e8674393564509c78d966a14"), looks := false }, kinds := [], alts := [], laidByText := true, laidKinds := [.data], laidTests := true, laidLooks := .later }
def LexiFixedUptoCardSaid : Prop := Claim7.holds Tryz.pinned (.plain (OpenSpec.upto lexiFixedSpec)) lexiFixedUptoCard

/-- THE SECOND FORM's CARD OF 'jigsawlaw21.LexiKeeps'. -/
def lexiKeepsUptoCard : Claim7 := { stood := { row := lexiKeepsUptoRow, standIns := [], harness := (true, "cb5e8e4fb6f76fcecce959adce0815f459b36c06e8674393564509c78d966a14"), looks := false }, kinds := [], alts := [], laidByText := true, laidKinds := [.data], laidTests := true, laidLooks := .later }
def LexiKeepsUptoCardSaid : Prop := Claim7.holds Tryz.pinned (.plain (OpenSpec.upto lexiKeepsSpec)) lexiKeepsUptoCard

/-- THE SECOND FORM's CARD OF 'jigsawlaw21.LexiLong'. -/
def lexiLongUptoCard : Claim7 := { stood := { row := lexiLongUptoRow, standIns := [], harness := (true, "cb5e8e4fb6f76fcecce959adce0815f459b36c06e8674393564509c78d966a14"), looks := false }, kinds := [], alts := [], laidByText := true, laidKinds := [.data], laidTests := true, laidLooks := .later }
def LexiLongUptoCardSaid : Prop := Claim7.holds Tryz.pinned (.plain (OpenSpec.upto lexiLongSpec)) lexiLongUptoCard

/-- THE SECOND FORM's CARD OF 'jigsawlaw10.LinFilters'. -/
def linFiltersUptoCard : Claim7 := { stood := { row := linFiltersUptoRow, standIns := [], harness := (true, "cb5e8e4fb6f76fcecce959adce0815f459b36c06e8674393564509c78d966a14"), looks := false }, kinds := [], alts := [], laidByText := true, laidKinds := [.data], laidTests := true, laidLooks := .later }
def LinFiltersUptoCardSaid : Prop := Claim7.holds Tryz.pinned (.plain (OpenSpec.upto linFiltersSpec)) linFiltersUptoCard

/-- THE SECOND FORM's CARD OF 'jigsawlaw10.LinRefuses'. -/
def linRefusesUptoCard : Claim7 := { stood := { row := linRefusesUptoRow, standIns := [], harness := (true, "cb5e8e4fb6f76fcecce959adce0815f459b36c06e8674393564509c78d966a14"), looks := false }, kinds := [], alts := [], laidByText := true, laidKinds := [.data], laidTests := true, laidLooks := .later }
def LinRefusesUptoCardSaid : Prop := Claim7.holds Tryz.pinned (.plain (OpenSpec.upto linRefusesSpec)) linRefusesUptoCard

/-- THE SECOND FORM's CARD OF 'jigsawlaw10.LinFixed'. -/
def linFixedUptoCard : Claim7 := { stood := { row := linFixedUptoRow, standIns := [], harness := (true, "cb5e8e4fb6f76fcecce959adce0815f459b36c06e8674393564509c78d966a14"), looks := false }, kinds := [], alts := [], laidByText := true, laidKinds := [.data], laidTests := true, laidLooks := .later }
def LinFixedUptoCardSaid : Prop := Claim7.holds Tryz.pinned (.plain (OpenSpec.upto linFixedSpec)) linFixedUptoCard

/-- THE SECOND FORM's CARD OF 'jigsawlaw10.LinKeeps'. -/
def linKeepsUptoCard : Claim7 := { stood := { row := linKeepsUptoRow, standIns := [], harness := (true, "cb5e8e4fb6f76fcecce959adce0815f459b36c06e8674393564509c78d966a14"), looks := false }, kinds := [], alts := [], laidByText := true, laidKinds := [.data], laidTests := true, laidLooks := .later }
def LinKeepsUptoCardSaid : Prop := Claim7.holds Tryz.pinned (.plain (OpenSpec.upto linKeepsSpec)) linKeepsUptoCard

/-- THE SECOND FORM's CARD OF 'jigsawlaw10.LinWide'. -/
def linWideUptoCard : Claim7 := { stood := { row := linWideUptoRow, standIns := [], harness := (true, "cb5e8e4fb6f76fcecce959adce0815f459b36c06e8674393564509c78d966a14"), looks := false }, kinds := [], alts := [], laidByText := true, laidKinds := [.data], laidTests := true, laidLooks := .later }
def LinWideUptoCardSaid : Prop := Claim7.holds Tryz.pinned (.plain (OpenSpec.upto linWideSpec)) linWideUptoCard

/-- THE SECOND FORM's CARD OF 'jigsawlaw09.GroundSolves'. -/
def groundSolvesUptoCard : Claim7 := { stood := { row := groundSolvesUptoRow, standIns := [], harness := (true, "cb5e8e4fb6f76fcecce959adce0815f459b36c06e8674393564509c78d966a14"), looks := false }, kinds := [], alts := [], laidByText := true, laidKinds := [.data], laidTests := true, laidLooks := .later }
def GroundSolvesUptoCardSaid : Prop := Claim7.holds Tryz.pinned (.plain (OpenSpec.upto groundSolvesSpec)) groundSolvesUptoCard
end Rows
end Go.Proofs.YtlgoiaembdlemaaGreatDoor
