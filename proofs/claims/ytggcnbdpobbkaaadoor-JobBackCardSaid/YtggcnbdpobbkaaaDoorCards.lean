/-
  DERIVED. GIVEN WITH THE SEED: THE CARDS: each row of YtggcnbdpobbkaaaDoorRows.lean that lists a variable, with what it lists TIED to the program's text (the seventh form; the later family's looks); each row that meets fmt, with fmt's text TOLD by the authors' own Lean function (tested against real Go, not proved from fmt's source: count such statements apart). THE CARD IS WHAT COUNTS. Prove the row's statement (the work); the ties are given (YtggcnbdpobbkaaaDoorTie.lean); close each card by the builder's one call (the guide's Derived/Test/ToyasCard.lean, 'card_holds'). Laid BY PROGRAM, IN A SANDBOX (cutbox-door.mjs). By AI agents, Wed Nov 11 2026. No macro, syntax, notation, axiom, sorry.
-/
import Derived.Test.YtggcnbdpobbkaaaDoorRows
import GoSem.ClaimSeven
namespace Go.Proofs.YtggcnbdpobbkaaaDoor
namespace Rows

/-- THE TIED CARD OF 'horologelaw17.JobNames'. -/
def jobNamesCard : Claim7 := { stood := { row := jobNamesRow, standIns := [], harness := (true, "b690354a019311305f4896769b63c241d898697d57cb60152aa1a21dc7412217"), looks := false }, kinds := [], alts := [], laidByText := true, laidKinds := [.data, .data, .data, .data, .pinned], laidTests := true, laidLooks := .later }
def JobNamesCardSaid : Prop := Claim7.holds Tryd.pinned (.plain (OpenSpec.ofChange jobNamesSpec)) jobNamesCard

/-- THE TIED CARD OF 'horologelaw17.JobRows'. -/
def jobRowsCard : Claim7 := { stood := { row := jobRowsRow, standIns := [], harness := (true, "b690354a019311305f4896769b63c241d898697d57cb60152aa1a21dc7412217"), looks := false }, kinds := [], alts := [], laidByText := true, laidKinds := [.data, .data, .data, .data, .pinned], laidTests := true, laidLooks := .later }
def JobRowsCardSaid : Prop := Claim7.holds Tryd.pinned (.plain (OpenSpec.ofChange jobRowsSpec)) jobRowsCard

/-- THE TIED CARD OF 'horologelaw6.CronTexts'. -/
def cronTextsCard : Claim7 := { stood := { row := cronTextsRow, standIns := [], harness := (true, "b690354a019311305f4896769b63c241d898697d57cb60152aa1a21dc7412217"), looks := false }, kinds := [], alts := [], laidByText := true, laidKinds := [.data, .data, .data, .data, .pinned], laidTests := true, laidLooks := .later }
def CronTextsCardSaid : Prop := Claim7.holds Tryd.pinned (.plain (OpenSpec.ofChange cronTextsSpec)) cronTextsCard

/-- THE TIED CARD OF 'horologelaw6.CronNever'. -/
def cronNeverCard : Claim7 := { stood := { row := cronNeverRow, standIns := [], harness := (true, "b690354a019311305f4896769b63c241d898697d57cb60152aa1a21dc7412217"), looks := false }, kinds := [], alts := [], laidByText := true, laidKinds := [.data, .data, .data, .data, .pinned], laidTests := true, laidLooks := .later }
def CronNeverCardSaid : Prop := Claim7.holds Tryd.pinned (.plain (OpenSpec.ofChange cronNeverSpec)) cronNeverCard

/-- THE TIED CARD OF 'horologelaw6.CronBlanks'. -/
def cronBlanksCard : Claim7 := { stood := { row := cronBlanksRow, standIns := [], harness := (true, "b690354a019311305f4896769b63c241d898697d57cb60152aa1a21dc7412217"), looks := false }, kinds := [], alts := [], laidByText := true, laidKinds := [.data, .data, .data, .data, .pinned], laidTests := true, laidLooks := .later }
def CronBlanksCardSaid : Prop := Claim7.holds Tryd.pinned (.plain (OpenSpec.ofChange cronBlanksSpec)) cronBlanksCard

/-- THE TIED CARD OF 'horologelaw6.CronFields'. -/
def cronFieldsCard : Claim7 := { stood := { row := cronFieldsRow, standIns := [], harness := (true, "b690354a019311305f4896769b63c241d898697d57cb60152aa1a21dc7412217"), looks := false }, kinds := [], alts := [], laidByText := true, laidKinds := [.data, .data, .data, .data, .pinned], laidTests := true, laidLooks := .later }
def CronFieldsCardSaid : Prop := Claim7.holds Tryd.pinned (.plain (OpenSpec.ofChange cronFieldsSpec)) cronFieldsCard

/-- THE TIED CARD OF 'horologelaw6.CronDays'. -/
def cronDaysCard : Claim7 := { stood := { row := cronDaysRow, standIns := [], harness := (true, "b690354a019311305f4896769b63c241d898697d57cb60152aa1a21dc7412217"), looks := false }, kinds := [], alts := [], laidByText := true, laidKinds := [.data, .data, .data, .data, .pinned], laidTests := true, laidLooks := .later }
def CronDaysCardSaid : Prop := Claim7.holds Tryd.pinned (.plain (OpenSpec.ofChange cronDaysSpec)) cronDaysCard

/-- THE TIED CARD OF 'horologelaw17.JobBack'. -/
def jobBackCard : Claim7 := { stood := { row := jobBackRow, standIns := [], harness := (true, "b690354a019311305f4896769b63c241d898697d57cb60152aa1a21dc7412217"), looks := false }, kinds := [], alts := [], laidByText := true, laidKinds := [.data, .data, .data, .data, .pinned], laidTests := true, laidLooks := .later }
def JobBackCardSaid : Prop := Claim7.holds Tryd.pinned (.plain (OpenSpec.ofChange jobBackSpec)) jobBackCard

/-- THE TIED CARD OF 'horologelaw17.JobKeys'. -/
def jobKeysCard : Claim7 := { stood := { row := jobKeysRow, standIns := [], harness := (true, "b690354a019311305f4896769b63c241d898697d57cb60152aa1a21dc7412217"), looks := false }, kinds := [], alts := [], laidByText := true, laidKinds := [.data, .data, .data, .data, .pinned], laidTests := true, laidLooks := .later }
def JobKeysCardSaid : Prop := Claim7.holds Tryd.pinned (.plain (OpenSpec.ofChange jobKeysSpec)) jobKeysCard

/-- THE TIED CARD OF 'horologelaw17.JobTexts'. -/
def jobTextsCard : Claim7 := { stood := { row := jobTextsRow, standIns := [], harness := (true, "b690354a019311305f4896769b63c241d898697d57cb60152aa1a21dc7412217"), looks := false }, kinds := [], alts := [], laidByText := true, laidKinds := [.data, .data, .data, .data, .pinned], laidTests := true, laidLooks := .later }
def JobTextsCardSaid : Prop := Claim7.holds Tryd.pinned (.plain (OpenSpec.ofChange jobTextsSpec)) jobTextsCard

/-- THE TIED CARD OF 'horologelaw6.CronSteps'. -/
def cronStepsCard : Claim7 := { stood := { row := cronStepsRow, standIns := [], harness := (true, "b690354a019311305f4896769b63c241d898697d57cb60152aa1a21dc7412217"), looks := false }, kinds := [], alts := [], laidByText := true, laidKinds := [.data, .data, .data, .data, .pinned], laidTests := true, laidLooks := .later }
def CronStepsCardSaid : Prop := Claim7.holds Tryd.pinned (.plain (OpenSpec.ofChange cronStepsSpec)) cronStepsCard

/-- THE TIED CARD OF 'horologelaw6.CronFinds'. -/
def cronFindsCard : Claim7 := { stood := { row := cronFindsRow, standIns := [], harness := (true, "b690354a019311305f4896769b63c241d898697d57cb60152aa1a21dc7412217"), looks := false }, kinds := [], alts := [], laidByText := true, laidKinds := [.data, .data, .data, .data, .pinned], laidTests := true, laidLooks := .later }
def CronFindsCardSaid : Prop := Claim7.holds Tryd.pinned (.plain (OpenSpec.ofChange cronFindsSpec)) cronFindsCard

/-- THE TIED CARD OF 'horologelaw6.CronNext'. -/
def cronNextCard : Claim7 := { stood := { row := cronNextRow, standIns := [], harness := (true, "b690354a019311305f4896769b63c241d898697d57cb60152aa1a21dc7412217"), looks := false }, kinds := [], alts := [], laidByText := true, laidKinds := [.data, .data, .data, .data, .pinned], laidTests := true, laidLooks := .later }
def CronNextCardSaid : Prop := Claim7.holds Tryd.pinned (.plain (OpenSpec.ofChange cronNextSpec)) cronNextCard

/-- THE TIED CARD OF 'horologelaw6.CronEvery'. -/
def cronEveryCard : Claim7 := { stood := { row := cronEveryRow, standIns := [], harness := (true, "b690354a019311305f4896769b63c241d898697d57cb60152aa1a21dc7412217"), looks := false }, kinds := [], alts := [], laidByText := true, laidKinds := [.data, .data, .data, .data, .pinned], laidTests := true, laidLooks := .later }
def CronEveryCardSaid : Prop := Claim7.holds Tryd.pinned (.plain (OpenSpec.ofChange cronEverySpec)) cronEveryCard

/-- THE SECOND FORM's CARD OF 'horologelaw17.JobNames'. -/
def jobNamesUptoCard : Claim7 := { stood := { row := jobNamesUptoRow, standIns := [], harness := (true, "b690354a019311305f4896769b63c241d898697d57cb60152aa1a21dc7412217"), looks := false }, kinds := [], alts := [], laidByText := true, laidKinds := [.data, .data, .data, .data, .pinned], laidTests := true, laidLooks := .later }
def JobNamesUptoCardSaid : Prop := Claim7.holds Tryd.pinned (.plain (OpenSpec.upto jobNamesSpec)) jobNamesUptoCard

/-- THE SECOND FORM's CARD OF 'horologelaw17.JobRows'. -/
def jobRowsUptoCard : Claim7 := { stood := { row := jobRowsUptoRow, standIns := [], harness := (true, "b690354a019311305f4896769b63c241d898697d57cb60152aa1a21dc7412217"), looks := false }, kinds := [], alts := [], laidByText := true, laidKinds := [.data, .data, .data, .data, .pinned], laidTests := true, laidLooks := .later }
def JobRowsUptoCardSaid : Prop := Claim7.holds Tryd.pinned (.plain (OpenSpec.upto jobRowsSpec)) jobRowsUptoCard

/-- THE SECOND FORM's CARD OF 'horologelaw6.CronTexts'. -/
def cronTextsUptoCard : Claim7 := { stood := { row := cronTextsUptoRow, standIns := [], harness := (true, "b690354a019311305f4896769b63c241d898697d57cb60152aa1a21dc7412217"), looks := false }, kinds := [], alts := [], laidByText := true, laidKinds := [.data, .data, .data, .data, .pinned], laidTests := true, laidLooks := .later }
def CronTextsUptoCardSaid : Prop := Claim7.holds Tryd.pinned (.plain (OpenSpec.upto cronTextsSpec)) cronTextsUptoCard

/-- THE SECOND FORM's CARD OF 'horologelaw6.CronNever'. -/
def cronNeverUptoCard : Claim7 := { stood := { row := cronNeverUptoRow, standIns := [], harness := (true, "b690354a019311305f4896769b63c241d898697d57cb60152aa1a21dc7412217"), looks := false }, kinds := [], alts := [], laidByText := true, laidKinds := [.data, .data, .data, .data, .pinned], laidTests := true, laidLooks := .later }
def CronNeverUptoCardSaid : Prop := Claim7.holds Tryd.pinned (.plain (OpenSpec.upto cronNeverSpec)) cronNeverUptoCard

/-- THE SECOND FORM's CARD OF 'horologelaw6.CronBlanks'. -/
def cronBlanksUptoCard : Claim7 := { stood := { row := cronBlanksUptoRow, standIns := [], harness := (true, "b690354a019311305f4896769b63c241d898697d57cb60152aa1a21dc7412217"), looks := false }, kinds := [], alts := [], laidByText := true, laidKinds := [.data, .data, .data, .data, .pinned], laidTests := true, laidLooks := .later }
def CronBlanksUptoCardSaid : Prop := Claim7.holds Tryd.pinned (.plain (OpenSpec.upto cronBlanksSpec)) cronBlanksUptoCard

/-- THE SECOND FORM's CARD OF 'horologelaw6.CronFields'. -/
def cronFieldsUptoCard : Claim7 := { stood := { row := cronFieldsUptoRow, standIns := [], harness := (true, "b690354a019311305f4896769b63c241d898697d57cb60152aa1a21dc7412217"), looks := false }, kinds := [], alts := [], laidByText := true, laidKinds := [.data, .data, .data, .data, .pinned], laidTests := true, laidLooks := .later }
def CronFieldsUptoCardSaid : Prop := Claim7.holds Tryd.pinned (.plain (OpenSpec.upto cronFieldsSpec)) cronFieldsUptoCard

/-- THE SECOND FORM's CARD OF 'horologelaw6.CronDays'. -/
def cronDaysUptoCard : Claim7 := { stood := { row := cronDaysUptoRow, standIns := [], harness := (true, "b690354a019311305f4896769b63c241d898697d57cb60152aa1a21dc7412217"), looks := false }, kinds := [], alts := [], laidByText := true, laidKinds := [.data, .data, .data, .data, .pinned], laidTests := true, laidLooks := .later }
def CronDaysUptoCardSaid : Prop := Claim7.holds Tryd.pinned (.plain (OpenSpec.upto cronDaysSpec)) cronDaysUptoCard

/-- THE SECOND FORM's CARD OF 'horologelaw17.JobBack'. -/
def jobBackUptoCard : Claim7 := { stood := { row := jobBackUptoRow, standIns := [], harness := (true, "b690354a019311305f4896769b63c241d898697d57cb60152aa1a21dc7412217"), looks := false }, kinds := [], alts := [], laidByText := true, laidKinds := [.data, .data, .data, .data, .pinned], laidTests := true, laidLooks := .later }
def JobBackUptoCardSaid : Prop := Claim7.holds Tryd.pinned (.plain (OpenSpec.upto jobBackSpec)) jobBackUptoCard

/-- THE SECOND FORM's CARD OF 'horologelaw17.JobKeys'. -/
def jobKeysUptoCard : Claim7 := { stood := { row := jobKeysUptoRow, standIns := [], harness := (true, "b690354a019311305f4896769b63c241d898697d57cb60152aa1a21dc7412217"), looks := false }, kinds := [], alts := [], laidByText := true, laidKinds := [.data, .data, .data, .data, .pinned], laidTests := true, laidLooks := .later }
def JobKeysUptoCardSaid : Prop := Claim7.holds Tryd.pinned (.plain (OpenSpec.upto jobKeysSpec)) jobKeysUptoCard

/-- THE SECOND FORM's CARD OF 'horologelaw17.JobTexts'. -/
def jobTextsUptoCard : Claim7 := { stood := { row := jobTextsUptoRow, standIns := [], harness := (true, "b690354a019311305f4896769b63c241d898697d57cb60152aa1a21dc7412217"), looks := false }, kinds := [], alts := [], laidByText := true, laidKinds := [.data, .data, .data, .data, .pinned], laidTests := true, laidLooks := .later }
def JobTextsUptoCardSaid : Prop := Claim7.holds Tryd.pinned (.plain (OpenSpec.upto jobTextsSpec)) jobTextsUptoCard

/-- THE SECOND FORM's CARD OF 'horologelaw6.CronSteps'. -/
def cronStepsUptoCard : Claim7 := { stood := { row := cronStepsUptoRow, standIns := [], harness := (true, "b690354a019311305f4896769b63c241d898697d57cb60152aa1a21dc7412217"), looks := false }, kinds := [], alts := [], laidByText := true, laidKinds := [.data, .data, .data, .data, .pinned], laidTests := true, laidLooks := .later }
def CronStepsUptoCardSaid : Prop := Claim7.holds Tryd.pinned (.plain (OpenSpec.upto cronStepsSpec)) cronStepsUptoCard

/-- THE SECOND FORM's CARD OF 'horologelaw6.CronFinds'. -/
def cronFindsUptoCard : Claim7 := { stood := { row := cronFindsUptoRow, standIns := [], harness := (true, "b690354a019311305f4896769b63c241d898697d57cb60152aa1a21dc7412217"), looks := false }, kinds := [], alts := [], laidByText := true, laidKinds := [.data, .data, .data, .data, .pinned], laidTests := true, laidLooks := .later }
def CronFindsUptoCardSaid : Prop := Claim7.holds Tryd.pinned (.plain (OpenSpec.upto cronFindsSpec)) cronFindsUptoCard

/-- THE SECOND FORM's CARD OF 'horologelaw6.CronNext'. -/
def cronNextUptoCard : Claim7 := { stood := { row := cronNextUptoRow, standIns := [], harness := (true, "b690354a019311305f4896769b63c241d898697d57cb60152aa1a21dc7412217"), looks := false }, kinds := [], alts := [], laidByText := true, laidKinds := [.data, .data, .data, .data, .pinned], laidTests := true, laidLooks := .later }
def CronNextUptoCardSaid : Prop := Claim7.holds Tryd.pinned (.plain (OpenSpec.upto cronNextSpec)) cronNextUptoCard

/-- THE SECOND FORM's CARD OF 'horologelaw6.CronEvery'. -/
def cronEveryUptoCard : Claim7 := { stood := { row := cronEveryUptoRow, standIns := [], harness := (true, "b690354a019311305f4896769b63c241d898697d57cb60152aa1a21dc7412217"), looks := false }, kinds := [], alts := [], laidByText := true, laidKinds := [.data, .data, .data, .data, .pinned], laidTests := true, laidLooks := .later }
def CronEveryUptoCardSaid : Prop := Claim7.holds Tryd.pinned (.plain (OpenSpec.upto cronEverySpec)) cronEveryUptoCard
end Rows
end Go.Proofs.YtggcnbdpobbkaaaDoor
