/-
  DERIVED. GIVEN WITH THE SEED: THE CARDS: each row of YtdpaiaeaamokeaaDoorRows.lean that lists a variable, with what it lists TIED to the program's text (the seventh form; the later family's looks); each row that meets fmt, with fmt's text TOLD by the authors' own Lean function (tested against real Go, not proved from fmt's source: count such statements apart). THE CARD IS WHAT COUNTS. Prove the row's statement (the work); the ties are given (YtdpaiaeaamokeaaDoorTie.lean); close each card by the builder's one call (the guide's Derived/Test/ToyasCard.lean, 'card_holds'). Laid BY PROGRAM, IN A SANDBOX (cutbox-door.mjs). By AI agents, Wed Nov 11 2026. No macro, syntax, notation, axiom, sorry.
-/
import Derived.Test.YtdpaiaeaamokeaaDoorRows
import GoSem.ClaimSeven
namespace Go.Proofs.YtdpaiaeaamokeaaDoor
namespace Rows

/-- THE TIED CARD OF 'horologelaw17.JobRows'. -/
def jobRowsCard : Claim7 := { stood := { row := jobRowsRow, standIns := [], harness := (true, "0bf8823a063d8d7373dced42e3ebc2be00d825c2c50fe86035a61c6ca4a596df"), looks := false }, kinds := [], alts := [], laidByText := true, laidKinds := [.data, .data, .data, .data, .pinned], laidTests := true, laidLooks := .later }
def JobRowsCardSaid : Prop := Claim7.holds Tryd.pinned (.plain (OpenSpec.ofChange jobRowsSpec)) jobRowsCard

/-- THE TIED CARD OF 'horologelaw6.CronTexts'. -/
def cronTextsCard : Claim7 := { stood := { row := cronTextsRow, standIns := [], harness := (true, "0bf8823a063d8d7373dced42e3ebc2be00d825c2c50fe86035a61c6ca4a596df"), looks := false }, kinds := [], alts := [], laidByText := true, laidKinds := [.data, .data, .data, .data, .pinned], laidTests := true, laidLooks := .later }
def CronTextsCardSaid : Prop := Claim7.holds Tryd.pinned (.plain (OpenSpec.ofChange cronTextsSpec)) cronTextsCard

/-- THE TIED CARD OF 'horologelaw6.CronFields'. -/
def cronFieldsCard : Claim7 := { stood := { row := cronFieldsRow, standIns := [], harness := (true, "0bf8823a063d8d7373dced42e3ebc2be00d825c2c50fe86035a61c6ca4a596df"), looks := false }, kinds := [], alts := [], laidByText := true, laidKinds := [.data, .data, .data, .data, .pinned], laidTests := true, laidLooks := .later }
def CronFieldsCardSaid : Prop := Claim7.holds Tryd.pinned (.plain (OpenSpec.ofChange cronFieldsSpec)) cronFieldsCard

/-- THE TIED CARD OF 'horologelaw17.JobKeys'. -/
def jobKeysCard : Claim7 := { stood := { row := jobKeysRow, standIns := [], harness := (true, "0bf8823a063d8d7373dced42e3ebc2be00d825c2c50fe86035a61c6ca4a596df"), looks := false }, kinds := [], alts := [], laidByText := true, laidKinds := [.data, .data, .data, .data, .pinned], laidTests := true, laidLooks := .later }
def JobKeysCardSaid : Prop := Claim7.holds Tryd.pinned (.plain (OpenSpec.ofChange jobKeysSpec)) jobKeysCard

/-- THE TIED CARD OF 'horologelaw17.JobTexts'. -/
def jobTextsCard : Claim7 := { stood := { row := jobTextsRow, standIns := [], harness := (true, "0bf8823a063d8d7373dced42e3ebc2be00d825c2c50fe86035a61c6ca4a596df"), looks := false }, kinds := [], alts := [], laidByText := true, laidKinds := [.data, .data, .data, .data, .pinned], laidTests := true, laidLooks := .later }
def JobTextsCardSaid : Prop := Claim7.holds Tryd.pinned (.plain (OpenSpec.ofChange jobTextsSpec)) jobTextsCard

/-- THE TIED CARD OF 'horologelaw6.CronFinds'. -/
def cronFindsCard : Claim7 := { stood := { row := cronFindsRow, standIns := [], harness := (true, "0bf8823a063d8d7373dced42e3ebc2be00d825c2c50fe86035a61c6ca4a596df"), looks := false }, kinds := [], alts := [], laidByText := true, laidKinds := [.data, .data, .data, .data, .pinned], laidTests := true, laidLooks := .later }
def CronFindsCardSaid : Prop := Claim7.holds Tryd.pinned (.plain (OpenSpec.ofChange cronFindsSpec)) cronFindsCard

/-- THE SECOND FORM's CARD OF 'horologelaw17.JobRows'. -/
def jobRowsUptoCard : Claim7 := { stood := { row := jobRowsUptoRow, standIns := [], harness := (true, "0bf8823a063d8d7373dced42e3ebc2be00d825c2c50fe86035a61c6ca4a596df"), looks := false }, kinds := [], alts := [], laidByText := true, laidKinds := [.data, .data, .data, .data, .pinned], laidTests := true, laidLooks := .later }
def JobRowsUptoCardSaid : Prop := Claim7.holds Tryd.pinned (.plain (OpenSpec.upto jobRowsSpec)) jobRowsUptoCard

/-- THE SECOND FORM's CARD OF 'horologelaw6.CronTexts'. -/
def cronTextsUptoCard : Claim7 := { stood := { row := cronTextsUptoRow, standIns := [], harness := (true, "0bf8823a063d8d7373dced42e3ebc2be00d825c2c50fe86035a61c6ca4a596df"), looks := false }, kinds := [], alts := [], laidByText := true, laidKinds := [.data, .data, .data, .data, .pinned], laidTests := true, laidLooks := .later }
def CronTextsUptoCardSaid : Prop := Claim7.holds Tryd.pinned (.plain (OpenSpec.upto cronTextsSpec)) cronTextsUptoCard

/-- THE SECOND FORM's CARD OF 'horologelaw6.CronFields'. -/
def cronFieldsUptoCard : Claim7 := { stood := { row := cronFieldsUptoRow, standIns := [], harness := (true, "0bf8823a063d8d7373dced42e3ebc2be00d825c2c50fe86035a61c6ca4a596df"), looks := false }, kinds := [], alts := [], laidByText := true, laidKinds := [.data, .data, .data, .data, .pinned], laidTests := true, laidLooks := .later }
def CronFieldsUptoCardSaid : Prop := Claim7.holds Tryd.pinned (.plain (OpenSpec.upto cronFieldsSpec)) cronFieldsUptoCard

/-- THE SECOND FORM's CARD OF 'horologelaw17.JobKeys'. -/
def jobKeysUptoCard : Claim7 := { stood := { row := jobKeysUptoRow, standIns := [], harness := (true, "0bf8823a063d8d7373dced42e3ebc2be00d825c2c50fe86035a61c6ca4a596df"), looks := false }, kinds := [], alts := [], laidByText := true, laidKinds := [.data, .data, .data, .data, .pinned], laidTests := true, laidLooks := .later }
def JobKeysUptoCardSaid : Prop := Claim7.holds Tryd.pinned (.plain (OpenSpec.upto jobKeysSpec)) jobKeysUptoCard

/-- THE SECOND FORM's CARD OF 'horologelaw17.JobTexts'. -/
def jobTextsUptoCard : Claim7 := { stood := { row := jobTextsUptoRow, standIns := [], harness := (true, "0bf8823a063d8d7373dced42e3ebc2be00d825c2c50fe86035a61c6ca4a596df"), looks := false }, kinds := [], alts := [], laidByText := true, laidKinds := [.data, .data, .data, .data, .pinned], laidTests := true, laidLooks := .later }
def JobTextsUptoCardSaid : Prop := Claim7.holds Tryd.pinned (.plain (OpenSpec.upto jobTextsSpec)) jobTextsUptoCard

/-- THE SECOND FORM's CARD OF 'horologelaw6.CronFinds'. -/
def cronFindsUptoCard : Claim7 := { stood := { row := cronFindsUptoRow, standIns := [], harness := (true, "0bf8823a063d8d7373dced42e3ebc2be00d825c2c50fe86035a61c6ca4a596df"), looks := false }, kinds := [], alts := [], laidByText := true, laidKinds := [.data, .data, .data, .data, .pinned], laidTests := true, laidLooks := .later }
def CronFindsUptoCardSaid : Prop := Claim7.holds Tryd.pinned (.plain (OpenSpec.upto cronFindsSpec)) cronFindsUptoCard
end Rows
end Go.Proofs.YtdpaiaeaamokeaaDoor
