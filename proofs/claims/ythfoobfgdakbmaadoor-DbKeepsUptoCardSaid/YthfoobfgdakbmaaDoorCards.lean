/-
  DERIVED. GIVEN WITH THE SEED: THE CARDS: each row of YthfoobfgdakbmaaDoorRows.lean that lists a variable, with what it lists TIED to the program's text (the seventh form; the later family's looks); each row that meets fmt, with fmt's text TOLD by the authors' own Lean function (tested against real Go, not proved from fmt's source: count such statements apart). THE CARD IS WHAT COUNTS. Prove the row's statement (the work); the ties are given (YthfoobfgdakbmaaDoorTie.lean); close each card by the builder's one call (the guide's Derived/Test/ToyasCard.lean, 'card_holds'). Laid BY PROGRAM, IN A SANDBOX (cutbox-door.mjs). By AI agents, Wed Nov 11 2026. No macro, syntax, notation, axiom, sorry.
-/
import Derived.Test.YthfoobfgdakbmaaDoorRows
import GoSem.ClaimSeven
namespace Go.Proofs.YthfoobfgdakbmaaDoor
namespace Rows

/-- THE TIED CARD OF 'bloomerylaw25.DbKeeps'. -/
def dbKeepsCard : Claim7 := { stood := { row := dbKeepsRow, standIns := [], harness := (true, "1533e812e9bc449de51f19a4ec52af2c0070b3ce09d2ed66adc637252a7eaac4"), looks := false }, kinds := [], alts := [], laidByText := true, laidKinds := [.data, .pinned], laidTests := true, laidLooks := .later }
def DbKeepsCardSaid : Prop := Claim7.holds Tryd.pinned (.plain (OpenSpec.ofChange dbKeepsSpec)) dbKeepsCard

/-- THE TIED CARD OF 'bloomerylaw14.ConfigBack'. -/
def configBackCard : Claim7 := { stood := { row := configBackRow, standIns := [], harness := (true, "1533e812e9bc449de51f19a4ec52af2c0070b3ce09d2ed66adc637252a7eaac4"), looks := false }, kinds := [], alts := [], laidByText := true, laidKinds := [.data, .pinned], laidTests := true, laidLooks := .later }
def ConfigBackCardSaid : Prop := Claim7.holds Tryd.pinned (.plain (OpenSpec.ofChange configBackSpec)) configBackCard

/-- THE TIED CARD OF 'bloomerylaw14.ConfigChecks'. -/
def configChecksCard : Claim7 := { stood := { row := configChecksRow, standIns := [], harness := (true, "1533e812e9bc449de51f19a4ec52af2c0070b3ce09d2ed66adc637252a7eaac4"), looks := false }, kinds := [], alts := [], laidByText := true, laidKinds := [.data, .pinned], laidTests := true, laidLooks := .later }
def ConfigChecksCardSaid : Prop := Claim7.holds Tryd.pinned (.plain (OpenSpec.ofChange configChecksSpec)) configChecksCard

/-- THE TIED CARD OF 'bloomerylaw14.ConfigSelects'. -/
def configSelectsCard : Claim7 := { stood := { row := configSelectsRow, standIns := [], harness := (true, "1533e812e9bc449de51f19a4ec52af2c0070b3ce09d2ed66adc637252a7eaac4"), looks := false }, kinds := [], alts := [], laidByText := true, laidKinds := [.data, .pinned], laidTests := true, laidLooks := .later }
def ConfigSelectsCardSaid : Prop := Claim7.holds Tryd.pinned (.plain (OpenSpec.ofChange configSelectsSpec)) configSelectsCard

/-- THE TIED CARD OF 'bloomerylaw14.ConfigOthers'. -/
def configOthersCard : Claim7 := { stood := { row := configOthersRow, standIns := [], harness := (true, "1533e812e9bc449de51f19a4ec52af2c0070b3ce09d2ed66adc637252a7eaac4"), looks := false }, kinds := [], alts := [], laidByText := true, laidKinds := [.data, .pinned], laidTests := true, laidLooks := .later }
def ConfigOthersCardSaid : Prop := Claim7.holds Tryd.pinned (.plain (OpenSpec.ofChange configOthersSpec)) configOthersCard

/-- THE SECOND FORM's CARD OF 'bloomerylaw25.DbKeeps'. -/
def dbKeepsUptoCard : Claim7 := { stood := { row := dbKeepsUptoRow, standIns := [], harness := (true, "1533e812e9bc449de51f19a4ec52af2c0070b3ce09d2ed66adc637252a7eaac4"), looks := false }, kinds := [], alts := [], laidByText := true, laidKinds := [.data, .pinned], laidTests := true, laidLooks := .later }
def DbKeepsUptoCardSaid : Prop := Claim7.holds Tryd.pinned (.plain (OpenSpec.upto dbKeepsSpec)) dbKeepsUptoCard

/-- THE SECOND FORM's CARD OF 'bloomerylaw14.ConfigBack'. -/
def configBackUptoCard : Claim7 := { stood := { row := configBackUptoRow, standIns := [], harness := (true, "1533e812e9bc449de51f19a4ec52af2c0070b3ce09d2ed66adc637252a7eaac4"), looks := false }, kinds := [], alts := [], laidByText := true, laidKinds := [.data, .pinned], laidTests := true, laidLooks := .later }
def ConfigBackUptoCardSaid : Prop := Claim7.holds Tryd.pinned (.plain (OpenSpec.upto configBackSpec)) configBackUptoCard

/-- THE SECOND FORM's CARD OF 'bloomerylaw14.ConfigChecks'. -/
def configChecksUptoCard : Claim7 := { stood := { row := configChecksUptoRow, standIns := [], harness := (true, "1533e812e9bc449de51f19a4ec52af2c0070b3ce09d2ed66adc637252a7eaac4"), looks := false }, kinds := [], alts := [], laidByText := true, laidKinds := [.data, .pinned], laidTests := true, laidLooks := .later }
def ConfigChecksUptoCardSaid : Prop := Claim7.holds Tryd.pinned (.plain (OpenSpec.upto configChecksSpec)) configChecksUptoCard

/-- THE SECOND FORM's CARD OF 'bloomerylaw14.ConfigSelects'. -/
def configSelectsUptoCard : Claim7 := { stood := { row := configSelectsUptoRow, standIns := [], harness := (true, "1533e812e9bc449de51f19a4ec52af2c0070b3ce09d2ed66adc637252a7eaac4"), looks := false }, kinds := [], alts := [], laidByText := true, laidKinds := [.data, .pinned], laidTests := true, laidLooks := .later }
def ConfigSelectsUptoCardSaid : Prop := Claim7.holds Tryd.pinned (.plain (OpenSpec.upto configSelectsSpec)) configSelectsUptoCard

/-- THE SECOND FORM's CARD OF 'bloomerylaw14.ConfigOthers'. -/
def configOthersUptoCard : Claim7 := { stood := { row := configOthersUptoRow, standIns := [], harness := (true, "1533e812e9bc449de51f19a4ec52af2c0070b3ce09d2ed66adc637252a7eaac4"), looks := false }, kinds := [], alts := [], laidByText := true, laidKinds := [.data, .pinned], laidTests := true, laidLooks := .later }
def ConfigOthersUptoCardSaid : Prop := Claim7.holds Tryd.pinned (.plain (OpenSpec.upto configOthersSpec)) configOthersUptoCard
end Rows
end Go.Proofs.YthfoobfgdakbmaaDoor
