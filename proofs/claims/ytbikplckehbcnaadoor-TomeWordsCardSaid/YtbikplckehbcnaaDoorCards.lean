/-
  DERIVED. GIVEN WITH THE SEED: THE CARDS: each row of YtbikplckehbcnaaDoorRows.lean that lists a variable, with what it lists TIED to the program's text (the seventh form; the later family's looks); each row that meets fmt, with fmt's text TOLD by the authors' own Lean function (tested against real Go, not proved from fmt's source: count such statements apart). THE CARD IS WHAT COUNTS. Prove the row's statement (the work); the ties are given (YtbikplckehbcnaaDoorTie.lean); close each card by the builder's one call (the guide's Derived/Test/ToyasCard.lean, 'card_holds'). Laid BY PROGRAM, IN A SANDBOX (cutbox-door.mjs). By AI agents, Wed Nov 11 2026. No macro, syntax, notation, axiom, sorry.
-/
import Derived.Test.YtbikplckehbcnaaDoorRows
import GoSem.ClaimSeven
namespace Go.Proofs.YtbikplckehbcnaaDoor
namespace Rows

/-- THE TIED CARD OF 'seneschallaw08.TwinRefuses'. -/
def twinRefusesCard : Claim7 := { stood := { row := twinRefusesRow, standIns := [], harness := (true, "d7e3a6f72cb8aa5b4ebf73141f6f8c73879d3b6d6385e5e7ac0523548b4ccf09"), looks := true }, kinds := [], alts := [], laidByText := true, laidKinds := [.data, .pinned], laidTests := true, laidLooks := .later }
def TwinRefusesCardSaid : Prop := Claim7.holds Tryd.pinned (.plain (OpenSpec.ofChange twinRefusesSpec)) twinRefusesCard

/-- THE TIED CARD OF 'seneschallaw08.TwinPower'. -/
def twinPowerCard : Claim7 := { stood := { row := twinPowerRow, standIns := [], harness := (true, "d7e3a6f72cb8aa5b4ebf73141f6f8c73879d3b6d6385e5e7ac0523548b4ccf09"), looks := true }, kinds := [], alts := [], laidByText := true, laidKinds := [.data, .pinned], laidTests := true, laidLooks := .later }
def TwinPowerCardSaid : Prop := Claim7.holds Tryd.pinned (.plain (OpenSpec.ofChange twinPowerSpec)) twinPowerCard

/-- THE TIED CARD OF 'seneschallaw23.TomeReads'. -/
def tomeReadsCard : Claim7 := { stood := { row := tomeReadsRow, standIns := [], harness := (true, "d7e3a6f72cb8aa5b4ebf73141f6f8c73879d3b6d6385e5e7ac0523548b4ccf09"), looks := true }, kinds := [], alts := [], laidByText := true, laidKinds := [.data, .data, .data, .data, .sentinel, .sentinel, .listed, .data, .pinned], laidTests := true, laidLooks := .later }
def TomeReadsCardSaid : Prop := Claim7.holds Tryd.pinned (.plain (OpenSpec.ofChange tomeReadsSpec)) tomeReadsCard

/-- THE TIED CARD OF 'seneschallaw23.TomeScripts'. -/
def tomeScriptsCard : Claim7 := { stood := { row := tomeScriptsRow, standIns := [], harness := (true, "d7e3a6f72cb8aa5b4ebf73141f6f8c73879d3b6d6385e5e7ac0523548b4ccf09"), looks := true }, kinds := [], alts := [], laidByText := true, laidKinds := [.data, .data, .data, .data, .sentinel, .sentinel, .listed, .data, .pinned], laidTests := true, laidLooks := .later }
def TomeScriptsCardSaid : Prop := Claim7.holds Tryd.pinned (.plain (OpenSpec.ofChange tomeScriptsSpec)) tomeScriptsCard

/-- THE TIED CARD OF 'seneschallaw23.TomeBack'. -/
def tomeBackCard : Claim7 := { stood := { row := tomeBackRow, standIns := [], harness := (true, "d7e3a6f72cb8aa5b4ebf73141f6f8c73879d3b6d6385e5e7ac0523548b4ccf09"), looks := true }, kinds := [], alts := [], laidByText := true, laidKinds := [.data, .data, .data, .data, .sentinel, .sentinel, .listed, .data, .pinned], laidTests := true, laidLooks := .later }
def TomeBackCardSaid : Prop := Claim7.holds Tryd.pinned (.plain (OpenSpec.ofChange tomeBackSpec)) tomeBackCard

/-- THE TIED CARD OF 'seneschallaw23.TomeWords'. -/
def tomeWordsCard : Claim7 := { stood := { row := tomeWordsRow, standIns := [], harness := (true, "d7e3a6f72cb8aa5b4ebf73141f6f8c73879d3b6d6385e5e7ac0523548b4ccf09"), looks := true }, kinds := [], alts := [], laidByText := true, laidKinds := [.data, .data, .data, .data, .sentinel, .sentinel, .listed, .data, .pinned], laidTests := true, laidLooks := .later }
def TomeWordsCardSaid : Prop := Claim7.holds Tryd.pinned (.plain (OpenSpec.ofChange tomeWordsSpec)) tomeWordsCard

/-- THE SECOND FORM's CARD OF 'seneschallaw08.TwinRefuses'. -/
def twinRefusesUptoCard : Claim7 := { stood := { row := twinRefusesUptoRow, standIns := [], harness := (true, "d7e3a6f72cb8aa5b4ebf73141f6f8c73879d3b6d6385e5e7ac0523548b4ccf09"), looks := true }, kinds := [], alts := [], laidByText := true, laidKinds := [.data, .pinned], laidTests := true, laidLooks := .later }
def TwinRefusesUptoCardSaid : Prop := Claim7.holds Tryd.pinned (.plain (OpenSpec.upto twinRefusesSpec)) twinRefusesUptoCard

/-- THE SECOND FORM's CARD OF 'seneschallaw08.TwinPower'. -/
def twinPowerUptoCard : Claim7 := { stood := { row := twinPowerUptoRow, standIns := [], harness := (true, "d7e3a6f72cb8aa5b4ebf73141f6f8c73879d3b6d6385e5e7ac0523548b4ccf09"), looks := true }, kinds := [], alts := [], laidByText := true, laidKinds := [.data, .pinned], laidTests := true, laidLooks := .later }
def TwinPowerUptoCardSaid : Prop := Claim7.holds Tryd.pinned (.plain (OpenSpec.upto twinPowerSpec)) twinPowerUptoCard

/-- THE SECOND FORM's CARD OF 'seneschallaw23.TomeReads'. -/
def tomeReadsUptoCard : Claim7 := { stood := { row := tomeReadsUptoRow, standIns := [], harness := (true, "d7e3a6f72cb8aa5b4ebf73141f6f8c73879d3b6d6385e5e7ac0523548b4ccf09"), looks := true }, kinds := [], alts := [], laidByText := true, laidKinds := [.data, .data, .data, .data, .sentinel, .sentinel, .listed, .data, .pinned], laidTests := true, laidLooks := .later }
def TomeReadsUptoCardSaid : Prop := Claim7.holds Tryd.pinned (.plain (OpenSpec.upto tomeReadsSpec)) tomeReadsUptoCard

/-- THE SECOND FORM's CARD OF 'seneschallaw23.TomeScripts'. -/
def tomeScriptsUptoCard : Claim7 := { stood := { row := tomeScriptsUptoRow, standIns := [], harness := (true, "d7e3a6f72cb8aa5b4ebf73141f6f8c73879d3b6d6385e5e7ac0523548b4ccf09"), looks := true }, kinds := [], alts := [], laidByText := true, laidKinds := [.data, .data, .data, .data, .sentinel, .sentinel, .listed, .data, .pinned], laidTests := true, laidLooks := .later }
def TomeScriptsUptoCardSaid : Prop := Claim7.holds Tryd.pinned (.plain (OpenSpec.upto tomeScriptsSpec)) tomeScriptsUptoCard

/-- THE SECOND FORM's CARD OF 'seneschallaw23.TomeBack'. -/
def tomeBackUptoCard : Claim7 := { stood := { row := tomeBackUptoRow, standIns := [], harness := (true, "d7e3a6f72cb8aa5b4ebf73141f6f8c73879d3b6d6385e5e7ac0523548b4ccf09"), looks := true }, kinds := [], alts := [], laidByText := true, laidKinds := [.data, .data, .data, .data, .sentinel, .sentinel, .listed, .data, .pinned], laidTests := true, laidLooks := .later }
def TomeBackUptoCardSaid : Prop := Claim7.holds Tryd.pinned (.plain (OpenSpec.upto tomeBackSpec)) tomeBackUptoCard

/-- THE SECOND FORM's CARD OF 'seneschallaw23.TomeWords'. -/
def tomeWordsUptoCard : Claim7 := { stood := { row := tomeWordsUptoRow, standIns := [], harness := (true, "d7e3a6f72cb8aa5b4ebf73141f6f8c73879d3b6d6385e5e7ac0523548b4ccf09"), looks := true }, kinds := [], alts := [], laidByText := true, laidKinds := [.data, .data, .data, .data, .sentinel, .sentinel, .listed, .data, .pinned], laidTests := true, laidLooks := .later }
def TomeWordsUptoCardSaid : Prop := Claim7.holds Tryd.pinned (.plain (OpenSpec.upto tomeWordsSpec)) tomeWordsUptoCard
end Rows
end Go.Proofs.YtbikplckehbcnaaDoor
