/-
  DERIVED. GIVEN WITH THE SEED: THE CARDS: each row of YtmiefhokjeofcaaDoorRows.lean that lists a variable, with what it lists TIED to the program's text (the seventh form; the later family's looks); each row that meets fmt, with fmt's text TOLD by the authors' own Lean function (tested against real Go, not proved from fmt's source: count such statements apart). THE CARD IS WHAT COUNTS. Prove the row's statement (the work); the ties are given (YtmiefhokjeofcaaDoorTie.lean); close each card by the builder's one call (the guide's Derived/Test/ToyasCard.lean, 'card_holds'). Laid BY PROGRAM, IN A SANDBOX (cutbox-door.mjs). By AI agents, Wed Nov 11 2026. No macro, syntax, notation, axiom, sorry.
-/
import Derived.Test.YtmiefhokjeofcaaDoorRows
import GoSem.ClaimSeven
namespace Go.Proofs.YtmiefhokjeofcaaDoor
namespace Rows

/-- THE TIED CARD OF 'umlautlaw14.KencRows'. -/
def kencRowsCard : Claim7 := { stood := { row := kencRowsRow, standIns := [], harness := (true, "807de4dae1d6131e8ffccf67a34c10d1970cc82a1e9678c119a793fefbc9ba58"), looks := false }, kinds := [], alts := [], laidByText := true, laidKinds := [.data, .pinned], laidTests := true, laidLooks := .later }
def KencRowsCardSaid : Prop := Claim7.holds Tryd.pinned (.plain (OpenSpec.ofChange kencRowsSpec)) kencRowsCard

/-- THE TIED CARD OF 'umlautlaw14.KencEscapes'. -/
def kencEscapesCard : Claim7 := { stood := { row := kencEscapesRow, standIns := [], harness := (true, "807de4dae1d6131e8ffccf67a34c10d1970cc82a1e9678c119a793fefbc9ba58"), looks := false }, kinds := [], alts := [], laidByText := true, laidKinds := [.data, .pinned], laidTests := true, laidLooks := .later }
def KencEscapesCardSaid : Prop := Claim7.holds Tryd.pinned (.plain (OpenSpec.ofChange kencEscapesSpec)) kencEscapesCard

/-- THE TIED CARD OF 'umlautlaw23.ExecCuts'. -/
def execCutsCard : Claim7 := { stood := { row := execCutsRow, standIns := [], harness := (true, "807de4dae1d6131e8ffccf67a34c10d1970cc82a1e9678c119a793fefbc9ba58"), looks := false }, kinds := [], alts := [], laidByText := true, laidKinds := [.data, .pinned], laidTests := true, laidLooks := .later }
def ExecCutsCardSaid : Prop := Claim7.holds Tryd.pinned (.plain (OpenSpec.ofChange execCutsSpec)) execCutsCard

/-- THE TIED CARD OF 'umlautlaw14.KencTakes'. -/
def kencTakesCard : Claim7 := { stood := { row := kencTakesRow, standIns := [], harness := (true, "807de4dae1d6131e8ffccf67a34c10d1970cc82a1e9678c119a793fefbc9ba58"), looks := false }, kinds := [], alts := [], laidByText := true, laidKinds := [.data, .pinned], laidTests := true, laidLooks := .later }
def KencTakesCardSaid : Prop := Claim7.holds Tryd.pinned (.plain (OpenSpec.ofChange kencTakesSpec)) kencTakesCard

/-- THE SECOND FORM's CARD OF 'umlautlaw14.KencRows'. -/
def kencRowsUptoCard : Claim7 := { stood := { row := kencRowsUptoRow, standIns := [], harness := (true, "807de4dae1d6131e8ffccf67a34c10d1970cc82a1e9678c119a793fefbc9ba58"), looks := false }, kinds := [], alts := [], laidByText := true, laidKinds := [.data, .pinned], laidTests := true, laidLooks := .later }
def KencRowsUptoCardSaid : Prop := Claim7.holds Tryd.pinned (.plain (OpenSpec.upto kencRowsSpec)) kencRowsUptoCard

/-- THE SECOND FORM's CARD OF 'umlautlaw14.KencEscapes'. -/
def kencEscapesUptoCard : Claim7 := { stood := { row := kencEscapesUptoRow, standIns := [], harness := (true, "807de4dae1d6131e8ffccf67a34c10d1970cc82a1e9678c119a793fefbc9ba58"), looks := false }, kinds := [], alts := [], laidByText := true, laidKinds := [.data, .pinned], laidTests := true, laidLooks := .later }
def KencEscapesUptoCardSaid : Prop := Claim7.holds Tryd.pinned (.plain (OpenSpec.upto kencEscapesSpec)) kencEscapesUptoCard

/-- THE SECOND FORM's CARD OF 'umlautlaw23.ExecCuts'. -/
def execCutsUptoCard : Claim7 := { stood := { row := execCutsUptoRow, standIns := [], harness := (true, "807de4dae1d6131e8ffccf67a34c10d1970cc82a1e9678c119a793fefbc9ba58"), looks := false }, kinds := [], alts := [], laidByText := true, laidKinds := [.data, .pinned], laidTests := true, laidLooks := .later }
def ExecCutsUptoCardSaid : Prop := Claim7.holds Tryd.pinned (.plain (OpenSpec.upto execCutsSpec)) execCutsUptoCard

/-- THE SECOND FORM's CARD OF 'umlautlaw14.KencTakes'. -/
def kencTakesUptoCard : Claim7 := { stood := { row := kencTakesUptoRow, standIns := [], harness := (true, "807de4dae1d6131e8ffccf67a34c10d1970cc82a1e9678c119a793fefbc9ba58"), looks := false }, kinds := [], alts := [], laidByText := true, laidKinds := [.data, .pinned], laidTests := true, laidLooks := .later }
def KencTakesUptoCardSaid : Prop := Claim7.holds Tryd.pinned (.plain (OpenSpec.upto kencTakesSpec)) kencTakesUptoCard
end Rows
end Go.Proofs.YtmiefhokjeofcaaDoor
