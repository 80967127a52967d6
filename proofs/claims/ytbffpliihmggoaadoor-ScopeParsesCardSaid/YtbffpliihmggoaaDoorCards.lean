/-
  DERIVED. GIVEN WITH THE SEED: THE CARDS: each row of YtbffpliihmggoaaDoorRows.lean that lists a variable, with what it lists TIED to the program's text (the seventh form; the later family's looks); each row that meets fmt, with fmt's text TOLD by the authors' own Lean function (tested against real Go, not proved from fmt's source: count such statements apart). THE CARD IS WHAT COUNTS. Prove the row's statement (the work); the ties are given (YtbffpliihmggoaaDoorTie.lean); close each card by the builder's one call (the guide's Derived/Test/ToyasCard.lean, 'card_holds'). Laid BY PROGRAM, IN A SANDBOX (cutbox-door.mjs). By AI agents, Wed Nov 11 2026. No macro, syntax, notation, axiom, sorry.
-/
import Derived.Test.YtbffpliihmggoaaDoorRows
import GoSem.ClaimSeven
namespace Go.Proofs.YtbffpliihmggoaaDoor
namespace Rows

/-- THE TIED CARD OF 'warrantlaw07.ScopeSets'. -/
def scopeSetsCard : Claim7 := { stood := { row := scopeSetsRow, standIns := [], harness := (true, "491bd80442903d4ef7eabb03170b1c3b461be0f574999899149e289603f980fd"), looks := true }, kinds := [], alts := [], laidByText := true, laidKinds := [.data, .pinned], laidTests := true, laidLooks := .later }
def ScopeSetsCardSaid : Prop := Claim7.holds Tryd.pinned (.plain (OpenSpec.ofChange scopeSetsSpec)) scopeSetsCard

/-- THE TIED CARD OF 'warrantlaw07.ScopeBack'. -/
def scopeBackCard : Claim7 := { stood := { row := scopeBackRow, standIns := [], harness := (true, "491bd80442903d4ef7eabb03170b1c3b461be0f574999899149e289603f980fd"), looks := true }, kinds := [], alts := [], laidByText := true, laidKinds := [.data, .pinned], laidTests := true, laidLooks := .later }
def ScopeBackCardSaid : Prop := Claim7.holds Tryd.pinned (.plain (OpenSpec.ofChange scopeBackSpec)) scopeBackCard

/-- THE TIED CARD OF 'warrantlaw07.ScopeParses'. -/
def scopeParsesCard : Claim7 := { stood := { row := scopeParsesRow, standIns := [], harness := (true, "491bd80442903d4ef7eabb03170b1c3b461be0f574999899149e289603f980fd"), looks := true }, kinds := [], alts := [], laidByText := true, laidKinds := [.data, .handle, .pinned], laidTests := true, laidLooks := .later }
def ScopeParsesCardSaid : Prop := Claim7.holds Tryd.pinned (.plain (OpenSpec.ofChange scopeParsesSpec)) scopeParsesCard

/-- THE SECOND FORM's CARD OF 'warrantlaw07.ScopeSets'. -/
def scopeSetsUptoCard : Claim7 := { stood := { row := scopeSetsUptoRow, standIns := [], harness := (true, "491bd80442903d4ef7eabb03170b1c3b461be0f574999899149e289603f980fd"), looks := true }, kinds := [], alts := [], laidByText := true, laidKinds := [.data, .pinned], laidTests := true, laidLooks := .later }
def ScopeSetsUptoCardSaid : Prop := Claim7.holds Tryd.pinned (.plain (OpenSpec.upto scopeSetsSpec)) scopeSetsUptoCard

/-- THE SECOND FORM's CARD OF 'warrantlaw07.ScopeBack'. -/
def scopeBackUptoCard : Claim7 := { stood := { row := scopeBackUptoRow, standIns := [], harness := (true, "491bd80442903d4ef7eabb03170b1c3b461be0f574999899149e289603f980fd"), looks := true }, kinds := [], alts := [], laidByText := true, laidKinds := [.data, .pinned], laidTests := true, laidLooks := .later }
def ScopeBackUptoCardSaid : Prop := Claim7.holds Tryd.pinned (.plain (OpenSpec.upto scopeBackSpec)) scopeBackUptoCard

/-- THE SECOND FORM's CARD OF 'warrantlaw07.ScopeParses'. -/
def scopeParsesUptoCard : Claim7 := { stood := { row := scopeParsesUptoRow, standIns := [], harness := (true, "491bd80442903d4ef7eabb03170b1c3b461be0f574999899149e289603f980fd"), looks := true }, kinds := [], alts := [], laidByText := true, laidKinds := [.data, .handle, .pinned], laidTests := true, laidLooks := .later }
def ScopeParsesUptoCardSaid : Prop := Claim7.holds Tryd.pinned (.plain (OpenSpec.upto scopeParsesSpec)) scopeParsesUptoCard
end Rows
end Go.Proofs.YtbffpliihmggoaaDoor
