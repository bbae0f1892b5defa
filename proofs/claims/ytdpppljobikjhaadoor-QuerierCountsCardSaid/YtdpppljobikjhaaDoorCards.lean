/-
  DERIVED. GIVEN WITH THE SEED: THE CARDS: each row of YtdpppljobikjhaaDoorRows.lean that lists a variable, with what it lists TIED to the program's text (the seventh form; the later family's looks); each row that meets fmt, with fmt's text TOLD by the authors' own Lean function (tested against real Go, not proved from fmt's source: count such statements apart). THE CARD IS WHAT COUNTS. Prove the row's statement (the work); the ties are given (YtdpppljobikjhaaDoorTie.lean); close each card by the builder's one call (the guide's Derived/Test/ToyasCard.lean, 'card_holds'). Laid BY PROGRAM, IN A SANDBOX (cutbox-door.mjs). By AI agents, Wed Nov 11 2026. No macro, syntax, notation, axiom, sorry.
-/
import Derived.Test.YtdpppljobikjhaaDoorRows
import GoSem.ClaimSeven
namespace Go.Proofs.YtdpppljobikjhaaDoor
namespace Rows

/-- THE TIED CARD OF 'siphonlaw20.QuerierTwo'. -/
def querierTwoCard : Claim7 := { stood := { row := querierTwoRow, standIns := [], harness := (true, "321bb8b5fd1a612494f81f26a70cedcd02b89eb6af7954bd1839b7871b7fdc71"), looks := false }, kinds := [], alts := [], laidByText := true, laidKinds := [.data, .pinned], laidTests := true, laidLooks := .later }
def QuerierTwoCardSaid : Prop := Claim7.holds Tryd.pinned (.plain (OpenSpec.ofChange querierTwoSpec)) querierTwoCard

/-- THE TIED CARD OF 'siphonlaw20.QuerierAlone'. -/
def querierAloneCard : Claim7 := { stood := { row := querierAloneRow, standIns := [], harness := (true, "321bb8b5fd1a612494f81f26a70cedcd02b89eb6af7954bd1839b7871b7fdc71"), looks := false }, kinds := [], alts := [], laidByText := true, laidKinds := [.data, .pinned], laidTests := true, laidLooks := .later }
def QuerierAloneCardSaid : Prop := Claim7.holds Tryd.pinned (.plain (OpenSpec.ofChange querierAloneSpec)) querierAloneCard

/-- THE TIED CARD OF 'siphonlaw20.QuerierQuiet'. -/
def querierQuietCard : Claim7 := { stood := { row := querierQuietRow, standIns := [], harness := (true, "321bb8b5fd1a612494f81f26a70cedcd02b89eb6af7954bd1839b7871b7fdc71"), looks := false }, kinds := [], alts := [], laidByText := true, laidKinds := [.data, .pinned], laidTests := true, laidLooks := .later }
def QuerierQuietCardSaid : Prop := Claim7.holds Tryd.pinned (.plain (OpenSpec.ofChange querierQuietSpec)) querierQuietCard

/-- THE TIED CARD OF 'siphonlaw20.QuerierAsks'. -/
def querierAsksCard : Claim7 := { stood := { row := querierAsksRow, standIns := [], harness := (true, "321bb8b5fd1a612494f81f26a70cedcd02b89eb6af7954bd1839b7871b7fdc71"), looks := false }, kinds := [], alts := [], laidByText := true, laidKinds := [.data, .pinned], laidTests := true, laidLooks := .later }
def QuerierAsksCardSaid : Prop := Claim7.holds Tryd.pinned (.plain (OpenSpec.ofChange querierAsksSpec)) querierAsksCard

/-- THE TIED CARD OF 'siphonlaw20.QuerierCounts'. -/
def querierCountsCard : Claim7 := { stood := { row := querierCountsRow, standIns := [], harness := (true, "321bb8b5fd1a612494f81f26a70cedcd02b89eb6af7954bd1839b7871b7fdc71"), looks := false }, kinds := [], alts := [], laidByText := true, laidKinds := [.data, .pinned], laidTests := true, laidLooks := .later }
def QuerierCountsCardSaid : Prop := Claim7.holds Tryd.pinned (.plain (OpenSpec.ofChange querierCountsSpec)) querierCountsCard

/-- THE SECOND FORM's CARD OF 'siphonlaw20.QuerierTwo'. -/
def querierTwoUptoCard : Claim7 := { stood := { row := querierTwoUptoRow, standIns := [], harness := (true, "321bb8b5fd1a612494f81f26a70cedcd02b89eb6af7954bd1839b7871b7fdc71"), looks := false }, kinds := [], alts := [], laidByText := true, laidKinds := [.data, .pinned], laidTests := true, laidLooks := .later }
def QuerierTwoUptoCardSaid : Prop := Claim7.holds Tryd.pinned (.plain (OpenSpec.upto querierTwoSpec)) querierTwoUptoCard

/-- THE SECOND FORM's CARD OF 'siphonlaw20.QuerierAlone'. -/
def querierAloneUptoCard : Claim7 := { stood := { row := querierAloneUptoRow, standIns := [], harness := (true, "321bb8b5fd1a612494f81f26a70cedcd02b89eb6af7954bd1839b7871b7fdc71"), looks := false }, kinds := [], alts := [], laidByText := true, laidKinds := [.data, .pinned], laidTests := true, laidLooks := .later }
def QuerierAloneUptoCardSaid : Prop := Claim7.holds Tryd.pinned (.plain (OpenSpec.upto querierAloneSpec)) querierAloneUptoCard

/-- THE SECOND FORM's CARD OF 'siphonlaw20.QuerierQuiet'. -/
def querierQuietUptoCard : Claim7 := { stood := { row := querierQuietUptoRow, standIns := [], harness := (true, "321bb8b5fd1a612494f81f26a70cedcd02b89eb6af7954bd1839b7871b7fdc71"), looks := false }, kinds := [], alts := [], laidByText := true, laidKinds := [.data, .pinned], laidTests := true, laidLooks := .later }
def QuerierQuietUptoCardSaid : Prop := Claim7.holds Tryd.pinned (.plain (OpenSpec.upto querierQuietSpec)) querierQuietUptoCard

/-- THE SECOND FORM's CARD OF 'siphonlaw20.QuerierAsks'. -/
def querierAsksUptoCard : Claim7 := { stood := { row := querierAsksUptoRow, standIns := [], harness := (true, "321bb8b5fd1a612494f81f26a70cedcd02b89eb6af7954bd1839b7871b7fdc71"), looks := false }, kinds := [], alts := [], laidByText := true, laidKinds := [.data, .pinned], laidTests := true, laidLooks := .later }
def QuerierAsksUptoCardSaid : Prop := Claim7.holds Tryd.pinned (.plain (OpenSpec.upto querierAsksSpec)) querierAsksUptoCard

/-- THE SECOND FORM's CARD OF 'siphonlaw20.QuerierCounts'. -/
def querierCountsUptoCard : Claim7 := { stood := { row := querierCountsUptoRow, standIns := [], harness := (true, "321bb8b5fd1a612494f81f26a70cedcd02b89eb6af7954bd1839b7871b7fdc71"), looks := false }, kinds := [], alts := [], laidByText := true, laidKinds := [.data, .pinned], laidTests := true, laidLooks := .later }
def QuerierCountsUptoCardSaid : Prop := Claim7.holds Tryd.pinned (.plain (OpenSpec.upto querierCountsSpec)) querierCountsUptoCard
end Rows
end Go.Proofs.YtdpppljobikjhaaDoor
