/-
  DERIVED. GIVEN WITH THE SEED: THE CARDS: each row of YtbmdhmmahmdccaaDoorRows.lean that lists a variable, with what it lists TIED to the program's text (the seventh form; the later family's looks); each row that meets fmt, with fmt's text TOLD by the authors' own Lean function (tested against real Go, not proved from fmt's source: count such statements apart). THE CARD IS WHAT COUNTS. Prove the row's statement (the work); the ties are given (YtbmdhmmahmdccaaDoorTie.lean); close each card by the builder's one call (the guide's Derived/Test/ToyasCard.lean, 'card_holds'). Laid BY PROGRAM, IN A SANDBOX (cutbox-door.mjs). By AI agents, Wed Nov 11 2026. No macro, syntax, notation, axiom, sorry.
-/
import Derived.Test.YtbmdhmmahmdccaaDoorRows
import GoSem.ClaimSeven
namespace Go.Proofs.YtbmdhmmahmdccaaDoor
namespace Rows

/-- THE TIED CARD OF 'malthouselaw08.TagsChecks'. -/
def tagsChecksCard : Claim7 := { stood := { row := tagsChecksRow, standIns := [], harness := (true, "7d36d9853ee575ce272f199c3e5a4bf59fbbd4ba1e03fdccfdc5519af0a6589b"), looks := false }, kinds := [], alts := [], laidByText := true, laidKinds := [.data, .pinned], laidTests := true, laidLooks := .later }
def TagsChecksCardSaid : Prop := Claim7.holds Tryd.pinned (.plain (OpenSpec.ofChange tagsChecksSpec)) tagsChecksCard

/-- THE TIED CARD OF 'malthouselaw08.TagsLatches'. -/
def tagsLatchesCard : Claim7 := { stood := { row := tagsLatchesRow, standIns := [], harness := (true, "7d36d9853ee575ce272f199c3e5a4bf59fbbd4ba1e03fdccfdc5519af0a6589b"), looks := false }, kinds := [], alts := [], laidByText := true, laidKinds := [.data, .pinned], laidTests := true, laidLooks := .later }
def TagsLatchesCardSaid : Prop := Claim7.holds Tryd.pinned (.plain (OpenSpec.ofChange tagsLatchesSpec)) tagsLatchesCard

/-- THE TIED CARD OF 'malthouselaw08.TagsDrives'. -/
def tagsDrivesCard : Claim7 := { stood := { row := tagsDrivesRow, standIns := [], harness := (true, "7d36d9853ee575ce272f199c3e5a4bf59fbbd4ba1e03fdccfdc5519af0a6589b"), looks := false }, kinds := [], alts := [], laidByText := true, laidKinds := [.data, .pinned], laidTests := true, laidLooks := .later }
def TagsDrivesCardSaid : Prop := Claim7.holds Tryd.pinned (.plain (OpenSpec.ofChange tagsDrivesSpec)) tagsDrivesCard

/-- THE TIED CARD OF 'malthouselaw08.TagsWithin'. -/
def tagsWithinCard : Claim7 := { stood := { row := tagsWithinRow, standIns := [], harness := (true, "7d36d9853ee575ce272f199c3e5a4bf59fbbd4ba1e03fdccfdc5519af0a6589b"), looks := false }, kinds := [], alts := [], laidByText := true, laidKinds := [.data, .pinned], laidTests := true, laidLooks := .later }
def TagsWithinCardSaid : Prop := Claim7.holds Tryd.pinned (.plain (OpenSpec.ofChange tagsWithinSpec)) tagsWithinCard

/-- THE TIED CARD OF 'malthouselaw08.TagsApart'. -/
def tagsApartCard : Claim7 := { stood := { row := tagsApartRow, standIns := [], harness := (true, "7d36d9853ee575ce272f199c3e5a4bf59fbbd4ba1e03fdccfdc5519af0a6589b"), looks := false }, kinds := [], alts := [], laidByText := true, laidKinds := [.data, .pinned], laidTests := true, laidLooks := .later }
def TagsApartCardSaid : Prop := Claim7.holds Tryd.pinned (.plain (OpenSpec.ofChange tagsApartSpec)) tagsApartCard

/-- THE TIED CARD OF 'malthouselaw08.TagsEnv'. -/
def tagsEnvCard : Claim7 := { stood := { row := tagsEnvRow, standIns := [], harness := (true, "7d36d9853ee575ce272f199c3e5a4bf59fbbd4ba1e03fdccfdc5519af0a6589b"), looks := false }, kinds := [], alts := [], laidByText := true, laidKinds := [.data, .pinned], laidTests := true, laidLooks := .later }
def TagsEnvCardSaid : Prop := Claim7.holds Tryd.pinned (.plain (OpenSpec.ofChange tagsEnvSpec)) tagsEnvCard

/-- THE SECOND FORM's CARD OF 'malthouselaw08.TagsChecks'. -/
def tagsChecksUptoCard : Claim7 := { stood := { row := tagsChecksUptoRow, standIns := [], harness := (true, "7d36d9853ee575ce272f199c3e5a4bf59fbbd4ba1e03fdccfdc5519af0a6589b"), looks := false }, kinds := [], alts := [], laidByText := true, laidKinds := [.data, .pinned], laidTests := true, laidLooks := .later }
def TagsChecksUptoCardSaid : Prop := Claim7.holds Tryd.pinned (.plain (OpenSpec.upto tagsChecksSpec)) tagsChecksUptoCard

/-- THE SECOND FORM's CARD OF 'malthouselaw08.TagsLatches'. -/
def tagsLatchesUptoCard : Claim7 := { stood := { row := tagsLatchesUptoRow, standIns := [], harness := (true, "7d36d9853ee575ce272f199c3e5a4bf59fbbd4ba1e03fdccfdc5519af0a6589b"), looks := false }, kinds := [], alts := [], laidByText := true, laidKinds := [.data, .pinned], laidTests := true, laidLooks := .later }
def TagsLatchesUptoCardSaid : Prop := Claim7.holds Tryd.pinned (.plain (OpenSpec.upto tagsLatchesSpec)) tagsLatchesUptoCard

/-- THE SECOND FORM's CARD OF 'malthouselaw08.TagsDrives'. -/
def tagsDrivesUptoCard : Claim7 := { stood := { row := tagsDrivesUptoRow, standIns := [], harness := (true, "7d36d9853ee575ce272f199c3e5a4bf59fbbd4ba1e03fdccfdc5519af0a6589b"), looks := false }, kinds := [], alts := [], laidByText := true, laidKinds := [.data, .pinned], laidTests := true, laidLooks := .later }
def TagsDrivesUptoCardSaid : Prop := Claim7.holds Tryd.pinned (.plain (OpenSpec.upto tagsDrivesSpec)) tagsDrivesUptoCard

/-- THE SECOND FORM's CARD OF 'malthouselaw08.TagsWithin'. -/
def tagsWithinUptoCard : Claim7 := { stood := { row := tagsWithinUptoRow, standIns := [], harness := (true, "7d36d9853ee575ce272f199c3e5a4bf59fbbd4ba1e03fdccfdc5519af0a6589b"), looks := false }, kinds := [], alts := [], laidByText := true, laidKinds := [.data, .pinned], laidTests := true, laidLooks := .later }
def TagsWithinUptoCardSaid : Prop := Claim7.holds Tryd.pinned (.plain (OpenSpec.upto tagsWithinSpec)) tagsWithinUptoCard

/-- THE SECOND FORM's CARD OF 'malthouselaw08.TagsApart'. -/
def tagsApartUptoCard : Claim7 := { stood := { row := tagsApartUptoRow, standIns := [], harness := (true, "7d36d9853ee575ce272f199c3e5a4bf59fbbd4ba1e03fdccfdc5519af0a6589b"), looks := false }, kinds := [], alts := [], laidByText := true, laidKinds := [.data, .pinned], laidTests := true, laidLooks := .later }
def TagsApartUptoCardSaid : Prop := Claim7.holds Tryd.pinned (.plain (OpenSpec.upto tagsApartSpec)) tagsApartUptoCard

/-- THE SECOND FORM's CARD OF 'malthouselaw08.TagsEnv'. -/
def tagsEnvUptoCard : Claim7 := { stood := { row := tagsEnvUptoRow, standIns := [], harness := (true, "7d36d9853ee575ce272f199c3e5a4bf59fbbd4ba1e03fdccfdc5519af0a6589b"), looks := false }, kinds := [], alts := [], laidByText := true, laidKinds := [.data, .pinned], laidTests := true, laidLooks := .later }
def TagsEnvUptoCardSaid : Prop := Claim7.holds Tryd.pinned (.plain (OpenSpec.upto tagsEnvSpec)) tagsEnvUptoCard
end Rows
end Go.Proofs.YtbmdhmmahmdccaaDoor
