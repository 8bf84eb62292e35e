/-
  DERIVED. GIVEN WITH THE SEED: THE CARDS: each row of YtjhmghcfhgajcaaDoorRows.lean that lists a variable, with what it lists TIED to the program's text (the seventh form; the later family's looks); each row that meets fmt, with fmt's text TOLD by the authors' own Lean function (tested against real Go, not proved from fmt's source: count such statements apart). THE CARD IS WHAT COUNTS. Prove the row's statement (the work); the ties are given (YtjhmghcfhgajcaaDoorTie.lean); close each card by the builder's one call (the guide's Derived/Test/ToyasCard.lean, 'card_holds'). Laid BY PROGRAM, IN A SANDBOX (cutbox-door.mjs). By AI agents, Wed Nov 11 2026. No macro, syntax, notation, axiom, sorry.
-/
import Derived.Test.YtjhmghcfhgajcaaDoorRows
import GoSem.ClaimSeven
namespace Go.Proofs.YtjhmghcfhgajcaaDoor
namespace Rows

/-- THE TIED CARD OF 'selionlaw04.DescGrows'. -/
def descGrowsCard : Claim7 := { stood := { row := descGrowsRow, standIns := [], harness := (true, "eb42d139e7d5dd8843cbe3893ce7985c6f7127ea1c5c429001df4284887abde7"), looks := true }, kinds := [], alts := [], laidByText := true, laidKinds := [.data, .data, .data, .data, .handle, .sentinel, .sentinel, .sentinel, .pinned], laidTests := true, laidLooks := .later }
def DescGrowsCardSaid : Prop := Claim7.holds Tryd.pinned (.plain (OpenSpec.ofChange descGrowsSpec)) descGrowsCard

/-- THE TIED CARD OF 'selionlaw04.DescFields'. -/
def descFieldsCard : Claim7 := { stood := { row := descFieldsRow, standIns := [], harness := (true, "eb42d139e7d5dd8843cbe3893ce7985c6f7127ea1c5c429001df4284887abde7"), looks := true }, kinds := [], alts := [], laidByText := true, laidKinds := [.data, .data, .data, .data, .handle, .sentinel, .sentinel, .sentinel, .pinned], laidTests := true, laidLooks := .later }
def DescFieldsCardSaid : Prop := Claim7.holds Tryd.pinned (.plain (OpenSpec.ofChange descFieldsSpec)) descFieldsCard

/-- THE TIED CARD OF 'selionlaw04.DescBack'. -/
def descBackCard : Claim7 := { stood := { row := descBackRow, standIns := [], harness := (true, "eb42d139e7d5dd8843cbe3893ce7985c6f7127ea1c5c429001df4284887abde7"), looks := true }, kinds := [], alts := [], laidByText := true, laidKinds := [.data, .data, .data, .data, .handle, .sentinel, .sentinel, .sentinel, .pinned], laidTests := true, laidLooks := .later }
def DescBackCardSaid : Prop := Claim7.holds Tryd.pinned (.plain (OpenSpec.ofChange descBackSpec)) descBackCard

/-- THE TIED CARD OF 'selionlaw05.KindsAll'. -/
def kindsAllCard : Claim7 := { stood := { row := kindsAllRow, standIns := [], harness := (true, "eb42d139e7d5dd8843cbe3893ce7985c6f7127ea1c5c429001df4284887abde7"), looks := true }, kinds := [], alts := [], laidByText := true, laidKinds := [.data, .data, .data, .data, .handle, .pinned], laidTests := true, laidLooks := .later }
def KindsAllCardSaid : Prop := Claim7.holds Tryd.pinned (.plain (OpenSpec.ofChange kindsAllSpec)) kindsAllCard

/-- THE TIED CARD OF 'selionlaw05.KindsKeeps'. -/
def kindsKeepsCard : Claim7 := { stood := { row := kindsKeepsRow, standIns := [], harness := (true, "eb42d139e7d5dd8843cbe3893ce7985c6f7127ea1c5c429001df4284887abde7"), looks := true }, kinds := [], alts := [], laidByText := true, laidKinds := [.data, .data, .data, .data, .handle, .pinned], laidTests := true, laidLooks := .later }
def KindsKeepsCardSaid : Prop := Claim7.holds Tryd.pinned (.plain (OpenSpec.ofChange kindsKeepsSpec)) kindsKeepsCard

/-- THE TIED CARD OF 'selionlaw05.KindsBack'. -/
def kindsBackCard : Claim7 := { stood := { row := kindsBackRow, standIns := [], harness := (true, "eb42d139e7d5dd8843cbe3893ce7985c6f7127ea1c5c429001df4284887abde7"), looks := true }, kinds := [], alts := [], laidByText := true, laidKinds := [.data, .data, .data, .data, .handle, .pinned], laidTests := true, laidLooks := .later }
def KindsBackCardSaid : Prop := Claim7.holds Tryd.pinned (.plain (OpenSpec.ofChange kindsBackSpec)) kindsBackCard

/-- THE TIED CARD OF 'selionlaw05.KindsOne'. -/
def kindsOneCard : Claim7 := { stood := { row := kindsOneRow, standIns := [], harness := (true, "eb42d139e7d5dd8843cbe3893ce7985c6f7127ea1c5c429001df4284887abde7"), looks := true }, kinds := [], alts := [], laidByText := true, laidKinds := [.data, .data, .data, .data, .handle, .pinned], laidTests := true, laidLooks := .later }
def KindsOneCardSaid : Prop := Claim7.holds Tryd.pinned (.plain (OpenSpec.ofChange kindsOneSpec)) kindsOneCard

/-- THE SECOND FORM's CARD OF 'selionlaw04.DescGrows'. -/
def descGrowsUptoCard : Claim7 := { stood := { row := descGrowsUptoRow, standIns := [], harness := (true, "eb42d139e7d5dd8843cbe3893ce7985c6f7127ea1c5c429001df4284887abde7"), looks := true }, kinds := [], alts := [], laidByText := true, laidKinds := [.data, .data, .data, .data, .handle, .sentinel, .sentinel, .sentinel, .pinned], laidTests := true, laidLooks := .later }
def DescGrowsUptoCardSaid : Prop := Claim7.holds Tryd.pinned (.plain (OpenSpec.upto descGrowsSpec)) descGrowsUptoCard

/-- THE SECOND FORM's CARD OF 'selionlaw04.DescFields'. -/
def descFieldsUptoCard : Claim7 := { stood := { row := descFieldsUptoRow, standIns := [], harness := (true, "eb42d139e7d5dd8843cbe3893ce7985c6f7127ea1c5c429001df4284887abde7"), looks := true }, kinds := [], alts := [], laidByText := true, laidKinds := [.data, .data, .data, .data, .handle, .sentinel, .sentinel, .sentinel, .pinned], laidTests := true, laidLooks := .later }
def DescFieldsUptoCardSaid : Prop := Claim7.holds Tryd.pinned (.plain (OpenSpec.upto descFieldsSpec)) descFieldsUptoCard

/-- THE SECOND FORM's CARD OF 'selionlaw04.DescBack'. -/
def descBackUptoCard : Claim7 := { stood := { row := descBackUptoRow, standIns := [], harness := (true, "eb42d139e7d5dd8843cbe3893ce7985c6f7127ea1c5c429001df4284887abde7"), looks := true }, kinds := [], alts := [], laidByText := true, laidKinds := [.data, .data, .data, .data, .handle, .sentinel, .sentinel, .sentinel, .pinned], laidTests := true, laidLooks := .later }
def DescBackUptoCardSaid : Prop := Claim7.holds Tryd.pinned (.plain (OpenSpec.upto descBackSpec)) descBackUptoCard

/-- THE SECOND FORM's CARD OF 'selionlaw05.KindsAll'. -/
def kindsAllUptoCard : Claim7 := { stood := { row := kindsAllUptoRow, standIns := [], harness := (true, "eb42d139e7d5dd8843cbe3893ce7985c6f7127ea1c5c429001df4284887abde7"), looks := true }, kinds := [], alts := [], laidByText := true, laidKinds := [.data, .data, .data, .data, .handle, .pinned], laidTests := true, laidLooks := .later }
def KindsAllUptoCardSaid : Prop := Claim7.holds Tryd.pinned (.plain (OpenSpec.upto kindsAllSpec)) kindsAllUptoCard

/-- THE SECOND FORM's CARD OF 'selionlaw05.KindsKeeps'. -/
def kindsKeepsUptoCard : Claim7 := { stood := { row := kindsKeepsUptoRow, standIns := [], harness := (true, "eb42d139e7d5dd8843cbe3893ce7985c6f7127ea1c5c429001df4284887abde7"), looks := true }, kinds := [], alts := [], laidByText := true, laidKinds := [.data, .data, .data, .data, .handle, .pinned], laidTests := true, laidLooks := .later }
def KindsKeepsUptoCardSaid : Prop := Claim7.holds Tryd.pinned (.plain (OpenSpec.upto kindsKeepsSpec)) kindsKeepsUptoCard

/-- THE SECOND FORM's CARD OF 'selionlaw05.KindsBack'. -/
def kindsBackUptoCard : Claim7 := { stood := { row := kindsBackUptoRow, standIns := [], harness := (true, "eb42d139e7d5dd8843cbe3893ce7985c6f7127ea1c5c429001df4284887abde7"), looks := true }, kinds := [], alts := [], laidByText := true, laidKinds := [.data, .data, .data, .data, .handle, .pinned], laidTests := true, laidLooks := .later }
def KindsBackUptoCardSaid : Prop := Claim7.holds Tryd.pinned (.plain (OpenSpec.upto kindsBackSpec)) kindsBackUptoCard

/-- THE SECOND FORM's CARD OF 'selionlaw05.KindsOne'. -/
def kindsOneUptoCard : Claim7 := { stood := { row := kindsOneUptoRow, standIns := [], harness := (true, "eb42d139e7d5dd8843cbe3893ce7985c6f7127ea1c5c429001df4284887abde7"), looks := true }, kinds := [], alts := [], laidByText := true, laidKinds := [.data, .data, .data, .data, .handle, .pinned], laidTests := true, laidLooks := .later }
def KindsOneUptoCardSaid : Prop := Claim7.holds Tryd.pinned (.plain (OpenSpec.upto kindsOneSpec)) kindsOneUptoCard
end Rows
end Go.Proofs.YtjhmghcfhgajcaaDoor
