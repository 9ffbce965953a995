/-
  DERIVED. GIVEN WITH THE SEED: THE CARDS: each row of YtlpjclglhjcghaaDoorRows.lean that lists a variable, with what it lists TIED to the program's text (the seventh form; the later family's looks); each row that meets fmt, with fmt's text TOLD by the authors' own Lean function (tested against real Go, not proved from fmt's source: count such statements apart). THE CARD IS WHAT COUNTS. Prove the row's statement (the work); the ties are given (YtlpjclglhjcghaaDoorTie.lean); close each card by the builder's one call (the guide's Derived/Test/ToyasCard.lean, 'card_holds'). Laid BY PROGRAM, IN A SANDBOX (cutbox-door.mjs). By AI agents, Wed Nov 11 2026. No macro, syntax, notation, axiom, sorry.
-/
import Derived.Test.YtlpjclglhjcghaaDoorRows
import GoSem.ClaimSeven
namespace Go.Proofs.YtlpjclglhjcghaaDoor
namespace Rows

/-- THE TIED CARD OF 'laws.FnExactReadList'. -/
def fnExactReadListCard : Claim7 := { stood := { row := fnExactReadListRow, standIns := [], harness := (true, "b07f865d952ba52fe90feb688a4c88cb25bfb6f5bb063ea2665281873445c24b"), looks := true }, kinds := [], alts := [], laidByText := true, laidKinds := [.data, .data, .data, .data, .sentinel, .sentinel, .pinned], laidTests := true, laidLooks := .later }
def FnExactReadListCardSaid : Prop := Claim7.holds Tryd.pinned (.plain (OpenSpec.ofChange fnExactReadListSpec)) fnExactReadListCard

/-- THE TIED CARD OF 'laws.FnExactReadNumbers'. -/
def fnExactReadNumbersCard : Claim7 := { stood := { row := fnExactReadNumbersRow, standIns := [], harness := (true, "b07f865d952ba52fe90feb688a4c88cb25bfb6f5bb063ea2665281873445c24b"), looks := true }, kinds := [], alts := [], laidByText := true, laidKinds := [.data, .data, .data, .data, .sentinel, .sentinel, .pinned], laidTests := true, laidLooks := .later }
def FnExactReadNumbersCardSaid : Prop := Claim7.holds Tryd.pinned (.plain (OpenSpec.ofChange fnExactReadNumbersSpec)) fnExactReadNumbersCard

/-- THE TIED CARD OF 'laws.FnExactReadComplex'. -/
def fnExactReadComplexCard : Claim7 := { stood := { row := fnExactReadComplexRow, standIns := [], harness := (true, "b07f865d952ba52fe90feb688a4c88cb25bfb6f5bb063ea2665281873445c24b"), looks := true }, kinds := [], alts := [], laidByText := true, laidKinds := [.data, .data, .data, .data, .sentinel, .sentinel, .pinned], laidTests := true, laidLooks := .later }
def FnExactReadComplexCardSaid : Prop := Claim7.holds Tryd.pinned (.plain (OpenSpec.ofChange fnExactReadComplexSpec)) fnExactReadComplexCard

/-- THE TIED CARD OF 'laws.FnExactDecimal'. -/
def fnExactDecimalCard : Claim7 := { stood := { row := fnExactDecimalRow, standIns := [], harness := (true, "b07f865d952ba52fe90feb688a4c88cb25bfb6f5bb063ea2665281873445c24b"), looks := true }, kinds := [], alts := [], laidByText := true, laidKinds := [.data, .data, .data], laidTests := true, laidLooks := .later }
def FnExactDecimalCardSaid : Prop := Claim7.holds Tryd.pinned (.plain (OpenSpec.ofChange fnExactDecimalSpec)) fnExactDecimalCard

/-- THE TIED CARD OF 'laws.FnExactIsName'. -/
def fnExactIsNameCard : Claim7 := { stood := { row := fnExactIsNameRow, standIns := [], harness := (true, "b07f865d952ba52fe90feb688a4c88cb25bfb6f5bb063ea2665281873445c24b"), looks := true }, kinds := [], alts := [], laidByText := true, laidKinds := [.data, .pinned], laidTests := true, laidLooks := .later }
def FnExactIsNameCardSaid : Prop := Claim7.holds Tryd.pinned (.plain (OpenSpec.ofChange fnExactIsNameSpec)) fnExactIsNameCard

/-- THE TIED CARD OF 'laws.FnExactListText'. -/
def fnExactListTextCard : Claim7 := { stood := { row := fnExactListTextRow, standIns := [], harness := (true, "b07f865d952ba52fe90feb688a4c88cb25bfb6f5bb063ea2665281873445c24b"), looks := true }, kinds := [], alts := [], laidByText := true, laidKinds := [.data, .data, .data], laidTests := true, laidLooks := .later }
def FnExactListTextCardSaid : Prop := Claim7.holds Tryd.pinned (.plain (OpenSpec.ofChange fnExactListTextSpec)) fnExactListTextCard

/-- THE TIED CARD OF 'laws.FnExactNumbersText'. -/
def fnExactNumbersTextCard : Claim7 := { stood := { row := fnExactNumbersTextRow, standIns := [], harness := (true, "b07f865d952ba52fe90feb688a4c88cb25bfb6f5bb063ea2665281873445c24b"), looks := true }, kinds := [], alts := [], laidByText := true, laidKinds := [.data, .data, .data], laidTests := true, laidLooks := .later }
def FnExactNumbersTextCardSaid : Prop := Claim7.holds Tryd.pinned (.plain (OpenSpec.ofChange fnExactNumbersTextSpec)) fnExactNumbersTextCard

/-- THE TIED CARD OF 'laws.FnExactReadDecimal'. -/
def fnExactReadDecimalCard : Claim7 := { stood := { row := fnExactReadDecimalRow, standIns := [], harness := (true, "b07f865d952ba52fe90feb688a4c88cb25bfb6f5bb063ea2665281873445c24b"), looks := true }, kinds := [], alts := [], laidByText := true, laidKinds := [.data, .data, .data, .sentinel, .sentinel], laidTests := true, laidLooks := .later }
def FnExactReadDecimalCardSaid : Prop := Claim7.holds Tryd.pinned (.plain (OpenSpec.ofChange fnExactReadDecimalSpec)) fnExactReadDecimalCard

/-- THE SECOND FORM's CARD OF 'laws.FnExactReadList'. -/
def fnExactReadListUptoCard : Claim7 := { stood := { row := fnExactReadListUptoRow, standIns := [], harness := (true, "b07f865d952ba52fe90feb688a4c88cb25bfb6f5bb063ea2665281873445c24b"), looks := true }, kinds := [], alts := [], laidByText := true, laidKinds := [.data, .data, .data, .data, .sentinel, .sentinel, .pinned], laidTests := true, laidLooks := .later }
def FnExactReadListUptoCardSaid : Prop := Claim7.holds Tryd.pinned (.plain (OpenSpec.upto fnExactReadListSpec)) fnExactReadListUptoCard

/-- THE SECOND FORM's CARD OF 'laws.FnExactReadNumbers'. -/
def fnExactReadNumbersUptoCard : Claim7 := { stood := { row := fnExactReadNumbersUptoRow, standIns := [], harness := (true, "b07f865d952ba52fe90feb688a4c88cb25bfb6f5bb063ea2665281873445c24b"), looks := true }, kinds := [], alts := [], laidByText := true, laidKinds := [.data, .data, .data, .data, .sentinel, .sentinel, .pinned], laidTests := true, laidLooks := .later }
def FnExactReadNumbersUptoCardSaid : Prop := Claim7.holds Tryd.pinned (.plain (OpenSpec.upto fnExactReadNumbersSpec)) fnExactReadNumbersUptoCard

/-- THE SECOND FORM's CARD OF 'laws.FnExactReadComplex'. -/
def fnExactReadComplexUptoCard : Claim7 := { stood := { row := fnExactReadComplexUptoRow, standIns := [], harness := (true, "b07f865d952ba52fe90feb688a4c88cb25bfb6f5bb063ea2665281873445c24b"), looks := true }, kinds := [], alts := [], laidByText := true, laidKinds := [.data, .data, .data, .data, .sentinel, .sentinel, .pinned], laidTests := true, laidLooks := .later }
def FnExactReadComplexUptoCardSaid : Prop := Claim7.holds Tryd.pinned (.plain (OpenSpec.upto fnExactReadComplexSpec)) fnExactReadComplexUptoCard

/-- THE SECOND FORM's CARD OF 'laws.FnExactDecimal'. -/
def fnExactDecimalUptoCard : Claim7 := { stood := { row := fnExactDecimalUptoRow, standIns := [], harness := (true, "b07f865d952ba52fe90feb688a4c88cb25bfb6f5bb063ea2665281873445c24b"), looks := true }, kinds := [], alts := [], laidByText := true, laidKinds := [.data, .data, .data], laidTests := true, laidLooks := .later }
def FnExactDecimalUptoCardSaid : Prop := Claim7.holds Tryd.pinned (.plain (OpenSpec.upto fnExactDecimalSpec)) fnExactDecimalUptoCard

/-- THE SECOND FORM's CARD OF 'laws.FnExactIsName'. -/
def fnExactIsNameUptoCard : Claim7 := { stood := { row := fnExactIsNameUptoRow, standIns := [], harness := (true, "b07f865d952ba52fe90feb688a4c88cb25bfb6f5bb063ea2665281873445c24b"), looks := true }, kinds := [], alts := [], laidByText := true, laidKinds := [.data, .pinned], laidTests := true, laidLooks := .later }
def FnExactIsNameUptoCardSaid : Prop := Claim7.holds Tryd.pinned (.plain (OpenSpec.upto fnExactIsNameSpec)) fnExactIsNameUptoCard

/-- THE SECOND FORM's CARD OF 'laws.FnExactListText'. -/
def fnExactListTextUptoCard : Claim7 := { stood := { row := fnExactListTextUptoRow, standIns := [], harness := (true, "b07f865d952ba52fe90feb688a4c88cb25bfb6f5bb063ea2665281873445c24b"), looks := true }, kinds := [], alts := [], laidByText := true, laidKinds := [.data, .data, .data], laidTests := true, laidLooks := .later }
def FnExactListTextUptoCardSaid : Prop := Claim7.holds Tryd.pinned (.plain (OpenSpec.upto fnExactListTextSpec)) fnExactListTextUptoCard

/-- THE SECOND FORM's CARD OF 'laws.FnExactNumbersText'. -/
def fnExactNumbersTextUptoCard : Claim7 := { stood := { row := fnExactNumbersTextUptoRow, standIns := [], harness := (true, "b07f865d952ba52fe90feb688a4c88cb25bfb6f5bb063ea2665281873445c24b"), looks := true }, kinds := [], alts := [], laidByText := true, laidKinds := [.data, .data, .data], laidTests := true, laidLooks := .later }
def FnExactNumbersTextUptoCardSaid : Prop := Claim7.holds Tryd.pinned (.plain (OpenSpec.upto fnExactNumbersTextSpec)) fnExactNumbersTextUptoCard

/-- THE SECOND FORM's CARD OF 'laws.FnExactReadDecimal'. -/
def fnExactReadDecimalUptoCard : Claim7 := { stood := { row := fnExactReadDecimalUptoRow, standIns := [], harness := (true, "b07f865d952ba52fe90feb688a4c88cb25bfb6f5bb063ea2665281873445c24b"), looks := true }, kinds := [], alts := [], laidByText := true, laidKinds := [.data, .data, .data, .sentinel, .sentinel], laidTests := true, laidLooks := .later }
def FnExactReadDecimalUptoCardSaid : Prop := Claim7.holds Tryd.pinned (.plain (OpenSpec.upto fnExactReadDecimalSpec)) fnExactReadDecimalUptoCard
end Rows
end Go.Proofs.YtlpjclglhjcghaaDoor
