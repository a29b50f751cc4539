/-
  DERIVED. GIVEN WITH THE SEED: THE CARDS: each row of YtdffbaikdibalaaDoorRows.lean that lists a variable, with what it lists TIED to the program's text (the seventh form; the later family's looks); each row that meets fmt, with fmt's text TOLD by the authors' own Lean function (tested against real Go, not proved from fmt's source: count such statements apart). THE CARD IS WHAT COUNTS. Prove the row's statement (the work); the ties are given (YtdffbaikdibalaaDoorTie.lean); close each card by the builder's one call (the guide's Derived/Test/ToyasCard.lean, 'card_holds'). Laid BY PROGRAM, IN A SANDBOX (cutbox-door.mjs). By AI agents, Wed Nov 11 2026. No macro, syntax, notation, axiom, sorry.
-/
import Derived.Test.YtdffbaikdibalaaDoorRows
import GoSem.ClaimSeven
namespace Go.Proofs.YtdffbaikdibalaaDoor
namespace Rows

/-- THE TIED CARD OF 'casementlaw07.TokJoins'. -/
def tokJoinsCard : Claim7 := { stood := { row := tokJoinsRow, standIns := [], harness := (true, "9a513f6d3091ed19dba437ccc4199e9f099835a817610f491614589132b74c70"), looks := true }, kinds := [], alts := [], laidByText := true, laidKinds := [.data, .data, .data, .sentinel, .sentinel], laidTests := true, laidLooks := .later }
def TokJoinsCardSaid : Prop := Claim7.holds Tryd.pinned (.plain (OpenSpec.ofChange tokJoinsSpec)) tokJoinsCard

/-- THE TIED CARD OF 'casementlaw07.TokMakes'. -/
def tokMakesCard : Claim7 := { stood := { row := tokMakesRow, standIns := [], harness := (true, "9a513f6d3091ed19dba437ccc4199e9f099835a817610f491614589132b74c70"), looks := true }, kinds := [], alts := [], laidByText := true, laidKinds := [.data, .data, .data, .sentinel, .sentinel], laidTests := true, laidLooks := .later }
def TokMakesCardSaid : Prop := Claim7.holds Tryd.pinned (.plain (OpenSpec.ofChange tokMakesSpec)) tokMakesCard

/-- THE TIED CARD OF 'casementlaw07.TokWords'. -/
def tokWordsCard : Claim7 := { stood := { row := tokWordsRow, standIns := [], harness := (true, "9a513f6d3091ed19dba437ccc4199e9f099835a817610f491614589132b74c70"), looks := true }, kinds := [], alts := [], laidByText := true, laidKinds := [.data, .data, .data, .sentinel, .sentinel], laidTests := true, laidLooks := .later }
def TokWordsCardSaid : Prop := Claim7.holds Tryd.pinned (.plain (OpenSpec.ofChange tokWordsSpec)) tokWordsCard

/-- THE SECOND FORM's CARD OF 'casementlaw07.TokJoins'. -/
def tokJoinsUptoCard : Claim7 := { stood := { row := tokJoinsUptoRow, standIns := [], harness := (true, "9a513f6d3091ed19dba437ccc4199e9f099835a817610f491614589132b74c70"), looks := true }, kinds := [], alts := [], laidByText := true, laidKinds := [.data, .data, .data, .sentinel, .sentinel], laidTests := true, laidLooks := .later }
def TokJoinsUptoCardSaid : Prop := Claim7.holds Tryd.pinned (.plain (OpenSpec.upto tokJoinsSpec)) tokJoinsUptoCard

/-- THE SECOND FORM's CARD OF 'casementlaw07.TokMakes'. -/
def tokMakesUptoCard : Claim7 := { stood := { row := tokMakesUptoRow, standIns := [], harness := (true, "9a513f6d3091ed19dba437ccc4199e9f099835a817610f491614589132b74c70"), looks := true }, kinds := [], alts := [], laidByText := true, laidKinds := [.data, .data, .data, .sentinel, .sentinel], laidTests := true, laidLooks := .later }
def TokMakesUptoCardSaid : Prop := Claim7.holds Tryd.pinned (.plain (OpenSpec.upto tokMakesSpec)) tokMakesUptoCard

/-- THE SECOND FORM's CARD OF 'casementlaw07.TokWords'. -/
def tokWordsUptoCard : Claim7 := { stood := { row := tokWordsUptoRow, standIns := [], harness := (true, "9a513f6d3091ed19dba437ccc4199e9f099835a817610f491614589132b74c70"), looks := true }, kinds := [], alts := [], laidByText := true, laidKinds := [.data, .data, .data, .sentinel, .sentinel], laidTests := true, laidLooks := .later }
def TokWordsUptoCardSaid : Prop := Claim7.holds Tryd.pinned (.plain (OpenSpec.upto tokWordsSpec)) tokWordsUptoCard
end Rows
end Go.Proofs.YtdffbaikdibalaaDoor
