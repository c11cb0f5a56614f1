/-
  DERIVED. GIVEN WITH THE SEED: THE CARDS: each row of YtlpgpggaagfdnaaDoorRows.lean that lists a variable, with what it lists TIED to the program's text (the seventh form; the later family's looks); each row that meets fmt, with fmt's text TOLD by the authors' own Lean function (tested against real Go, not proved from fmt's source: count such statements apart). THE CARD IS WHAT COUNTS. Prove the row's statement (the work); the ties are given (YtlpgpggaagfdnaaDoorTie.lean); close each card by the builder's one call (the guide's Derived/Test/ToyasCard.lean, 'card_holds'). Laid BY PROGRAM, IN A SANDBOX (cutbox-door.mjs). By AI agents, Wed Nov 11 2026. No macro, syntax, notation, axiom, sorry.
-/
import Derived.Test.YtlpgpggaagfdnaaDoorRows
import GoSem.ClaimSeven
namespace Go.Proofs.YtlpgpggaagfdnaaDoor
namespace Rows

/-- THE TIED CARD OF 'leatlaw03.CrcSums'. -/
def crcSumsCard : Claim7 := { stood := { row := crcSumsRow, standIns := [], harness := (true, "13185f895573903445cd7951f1f32a686a1ce366f554d69c89cc280b21b6bb02"), looks := false }, kinds := [], alts := [], laidByText := true, laidKinds := [.data], laidTests := true, laidLooks := .later }
def CrcSumsCardSaid : Prop := Claim7.holds Tryd.pinned (.plain (OpenSpec.ofChange crcSumsSpec)) crcSumsCard

/-- THE TIED CARD OF 'leatlaw03.CrcTells'. -/
def crcTellsCard : Claim7 := { stood := { row := crcTellsRow, standIns := [], harness := (true, "13185f895573903445cd7951f1f32a686a1ce366f554d69c89cc280b21b6bb02"), looks := false }, kinds := [], alts := [], laidByText := true, laidKinds := [.data], laidTests := true, laidLooks := .later }
def CrcTellsCardSaid : Prop := Claim7.holds Tryd.pinned (.plain (OpenSpec.ofChange crcTellsSpec)) crcTellsCard

/-- THE TIED CARD OF 'leatlaw03.CrcMixes'. -/
def crcMixesCard : Claim7 := { stood := { row := crcMixesRow, standIns := [], harness := (true, "13185f895573903445cd7951f1f32a686a1ce366f554d69c89cc280b21b6bb02"), looks := false }, kinds := [], alts := [], laidByText := true, laidKinds := [.data], laidTests := true, laidLooks := .later }
def CrcMixesCardSaid : Prop := Claim7.holds Tryd.pinned (.plain (OpenSpec.ofChange crcMixesSpec)) crcMixesCard

/-- THE TIED CARD OF 'leatlaw03.CrcRows'. -/
def crcRowsCard : Claim7 := { stood := { row := crcRowsRow, standIns := [], harness := (true, "13185f895573903445cd7951f1f32a686a1ce366f554d69c89cc280b21b6bb02"), looks := false }, kinds := [], alts := [], laidByText := true, laidKinds := [.data], laidTests := true, laidLooks := .later }
def CrcRowsCardSaid : Prop := Claim7.holds Tryd.pinned (.plain (OpenSpec.ofChange crcRowsSpec)) crcRowsCard

/-- THE TIED CARD OF 'leatlaw03.CrcTails'. -/
def crcTailsCard : Claim7 := { stood := { row := crcTailsRow, standIns := [], harness := (true, "13185f895573903445cd7951f1f32a686a1ce366f554d69c89cc280b21b6bb02"), looks := false }, kinds := [], alts := [], laidByText := true, laidKinds := [.data], laidTests := true, laidLooks := .later }
def CrcTailsCardSaid : Prop := Claim7.holds Tryd.pinned (.plain (OpenSpec.ofChange crcTailsSpec)) crcTailsCard

/-- THE TIED CARD OF 'leatlaw03.CrcLinks'. -/
def crcLinksCard : Claim7 := { stood := { row := crcLinksRow, standIns := [], harness := (true, "13185f895573903445cd7951f1f32a686a1ce366f554d69c89cc280b21b6bb02"), looks := false }, kinds := [], alts := [], laidByText := true, laidKinds := [.data], laidTests := true, laidLooks := .later }
def CrcLinksCardSaid : Prop := Claim7.holds Tryd.pinned (.plain (OpenSpec.ofChange crcLinksSpec)) crcLinksCard

/-- THE TIED CARD OF 'leatlaw03.CrcShifts'. -/
def crcShiftsCard : Claim7 := { stood := { row := crcShiftsRow, standIns := [], harness := (true, "13185f895573903445cd7951f1f32a686a1ce366f554d69c89cc280b21b6bb02"), looks := false }, kinds := [], alts := [], laidByText := true, laidKinds := [.data], laidTests := true, laidLooks := .later }
def CrcShiftsCardSaid : Prop := Claim7.holds Tryd.pinned (.plain (OpenSpec.ofChange crcShiftsSpec)) crcShiftsCard

/-- THE SECOND FORM's CARD OF 'leatlaw03.CrcSums'. -/
def crcSumsUptoCard : Claim7 := { stood := { row := crcSumsUptoRow, standIns := [], harness := (true, "13185f895573903445cd7951f1f32a686a1ce366f554d69c89cc280b21b6bb02"), looks := false }, kinds := [], alts := [], laidByText := true, laidKinds := [.data], laidTests := true, laidLooks := .later }
def CrcSumsUptoCardSaid : Prop := Claim7.holds Tryd.pinned (.plain (OpenSpec.upto crcSumsSpec)) crcSumsUptoCard

/-- THE SECOND FORM's CARD OF 'leatlaw03.CrcTells'. -/
def crcTellsUptoCard : Claim7 := { stood := { row := crcTellsUptoRow, standIns := [], harness := (true, "13185f895573903445cd7951f1f32a686a1ce366f554d69c89cc280b21b6bb02"), looks := false }, kinds := [], alts := [], laidByText := true, laidKinds := [.data], laidTests := true, laidLooks := .later }
def CrcTellsUptoCardSaid : Prop := Claim7.holds Tryd.pinned (.plain (OpenSpec.upto crcTellsSpec)) crcTellsUptoCard

/-- THE SECOND FORM's CARD OF 'leatlaw03.CrcMixes'. -/
def crcMixesUptoCard : Claim7 := { stood := { row := crcMixesUptoRow, standIns := [], harness := (true, "13185f895573903445cd7951f1f32a686a1ce366f554d69c89cc280b21b6bb02"), looks := false }, kinds := [], alts := [], laidByText := true, laidKinds := [.data], laidTests := true, laidLooks := .later }
def CrcMixesUptoCardSaid : Prop := Claim7.holds Tryd.pinned (.plain (OpenSpec.upto crcMixesSpec)) crcMixesUptoCard

/-- THE SECOND FORM's CARD OF 'leatlaw03.CrcRows'. -/
def crcRowsUptoCard : Claim7 := { stood := { row := crcRowsUptoRow, standIns := [], harness := (true, "13185f895573903445cd7951f1f32a686a1ce366f554d69c89cc280b21b6bb02"), looks := false }, kinds := [], alts := [], laidByText := true, laidKinds := [.data], laidTests := true, laidLooks := .later }
def CrcRowsUptoCardSaid : Prop := Claim7.holds Tryd.pinned (.plain (OpenSpec.upto crcRowsSpec)) crcRowsUptoCard

/-- THE SECOND FORM's CARD OF 'leatlaw03.CrcTails'. -/
def crcTailsUptoCard : Claim7 := { stood := { row := crcTailsUptoRow, standIns := [], harness := (true, "13185f895573903445cd7951f1f32a686a1ce366f554d69c89cc280b21b6bb02"), looks := false }, kinds := [], alts := [], laidByText := true, laidKinds := [.data], laidTests := true, laidLooks := .later }
def CrcTailsUptoCardSaid : Prop := Claim7.holds Tryd.pinned (.plain (OpenSpec.upto crcTailsSpec)) crcTailsUptoCard

/-- THE SECOND FORM's CARD OF 'leatlaw03.CrcLinks'. -/
def crcLinksUptoCard : Claim7 := { stood := { row := crcLinksUptoRow, standIns := [], harness := (true, "13185f895573903445cd7951f1f32a686a1ce366f554d69c89cc280b21b6bb02"), looks := false }, kinds := [], alts := [], laidByText := true, laidKinds := [.data], laidTests := true, laidLooks := .later }
def CrcLinksUptoCardSaid : Prop := Claim7.holds Tryd.pinned (.plain (OpenSpec.upto crcLinksSpec)) crcLinksUptoCard

/-- THE SECOND FORM's CARD OF 'leatlaw03.CrcShifts'. -/
def crcShiftsUptoCard : Claim7 := { stood := { row := crcShiftsUptoRow, standIns := [], harness := (true, "13185f895573903445cd7951f1f32a686a1ce366f554d69c89cc280b21b6bb02"), looks := false }, kinds := [], alts := [], laidByText := true, laidKinds := [.data], laidTests := true, laidLooks := .later }
def CrcShiftsUptoCardSaid : Prop := Claim7.holds Tryd.pinned (.plain (OpenSpec.upto crcShiftsSpec)) crcShiftsUptoCard
end Rows
end Go.Proofs.YtlpgpggaagfdnaaDoor
