/-
  DERIVED. GIVEN WITH THE SEED: THE CARDS: each row of YtejifhdkgfilgaaDoorRows.lean that lists a variable, with what it lists TIED to the program's text (the seventh form; the later family's looks); each row that meets fmt, with fmt's text TOLD by the authors' own Lean function (tested against real Go, not proved from fmt's source: count such statements apart). THE CARD IS WHAT COUNTS. Prove the row's statement (the work); the ties are given (YtejifhdkgfilgaaDoorTie.lean); close each card by the builder's one call (the guide's Derived/Test/ToyasCard.lean, 'card_holds'). Laid BY PROGRAM, IN A SANDBOX (cutbox-door.mjs). By AI agents, Wed Nov 11 2026. No macro, syntax, notation, axiom, sorry.
-/
import Derived.Test.YtejifhdkgfilgaaDoorRows
import GoSem.ClaimSeven
namespace Go.Proofs.YtejifhdkgfilgaaDoor
namespace Rows

/-- THE TIED CARD OF 'cablegramlaw08.OtsDigits'. -/
def otsDigitsCard : Claim7 := { stood := { row := otsDigitsRow, standIns := [], harness := (true, "5df37645366f31ade064fdfc98d06b1942c80c944c5a051205b2502478d74c39"), looks := false }, kinds := [], alts := [], laidByText := true, laidKinds := [.data, .data], laidTests := true, laidLooks := .later }
def OtsDigitsCardSaid : Prop := Claim7.holds Tryd.pinned (.plain (OpenSpec.ofChange otsDigitsSpec)) otsDigitsCard

/-- THE TIED CARD OF 'cablegramlaw08.OtsSigns'. -/
def otsSignsCard : Claim7 := { stood := { row := otsSignsRow, standIns := [], harness := (true, "5df37645366f31ade064fdfc98d06b1942c80c944c5a051205b2502478d74c39"), looks := false }, kinds := [], alts := [], laidByText := true, laidKinds := [.data, .data], laidTests := true, laidLooks := .later }
def OtsSignsCardSaid : Prop := Claim7.holds Tryd.pinned (.plain (OpenSpec.ofChange otsSignsSpec)) otsSignsCard

/-- THE TIED CARD OF 'cablegramlaw08.OtsRecovers'. -/
def otsRecoversCard : Claim7 := { stood := { row := otsRecoversRow, standIns := [], harness := (true, "5df37645366f31ade064fdfc98d06b1942c80c944c5a051205b2502478d74c39"), looks := false }, kinds := [], alts := [], laidByText := true, laidKinds := [.data, .data], laidTests := true, laidLooks := .later }
def OtsRecoversCardSaid : Prop := Claim7.holds Tryd.pinned (.plain (OpenSpec.ofChange otsRecoversSpec)) otsRecoversCard

/-- THE TIED CARD OF 'cablegramlaw08.OtsGuards'. -/
def otsGuardsCard : Claim7 := { stood := { row := otsGuardsRow, standIns := [], harness := (true, "5df37645366f31ade064fdfc98d06b1942c80c944c5a051205b2502478d74c39"), looks := false }, kinds := [], alts := [], laidByText := true, laidKinds := [.data, .data], laidTests := true, laidLooks := .later }
def OtsGuardsCardSaid : Prop := Claim7.holds Tryd.pinned (.plain (OpenSpec.ofChange otsGuardsSpec)) otsGuardsCard

/-- THE TIED CARD OF 'cablegramlaw08.OtsParts'. -/
def otsPartsCard : Claim7 := { stood := { row := otsPartsRow, standIns := [], harness := (true, "5df37645366f31ade064fdfc98d06b1942c80c944c5a051205b2502478d74c39"), looks := false }, kinds := [], alts := [], laidByText := true, laidKinds := [.data, .data], laidTests := true, laidLooks := .later }
def OtsPartsCardSaid : Prop := Claim7.holds Tryd.pinned (.plain (OpenSpec.ofChange otsPartsSpec)) otsPartsCard

/-- THE TIED CARD OF 'cablegramlaw07.LadderAgrees'. -/
def ladderAgreesCard : Claim7 := { stood := { row := ladderAgreesRow, standIns := [], harness := (true, "5df37645366f31ade064fdfc98d06b1942c80c944c5a051205b2502478d74c39"), looks := false }, kinds := [], alts := [], laidByText := true, laidKinds := [.data], laidTests := true, laidLooks := .later }
def LadderAgreesCardSaid : Prop := Claim7.holds Tryd.pinned (.plain (OpenSpec.ofChange ladderAgreesSpec)) ladderAgreesCard

/-- THE TIED CARD OF 'cablegramlaw17.SignerVerifies'. -/
def signerVerifiesCard : Claim7 := { stood := { row := signerVerifiesRow, standIns := [], harness := (true, "5df37645366f31ade064fdfc98d06b1942c80c944c5a051205b2502478d74c39"), looks := false }, kinds := [], alts := [], laidByText := true, laidKinds := [.data, .data], laidTests := true, laidLooks := .later }
def SignerVerifiesCardSaid : Prop := Claim7.holds Tryd.pinned (.plain (OpenSpec.ofChange signerVerifiesSpec)) signerVerifiesCard

/-- THE TIED CARD OF 'cablegramlaw17.SignerSigns'. -/
def signerSignsCard : Claim7 := { stood := { row := signerSignsRow, standIns := [], harness := (true, "5df37645366f31ade064fdfc98d06b1942c80c944c5a051205b2502478d74c39"), looks := false }, kinds := [], alts := [], laidByText := true, laidKinds := [.data, .data], laidTests := true, laidLooks := .later }
def SignerSignsCardSaid : Prop := Claim7.holds Tryd.pinned (.plain (OpenSpec.ofChange signerSignsSpec)) signerSignsCard

/-- THE TIED CARD OF 'cablegramlaw17.SignerGoes'. -/
def signerGoesCard : Claim7 := { stood := { row := signerGoesRow, standIns := [], harness := (true, "5df37645366f31ade064fdfc98d06b1942c80c944c5a051205b2502478d74c39"), looks := false }, kinds := [], alts := [], laidByText := true, laidKinds := [.data, .data], laidTests := true, laidLooks := .later }
def SignerGoesCardSaid : Prop := Claim7.holds Tryd.pinned (.plain (OpenSpec.ofChange signerGoesSpec)) signerGoesCard

/-- THE TIED CARD OF 'cablegramlaw05.SealOpens'. -/
def sealOpensCard : Claim7 := { stood := { row := sealOpensRow, standIns := [], harness := (true, "5df37645366f31ade064fdfc98d06b1942c80c944c5a051205b2502478d74c39"), looks := false }, kinds := [], alts := [], laidByText := true, laidKinds := [.data, .data, .widerDeep, .data], laidTests := true, laidLooks := .later }
def SealOpensCardSaid : Prop := Claim7.holds Tryd.pinned (.plain (OpenSpec.ofChange sealOpensSpec)) sealOpensCard

/-- THE TIED CARD OF 'cablegramlaw05.SealBack'. -/
def sealBackCard : Claim7 := { stood := { row := sealBackRow, standIns := [], harness := (true, "5df37645366f31ade064fdfc98d06b1942c80c944c5a051205b2502478d74c39"), looks := false }, kinds := [], alts := [], laidByText := true, laidKinds := [.data, .data, .widerDeep, .data], laidTests := true, laidLooks := .later }
def SealBackCardSaid : Prop := Claim7.holds Tryd.pinned (.plain (OpenSpec.ofChange sealBackSpec)) sealBackCard

/-- THE SECOND FORM's CARD OF 'cablegramlaw08.OtsDigits'. -/
def otsDigitsUptoCard : Claim7 := { stood := { row := otsDigitsUptoRow, standIns := [], harness := (true, "5df37645366f31ade064fdfc98d06b1942c80c944c5a051205b2502478d74c39"), looks := false }, kinds := [], alts := [], laidByText := true, laidKinds := [.data, .data], laidTests := true, laidLooks := .later }
def OtsDigitsUptoCardSaid : Prop := Claim7.holds Tryd.pinned (.plain (OpenSpec.upto otsDigitsSpec)) otsDigitsUptoCard

/-- THE SECOND FORM's CARD OF 'cablegramlaw08.OtsSigns'. -/
def otsSignsUptoCard : Claim7 := { stood := { row := otsSignsUptoRow, standIns := [], harness := (true, "5df37645366f31ade064fdfc98d06b1942c80c944c5a051205b2502478d74c39"), looks := false }, kinds := [], alts := [], laidByText := true, laidKinds := [.data, .data], laidTests := true, laidLooks := .later }
def OtsSignsUptoCardSaid : Prop := Claim7.holds Tryd.pinned (.plain (OpenSpec.upto otsSignsSpec)) otsSignsUptoCard

/-- THE SECOND FORM's CARD OF 'cablegramlaw08.OtsRecovers'. -/
def otsRecoversUptoCard : Claim7 := { stood := { row := otsRecoversUptoRow, standIns := [], harness := (true, "5df37645366f31ade064fdfc98d06b1942c80c944c5a051205b2502478d74c39"), looks := false }, kinds := [], alts := [], laidByText := true, laidKinds := [.data, .data], laidTests := true, laidLooks := .later }
def OtsRecoversUptoCardSaid : Prop := Claim7.holds Tryd.pinned (.plain (OpenSpec.upto otsRecoversSpec)) otsRecoversUptoCard

/-- THE SECOND FORM's CARD OF 'cablegramlaw08.OtsGuards'. -/
def otsGuardsUptoCard : Claim7 := { stood := { row := otsGuardsUptoRow, standIns := [], harness := (true, "5df37645366f31ade064fdfc98d06b1942c80c944c5a051205b2502478d74c39"), looks := false }, kinds := [], alts := [], laidByText := true, laidKinds := [.data, .data], laidTests := true, laidLooks := .later }
def OtsGuardsUptoCardSaid : Prop := Claim7.holds Tryd.pinned (.plain (OpenSpec.upto otsGuardsSpec)) otsGuardsUptoCard

/-- THE SECOND FORM's CARD OF 'cablegramlaw08.OtsParts'. -/
def otsPartsUptoCard : Claim7 := { stood := { row := otsPartsUptoRow, standIns := [], harness := (true, "5df37645366f31ade064fdfc98d06b1942c80c944c5a051205b2502478d74c39"), looks := false }, kinds := [], alts := [], laidByText := true, laidKinds := [.data, .data], laidTests := true, laidLooks := .later }
def OtsPartsUptoCardSaid : Prop := Claim7.holds Tryd.pinned (.plain (OpenSpec.upto otsPartsSpec)) otsPartsUptoCard

/-- THE SECOND FORM's CARD OF 'cablegramlaw07.LadderAgrees'. -/
def ladderAgreesUptoCard : Claim7 := { stood := { row := ladderAgreesUptoRow, standIns := [], harness := (true, "5df37645366f31ade064fdfc98d06b1942c80c944c5a051205b2502478d74c39"), looks := false }, kinds := [], alts := [], laidByText := true, laidKinds := [.data], laidTests := true, laidLooks := .later }
def LadderAgreesUptoCardSaid : Prop := Claim7.holds Tryd.pinned (.plain (OpenSpec.upto ladderAgreesSpec)) ladderAgreesUptoCard

/-- THE SECOND FORM's CARD OF 'cablegramlaw17.SignerVerifies'. -/
def signerVerifiesUptoCard : Claim7 := { stood := { row := signerVerifiesUptoRow, standIns := [], harness := (true, "5df37645366f31ade064fdfc98d06b1942c80c944c5a051205b2502478d74c39"), looks := false }, kinds := [], alts := [], laidByText := true, laidKinds := [.data, .data], laidTests := true, laidLooks := .later }
def SignerVerifiesUptoCardSaid : Prop := Claim7.holds Tryd.pinned (.plain (OpenSpec.upto signerVerifiesSpec)) signerVerifiesUptoCard

/-- THE SECOND FORM's CARD OF 'cablegramlaw17.SignerSigns'. -/
def signerSignsUptoCard : Claim7 := { stood := { row := signerSignsUptoRow, standIns := [], harness := (true, "5df37645366f31ade064fdfc98d06b1942c80c944c5a051205b2502478d74c39"), looks := false }, kinds := [], alts := [], laidByText := true, laidKinds := [.data, .data], laidTests := true, laidLooks := .later }
def SignerSignsUptoCardSaid : Prop := Claim7.holds Tryd.pinned (.plain (OpenSpec.upto signerSignsSpec)) signerSignsUptoCard

/-- THE SECOND FORM's CARD OF 'cablegramlaw17.SignerGoes'. -/
def signerGoesUptoCard : Claim7 := { stood := { row := signerGoesUptoRow, standIns := [], harness := (true, "5df37645366f31ade064fdfc98d06b1942c80c944c5a051205b2502478d74c39"), looks := false }, kinds := [], alts := [], laidByText := true, laidKinds := [.data, .data], laidTests := true, laidLooks := .later }
def SignerGoesUptoCardSaid : Prop := Claim7.holds Tryd.pinned (.plain (OpenSpec.upto signerGoesSpec)) signerGoesUptoCard

/-- THE SECOND FORM's CARD OF 'cablegramlaw05.SealOpens'. -/
def sealOpensUptoCard : Claim7 := { stood := { row := sealOpensUptoRow, standIns := [], harness := (true, "5df37645366f31ade064fdfc98d06b1942c80c944c5a051205b2502478d74c39"), looks := false }, kinds := [], alts := [], laidByText := true, laidKinds := [.data, .data, .widerDeep, .data], laidTests := true, laidLooks := .later }
def SealOpensUptoCardSaid : Prop := Claim7.holds Tryd.pinned (.plain (OpenSpec.upto sealOpensSpec)) sealOpensUptoCard

/-- THE SECOND FORM's CARD OF 'cablegramlaw05.SealBack'. -/
def sealBackUptoCard : Claim7 := { stood := { row := sealBackUptoRow, standIns := [], harness := (true, "5df37645366f31ade064fdfc98d06b1942c80c944c5a051205b2502478d74c39"), looks := false }, kinds := [], alts := [], laidByText := true, laidKinds := [.data, .data, .widerDeep, .data], laidTests := true, laidLooks := .later }
def SealBackUptoCardSaid : Prop := Claim7.holds Tryd.pinned (.plain (OpenSpec.upto sealBackSpec)) sealBackUptoCard
end Rows
end Go.Proofs.YtejifhdkgfilgaaDoor
