/-
  DERIVED. GIVEN WITH THE SEED: THE PROGRAM's TIES (one call each: nine closed facts by the kernel) AND EACH ROW's TIE, after the 31st guide's Derived/Test/Toyas{Tie, Card}.lean. No idea stands in it: it is a product of the set-up. Laid BY PROGRAM, IN A SANDBOX (cutbox-door.mjs). By AI agents, Wed Nov 11 2026. No macro, syntax, notation, axiom, sorry.
-/
import Derived.Test.YtejifhdkgfilgaaDoorRows
import Derived.LaidByTextLater
import Derived.SevenTiedAt
import Derived.LaidSub
import Derived.LaidOnce
namespace Go.Proofs.YtejifhdkgfilgaaDoor
open Go
set_option maxRecDepth 100000
theorem seatTie1 : Tryd.prog.laidByTextLater [("cablegram/field.four", Rows.laid_cablegram_field_four), ("cablegram/sha.rounds", Rows.laid_cablegram_sha_rounds), ("cablegram/sha.start", Rows.laid_cablegram_sha_start), ("cablegram/stream.start", Rows.laid_cablegram_stream_start), ("cablegram/stream.quarters", Rows.laid_cablegram_stream_quarters)] [.data, .data, .data, .widerDeep, .data] true :=
  Program.laidByTextLater_by_one 42 8 65 (by kernel_rfl) (by kernel_rfl) (by kernel_rfl) (by kernel_rfl) (by kernel_rfl) (by kernel_rfl) (fun _ _ => by kernel_rfl)
theorem noOwnUnsafe : Tryd.pinned.checked.prog.headLifts.contains "ownunsafe" = false := by kernel_rfl
theorem tie : Tryd.prog.laidByTextLater [("cablegram/sha.rounds", Rows.laid_cablegram_sha_rounds), ("cablegram/sha.start", Rows.laid_cablegram_sha_start)] [.data, .data] true :=
  Program.laidByTextLater.sub seatTie1 ["cablegram/sha.rounds", "cablegram/sha.start"] (by kernel_rfl) (by kernel_rfl)
theorem otsDigits_row_tie : Rows.otsDigitsRow.laidByTextAt .later Tryd.pinned [.data, .data] true :=
  OpenClaim.laidByTextAt_later rfl rfl tie noOwnUnsafe
theorem otsSigns_row_tie : Rows.otsSignsRow.laidByTextAt .later Tryd.pinned [.data, .data] true :=
  OpenClaim.laidByTextAt_later rfl rfl tie noOwnUnsafe
theorem otsRecovers_row_tie : Rows.otsRecoversRow.laidByTextAt .later Tryd.pinned [.data, .data] true :=
  OpenClaim.laidByTextAt_later rfl rfl tie noOwnUnsafe
theorem otsGuards_row_tie : Rows.otsGuardsRow.laidByTextAt .later Tryd.pinned [.data, .data] true :=
  OpenClaim.laidByTextAt_later rfl rfl tie noOwnUnsafe
theorem otsParts_row_tie : Rows.otsPartsRow.laidByTextAt .later Tryd.pinned [.data, .data] true :=
  OpenClaim.laidByTextAt_later rfl rfl tie noOwnUnsafe
theorem signerVerifies_row_tie : Rows.signerVerifiesRow.laidByTextAt .later Tryd.pinned [.data, .data] true :=
  OpenClaim.laidByTextAt_later rfl rfl tie noOwnUnsafe
theorem signerSigns_row_tie : Rows.signerSignsRow.laidByTextAt .later Tryd.pinned [.data, .data] true :=
  OpenClaim.laidByTextAt_later rfl rfl tie noOwnUnsafe
theorem signerGoes_row_tie : Rows.signerGoesRow.laidByTextAt .later Tryd.pinned [.data, .data] true :=
  OpenClaim.laidByTextAt_later rfl rfl tie noOwnUnsafe
theorem tie2 : Tryd.prog.laidByTextLater [("cablegram/field.four", Rows.laid_cablegram_field_four)] [.data] true :=
  Program.laidByTextLater.sub seatTie1 ["cablegram/field.four"] (by kernel_rfl) (by kernel_rfl)
theorem ladderAgrees_row_tie : Rows.ladderAgreesRow.laidByTextAt .later Tryd.pinned [.data] true :=
  OpenClaim.laidByTextAt_later rfl rfl tie2 noOwnUnsafe
theorem tie3 : Tryd.prog.laidByTextLater [("cablegram/sha.rounds", Rows.laid_cablegram_sha_rounds), ("cablegram/sha.start", Rows.laid_cablegram_sha_start), ("cablegram/stream.start", Rows.laid_cablegram_stream_start), ("cablegram/stream.quarters", Rows.laid_cablegram_stream_quarters)] [.data, .data, .widerDeep, .data] true :=
  Program.laidByTextLater.sub seatTie1 ["cablegram/sha.rounds", "cablegram/sha.start", "cablegram/stream.start", "cablegram/stream.quarters"] (by kernel_rfl) (by kernel_rfl)
theorem sealOpens_row_tie : Rows.sealOpensRow.laidByTextAt .later Tryd.pinned [.data, .data, .widerDeep, .data] true :=
  OpenClaim.laidByTextAt_later rfl rfl tie3 noOwnUnsafe
theorem sealBack_row_tie : Rows.sealBackRow.laidByTextAt .later Tryd.pinned [.data, .data, .widerDeep, .data] true :=
  OpenClaim.laidByTextAt_later rfl rfl tie3 noOwnUnsafe
theorem otsDigitsUpto_row_tie : Rows.otsDigitsUptoRow.laidByTextAt .later Tryd.pinned [.data, .data] true :=
  OpenClaim.laidByTextAt_later rfl rfl tie noOwnUnsafe
theorem otsSignsUpto_row_tie : Rows.otsSignsUptoRow.laidByTextAt .later Tryd.pinned [.data, .data] true :=
  OpenClaim.laidByTextAt_later rfl rfl tie noOwnUnsafe
theorem otsRecoversUpto_row_tie : Rows.otsRecoversUptoRow.laidByTextAt .later Tryd.pinned [.data, .data] true :=
  OpenClaim.laidByTextAt_later rfl rfl tie noOwnUnsafe
theorem otsGuardsUpto_row_tie : Rows.otsGuardsUptoRow.laidByTextAt .later Tryd.pinned [.data, .data] true :=
  OpenClaim.laidByTextAt_later rfl rfl tie noOwnUnsafe
theorem otsPartsUpto_row_tie : Rows.otsPartsUptoRow.laidByTextAt .later Tryd.pinned [.data, .data] true :=
  OpenClaim.laidByTextAt_later rfl rfl tie noOwnUnsafe
theorem ladderAgreesUpto_row_tie : Rows.ladderAgreesUptoRow.laidByTextAt .later Tryd.pinned [.data] true :=
  OpenClaim.laidByTextAt_later rfl rfl tie2 noOwnUnsafe
theorem signerVerifiesUpto_row_tie : Rows.signerVerifiesUptoRow.laidByTextAt .later Tryd.pinned [.data, .data] true :=
  OpenClaim.laidByTextAt_later rfl rfl tie noOwnUnsafe
theorem signerSignsUpto_row_tie : Rows.signerSignsUptoRow.laidByTextAt .later Tryd.pinned [.data, .data] true :=
  OpenClaim.laidByTextAt_later rfl rfl tie noOwnUnsafe
theorem signerGoesUpto_row_tie : Rows.signerGoesUptoRow.laidByTextAt .later Tryd.pinned [.data, .data] true :=
  OpenClaim.laidByTextAt_later rfl rfl tie noOwnUnsafe
theorem sealOpensUpto_row_tie : Rows.sealOpensUptoRow.laidByTextAt .later Tryd.pinned [.data, .data, .widerDeep, .data] true :=
  OpenClaim.laidByTextAt_later rfl rfl tie3 noOwnUnsafe
theorem sealBackUpto_row_tie : Rows.sealBackUptoRow.laidByTextAt .later Tryd.pinned [.data, .data, .widerDeep, .data] true :=
  OpenClaim.laidByTextAt_later rfl rfl tie3 noOwnUnsafe
end Go.Proofs.YtejifhdkgfilgaaDoor
