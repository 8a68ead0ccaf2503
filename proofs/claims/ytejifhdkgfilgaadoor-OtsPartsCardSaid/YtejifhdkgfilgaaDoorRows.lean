/-
  NARROWER THAN 'FOR EVERY INPUT', by the rows' own cells (each row's printed sentence says how): OtsDigits: laid · OtsSigns: laid · OtsRecovers: laid · OtsGuards: laid · OtsParts: laid · LadderAgrees: laid · SignerVerifies: laid · SignerSigns: laid · SignerGoes: laid · SealOpens: laid · SealBack: laid.
  DERIVED. THE GIVEN ROWS OF THIS SEAT. 11 by the template 'for every input the law returns true; each argument reads behind the call as it read before'; 0 by the template 'total and deterministic' (their statements: YtejifhdkgfilgaaDoorTotals.lean).
  GIVEN WITH THE SEED: the statements are not yours to turn. If you find one false, say at which input.
  Laid BY PROGRAM, IN A SANDBOX (cutbox-rows.mjs): the forced cells as the released guide's own fill.sh prints them over the translation 53fc4b42cf726a0a… (all of the seat's roots in one cut). By AI agents, Wed Nov 11 2026. No macro, syntax, notation, axiom, sorry.
-/
import Derived.Test.YtejifhdkgfilgaaDoorChecked
import GoSem.Claim
import GoSem.ClaimJoined
import GoSem.ClaimMapViews
import Derived.JoinedTies
import Derived.KernelRfl
namespace Go.Proofs.YtejifhdkgfilgaaDoor
/- THE CELL 'sum', in the pinned program and in every row, IS THE sha256 OF THE DUMP (.gsa) THAT YtejifhdkgfilgaaDoorProg.lean LOADS. Nothing in Lean hashes anything: it is a label: what it is worth is what the hold of that sum in a sandbox is worth. -/
noncomputable def Tryd.pinned : Pinned := { name := "ytejifhdkgfilgaadoor", sum := "53fc4b42cf726a0a6311a835e6130a8f97c0b82f524aabd7209a51ca1a3e2830", checked := Tryd.checked }
namespace Rows
def none {H : Type} : Left H := { results := [], args := [] }

/- WHAT THE LISTED PACKAGE-LEVEL VARIABLES READ AS WHEN THE CALL BEGINS. Each datum BY PROGRAM (the guide's laid-datum.mjs) off the statement by which the dump's own 'gosem.cut.vars' lays the variable. In a bare row this is a premise. The card (YtejifhdkgfilgaaDoorCards.lean) ties it to the program's text. -/
def laid_cablegram_sha_rounds {H : Type} : DataW H := .agg [.lit (.int .u32 1116352408), .lit (.int .u32 1899447441), .lit (.int .u32 3049323471), .lit (.int .u32 3921009573), .lit (.int .u32 961987163), .lit (.int .u32 1508970993), .lit (.int .u32 2453635748), .lit (.int .u32 2870763221), .lit (.int .u32 3624381080), .lit (.int .u32 310598401), .lit (.int .u32 607225278), .lit (.int .u32 1426881987), .lit (.int .u32 1925078388), .lit (.int .u32 2162078206), .lit (.int .u32 2614888103), .lit (.int .u32 3248222580), .lit (.int .u32 3835390401), .lit (.int .u32 4022224774), .lit (.int .u32 264347078), .lit (.int .u32 604807628), .lit (.int .u32 770255983), .lit (.int .u32 1249150122), .lit (.int .u32 1555081692), .lit (.int .u32 1996064986), .lit (.int .u32 2554220882), .lit (.int .u32 2821834349), .lit (.int .u32 2952996808), .lit (.int .u32 3210313671), .lit (.int .u32 3336571891), .lit (.int .u32 3584528711), .lit (.int .u32 113926993), .lit (.int .u32 338241895), .lit (.int .u32 666307205), .lit (.int .u32 773529912), .lit (.int .u32 1294757372), .lit (.int .u32 1396182291), .lit (.int .u32 1695183700), .lit (.int .u32 1986661051), .lit (.int .u32 2177026350), .lit (.int .u32 2456956037), .lit (.int .u32 2730485921), .lit (.int .u32 2820302411), .lit (.int .u32 3259730800), .lit (.int .u32 3345764771), .lit (.int .u32 3516065817), .lit (.int .u32 3600352804), .lit (.int .u32 4094571909), .lit (.int .u32 275423344), .lit (.int .u32 430227734), .lit (.int .u32 506948616), .lit (.int .u32 659060556), .lit (.int .u32 883997877), .lit (.int .u32 958139571), .lit (.int .u32 1322822218), .lit (.int .u32 1537002063), .lit (.int .u32 1747873779), .lit (.int .u32 1955562222), .lit (.int .u32 2024104815), .lit (.int .u32 2227730452), .lit (.int .u32 2361852424), .lit (.int .u32 2428436474), .lit (.int .u32 2756734187), .lit (.int .u32 3204031479), .lit (.int .u32 3329325298)]
def laid_cablegram_sha_start {H : Type} : DataW H := .agg [.lit (.int .u32 1779033703), .lit (.int .u32 3144134277), .lit (.int .u32 1013904242), .lit (.int .u32 2773480762), .lit (.int .u32 1359893119), .lit (.int .u32 2600822924), .lit (.int .u32 528734635), .lit (.int .u32 1541459225)]
def laid_cablegram_field_four {H : Type} : DataW H := .agg [.lit (.int .u64 9007199254740916), .lit (.int .u64 9007199254740988), .lit (.int .u64 9007199254740988), .lit (.int .u64 9007199254740988), .lit (.int .u64 9007199254740988)]
def laid_cablegram_stream_start {H : Type} : DataW H := .agg [.lit (.int .u32 1634760805), .lit (.int .u32 857760878), .lit (.int .u32 2036477234), .lit (.int .u32 1797285236)]
def laid_cablegram_stream_quarters {H : Type} : DataW H := .agg [.agg [.lit (.int .i64 0), .lit (.int .i64 4), .lit (.int .i64 8), .lit (.int .i64 12)], .agg [.lit (.int .i64 1), .lit (.int .i64 5), .lit (.int .i64 9), .lit (.int .i64 13)], .agg [.lit (.int .i64 2), .lit (.int .i64 6), .lit (.int .i64 10), .lit (.int .i64 14)], .agg [.lit (.int .i64 3), .lit (.int .i64 7), .lit (.int .i64 11), .lit (.int .i64 15)], .agg [.lit (.int .i64 0), .lit (.int .i64 5), .lit (.int .i64 10), .lit (.int .i64 15)], .agg [.lit (.int .i64 1), .lit (.int .i64 6), .lit (.int .i64 11), .lit (.int .i64 12)], .agg [.lit (.int .i64 2), .lit (.int .i64 7), .lit (.int .i64 8), .lit (.int .i64 13)], .agg [.lit (.int .i64 3), .lit (.int .i64 4), .lit (.int .i64 9), .lit (.int .i64 14)]]

/-- 'cablegramlaw08.OtsDigits': WHATEVER THE INPUT: true; the input reads as it did. -/
def otsDigitsSpec : ChangeSpec := { name := "otsDigits", fn := fun _ => fun
  | [d1, d2, d3, d4, d5, d6] => { results := [.lit (.bool true)], args := [d1, d2, d3, d4, d5, d6] }
  | _ => none }
def otsDigitsRow : OpenClaim := { program := "ytejifhdkgfilgaadoor", sum := "53fc4b42cf726a0a6311a835e6130a8f97c0b82f524aabd7209a51ca1a3e2830", func := "cablegram/cablegramlaw08.OtsDigits", spec := "otsDigits", inPlace := ["sync/atomic.AddInt64", "(*internal/sync.Mutex).Lock", "internal/race.Disable", "sync/atomic.CompareAndSwapInt32", "internal/race.Enable", "internal/race.Acquire", "(*internal/sync.Mutex).lockSlow", "internal/sync.runtime_canSpin", "internal/sync.runtime_doSpin", "internal/sync.throw", "internal/sync.runtime_nanotime", "internal/sync.runtime_SemacquireMutex", "sync/atomic.AddInt32", "(*internal/sync.Mutex).Unlock", "internal/race.ReleaseMerge", "(*internal/sync.Mutex).unlockSlow", "internal/sync.fatal", "internal/sync.runtime_Semrelease", "sync/atomic.LoadUint32", "sync/atomic.StoreUint32"], unfollowed := true, recurses := true, named := ["cablegram/sha.start", "cablegram/sha.rounds"], apart := false, laid := [("cablegram/sha.rounds", laid_cablegram_sha_rounds), ("cablegram/sha.start", laid_cablegram_sha_start)] }
def OtsDigitsSaid : Prop := otsDigitsRow.holds Tryd.pinned (OpenSpec.ofChange otsDigitsSpec)

/-- ITS FALSE NEIGHBOUR: 'it returns false'. Refute it at one input. -/
def otsDigitsWrong : ChangeSpec := { name := "otsDigits", fn := fun _ => fun
  | [d1, d2, d3, d4, d5, d6] => { results := [.lit (.bool false)], args := [d1, d2, d3, d4, d5, d6] }
  | _ => none }
def OtsDigitsWrongFalsely : Prop := otsDigitsRow.holds Tryd.pinned (OpenSpec.ofChange otsDigitsWrong)

/-- 'cablegramlaw08.OtsSigns': WHATEVER THE INPUT: true; the input reads as it did. -/
def otsSignsSpec : ChangeSpec := { name := "otsSigns", fn := fun _ => fun
  | [d1, d2, d3, d4] => { results := [.lit (.bool true)], args := [d1, d2, d3, d4] }
  | _ => none }
def otsSignsRow : OpenClaim := { program := "ytejifhdkgfilgaadoor", sum := "53fc4b42cf726a0a6311a835e6130a8f97c0b82f524aabd7209a51ca1a3e2830", func := "cablegram/cablegramlaw08.OtsSigns", spec := "otsSigns", inPlace := ["sync/atomic.AddInt64", "(*internal/sync.Mutex).Lock", "internal/race.Disable", "sync/atomic.CompareAndSwapInt32", "internal/race.Enable", "internal/race.Acquire", "(*internal/sync.Mutex).lockSlow", "internal/sync.runtime_canSpin", "internal/sync.runtime_doSpin", "internal/sync.throw", "internal/sync.runtime_nanotime", "internal/sync.runtime_SemacquireMutex", "sync/atomic.AddInt32", "(*internal/sync.Mutex).Unlock", "internal/race.ReleaseMerge", "(*internal/sync.Mutex).unlockSlow", "internal/sync.fatal", "internal/sync.runtime_Semrelease", "sync/atomic.LoadUint32", "sync/atomic.StoreUint32"], unfollowed := true, recurses := true, named := ["cablegram/sha.start", "cablegram/sha.rounds"], apart := false, laid := [("cablegram/sha.rounds", laid_cablegram_sha_rounds), ("cablegram/sha.start", laid_cablegram_sha_start)] }
def OtsSignsSaid : Prop := otsSignsRow.holds Tryd.pinned (OpenSpec.ofChange otsSignsSpec)

/-- ITS FALSE NEIGHBOUR: 'it returns false'. Refute it at one input. -/
def otsSignsWrong : ChangeSpec := { name := "otsSigns", fn := fun _ => fun
  | [d1, d2, d3, d4] => { results := [.lit (.bool false)], args := [d1, d2, d3, d4] }
  | _ => none }
def OtsSignsWrongFalsely : Prop := otsSignsRow.holds Tryd.pinned (OpenSpec.ofChange otsSignsWrong)

/-- 'cablegramlaw08.OtsRecovers': WHATEVER THE INPUT: true; the input reads as it did. -/
def otsRecoversSpec : ChangeSpec := { name := "otsRecovers", fn := fun _ => fun
  | [d1, d2, d3] => { results := [.lit (.bool true)], args := [d1, d2, d3] }
  | _ => none }
def otsRecoversRow : OpenClaim := { program := "ytejifhdkgfilgaadoor", sum := "53fc4b42cf726a0a6311a835e6130a8f97c0b82f524aabd7209a51ca1a3e2830", func := "cablegram/cablegramlaw08.OtsRecovers", spec := "otsRecovers", inPlace := ["sync/atomic.AddInt64", "(*internal/sync.Mutex).Lock", "internal/race.Disable", "sync/atomic.CompareAndSwapInt32", "internal/race.Enable", "internal/race.Acquire", "(*internal/sync.Mutex).lockSlow", "internal/sync.runtime_canSpin", "internal/sync.runtime_doSpin", "internal/sync.throw", "internal/sync.runtime_nanotime", "internal/sync.runtime_SemacquireMutex", "sync/atomic.AddInt32", "(*internal/sync.Mutex).Unlock", "internal/race.ReleaseMerge", "(*internal/sync.Mutex).unlockSlow", "internal/sync.fatal", "internal/sync.runtime_Semrelease", "sync/atomic.LoadUint32", "sync/atomic.StoreUint32"], unfollowed := true, recurses := true, named := ["cablegram/sha.start", "cablegram/sha.rounds"], apart := false, laid := [("cablegram/sha.rounds", laid_cablegram_sha_rounds), ("cablegram/sha.start", laid_cablegram_sha_start)] }
def OtsRecoversSaid : Prop := otsRecoversRow.holds Tryd.pinned (OpenSpec.ofChange otsRecoversSpec)

/-- ITS FALSE NEIGHBOUR: 'it returns false'. Refute it at one input. -/
def otsRecoversWrong : ChangeSpec := { name := "otsRecovers", fn := fun _ => fun
  | [d1, d2, d3] => { results := [.lit (.bool false)], args := [d1, d2, d3] }
  | _ => none }
def OtsRecoversWrongFalsely : Prop := otsRecoversRow.holds Tryd.pinned (OpenSpec.ofChange otsRecoversWrong)

/-- 'cablegramlaw08.OtsGuards': WHATEVER THE INPUT: true; the input reads as it did. -/
def otsGuardsSpec : ChangeSpec := { name := "otsGuards", fn := fun _ => fun
  | [d1, d2] => { results := [.lit (.bool true)], args := [d1, d2] }
  | _ => none }
def otsGuardsRow : OpenClaim := { program := "ytejifhdkgfilgaadoor", sum := "53fc4b42cf726a0a6311a835e6130a8f97c0b82f524aabd7209a51ca1a3e2830", func := "cablegram/cablegramlaw08.OtsGuards", spec := "otsGuards", inPlace := ["sync/atomic.AddInt64", "(*internal/sync.Mutex).Lock", "internal/race.Disable", "sync/atomic.CompareAndSwapInt32", "internal/race.Enable", "internal/race.Acquire", "(*internal/sync.Mutex).lockSlow", "internal/sync.runtime_canSpin", "internal/sync.runtime_doSpin", "internal/sync.throw", "internal/sync.runtime_nanotime", "internal/sync.runtime_SemacquireMutex", "sync/atomic.AddInt32", "(*internal/sync.Mutex).Unlock", "internal/race.ReleaseMerge", "(*internal/sync.Mutex).unlockSlow", "internal/sync.fatal", "internal/sync.runtime_Semrelease", "sync/atomic.LoadUint32", "sync/atomic.StoreUint32"], unfollowed := true, recurses := true, named := ["cablegram/sha.start", "cablegram/sha.rounds"], apart := false, laid := [("cablegram/sha.rounds", laid_cablegram_sha_rounds), ("cablegram/sha.start", laid_cablegram_sha_start)] }
def OtsGuardsSaid : Prop := otsGuardsRow.holds Tryd.pinned (OpenSpec.ofChange otsGuardsSpec)

/-- ITS FALSE NEIGHBOUR: 'it returns false'. Refute it at one input. -/
def otsGuardsWrong : ChangeSpec := { name := "otsGuards", fn := fun _ => fun
  | [d1, d2] => { results := [.lit (.bool false)], args := [d1, d2] }
  | _ => none }
def OtsGuardsWrongFalsely : Prop := otsGuardsRow.holds Tryd.pinned (OpenSpec.ofChange otsGuardsWrong)

/-- 'cablegramlaw08.OtsParts': WHATEVER THE INPUT: true; the input reads as it did. -/
def otsPartsSpec : ChangeSpec := { name := "otsParts", fn := fun _ => fun
  | [d1, d2, d3, d4, d5, d6] => { results := [.lit (.bool true)], args := [d1, d2, d3, d4, d5, d6] }
  | _ => none }
def otsPartsRow : OpenClaim := { program := "ytejifhdkgfilgaadoor", sum := "53fc4b42cf726a0a6311a835e6130a8f97c0b82f524aabd7209a51ca1a3e2830", func := "cablegram/cablegramlaw08.OtsParts", spec := "otsParts", inPlace := ["sync/atomic.AddInt64", "(*internal/sync.Mutex).Lock", "internal/race.Disable", "sync/atomic.CompareAndSwapInt32", "internal/race.Enable", "internal/race.Acquire", "(*internal/sync.Mutex).lockSlow", "internal/sync.runtime_canSpin", "internal/sync.runtime_doSpin", "internal/sync.throw", "internal/sync.runtime_nanotime", "internal/sync.runtime_SemacquireMutex", "sync/atomic.AddInt32", "(*internal/sync.Mutex).Unlock", "internal/race.ReleaseMerge", "(*internal/sync.Mutex).unlockSlow", "internal/sync.fatal", "internal/sync.runtime_Semrelease", "sync/atomic.LoadUint32", "sync/atomic.StoreUint32", "sync/atomic.LoadInt64"], unfollowed := true, recurses := true, named := ["cablegram/sha.start", "cablegram/sha.rounds"], apart := false, laid := [("cablegram/sha.rounds", laid_cablegram_sha_rounds), ("cablegram/sha.start", laid_cablegram_sha_start)] }
def OtsPartsSaid : Prop := otsPartsRow.holds Tryd.pinned (OpenSpec.ofChange otsPartsSpec)

/-- ITS FALSE NEIGHBOUR: 'it returns false'. Refute it at one input. -/
def otsPartsWrong : ChangeSpec := { name := "otsParts", fn := fun _ => fun
  | [d1, d2, d3, d4, d5, d6] => { results := [.lit (.bool false)], args := [d1, d2, d3, d4, d5, d6] }
  | _ => none }
def OtsPartsWrongFalsely : Prop := otsPartsRow.holds Tryd.pinned (OpenSpec.ofChange otsPartsWrong)

/-- 'cablegramlaw07.LadderAgrees': WHATEVER THE INPUT: true; the input reads as it did. -/
def ladderAgreesSpec : ChangeSpec := { name := "ladderAgrees", fn := fun _ => fun
  | [d1, d2] => { results := [.lit (.bool true)], args := [d1, d2] }
  | _ => none }
def ladderAgreesRow : OpenClaim := { program := "ytejifhdkgfilgaadoor", sum := "53fc4b42cf726a0a6311a835e6130a8f97c0b82f524aabd7209a51ca1a3e2830", func := "cablegram/cablegramlaw07.LadderAgrees", spec := "ladderAgrees", inPlace := ["math/bits.Add64", "sync/atomic.LoadUint32", "(*internal/sync.Mutex).Lock", "internal/race.Disable", "sync/atomic.CompareAndSwapInt32", "internal/race.Enable", "internal/race.Acquire", "(*internal/sync.Mutex).lockSlow", "internal/sync.runtime_canSpin", "internal/sync.runtime_doSpin", "internal/sync.throw", "internal/sync.runtime_nanotime", "internal/sync.runtime_SemacquireMutex", "sync/atomic.AddInt32", "(*internal/sync.Mutex).Unlock", "internal/race.ReleaseMerge", "(*internal/sync.Mutex).unlockSlow", "internal/sync.fatal", "internal/sync.runtime_Semrelease", "sync/atomic.StoreUint32"], unfollowed := true, recurses := true, named := ["cablegram/field.four"], apart := false, laid := [("cablegram/field.four", laid_cablegram_field_four)] }
def LadderAgreesSaid : Prop := ladderAgreesRow.holds Tryd.pinned (OpenSpec.ofChange ladderAgreesSpec)

/-- ITS FALSE NEIGHBOUR: 'it returns false'. Refute it at one input. -/
def ladderAgreesWrong : ChangeSpec := { name := "ladderAgrees", fn := fun _ => fun
  | [d1, d2] => { results := [.lit (.bool false)], args := [d1, d2] }
  | _ => none }
def LadderAgreesWrongFalsely : Prop := ladderAgreesRow.holds Tryd.pinned (OpenSpec.ofChange ladderAgreesWrong)

/-- 'cablegramlaw17.SignerVerifies': WHATEVER THE INPUT: true; the input reads as it did. -/
def signerVerifiesSpec : ChangeSpec := { name := "signerVerifies", fn := fun _ => fun
  | [d1, d2, d3, d4] => { results := [.lit (.bool true)], args := [d1, d2, d3, d4] }
  | _ => none }
def signerVerifiesRow : OpenClaim := { program := "ytejifhdkgfilgaadoor", sum := "53fc4b42cf726a0a6311a835e6130a8f97c0b82f524aabd7209a51ca1a3e2830", func := "cablegram/cablegramlaw17.SignerVerifies", spec := "signerVerifies", inPlace := ["sync/atomic.AddInt64", "(*internal/sync.Mutex).Lock", "internal/race.Disable", "sync/atomic.CompareAndSwapInt32", "internal/race.Enable", "internal/race.Acquire", "(*internal/sync.Mutex).lockSlow", "internal/sync.runtime_canSpin", "internal/sync.runtime_doSpin", "internal/sync.throw", "internal/sync.runtime_nanotime", "internal/sync.runtime_SemacquireMutex", "sync/atomic.AddInt32", "(*internal/sync.Mutex).Unlock", "internal/race.ReleaseMerge", "(*internal/sync.Mutex).unlockSlow", "internal/sync.fatal", "internal/sync.runtime_Semrelease", "sync/atomic.LoadUint32", "sync/atomic.StoreUint32"], unfollowed := true, recurses := true, named := ["cablegram/sha.start", "cablegram/sha.rounds"], apart := false, laid := [("cablegram/sha.rounds", laid_cablegram_sha_rounds), ("cablegram/sha.start", laid_cablegram_sha_start)] }
def SignerVerifiesSaid : Prop := signerVerifiesRow.holds Tryd.pinned (OpenSpec.ofChange signerVerifiesSpec)

/-- ITS FALSE NEIGHBOUR: 'it returns false'. Refute it at one input. -/
def signerVerifiesWrong : ChangeSpec := { name := "signerVerifies", fn := fun _ => fun
  | [d1, d2, d3, d4] => { results := [.lit (.bool false)], args := [d1, d2, d3, d4] }
  | _ => none }
def SignerVerifiesWrongFalsely : Prop := signerVerifiesRow.holds Tryd.pinned (OpenSpec.ofChange signerVerifiesWrong)

/-- 'cablegramlaw17.SignerSigns': WHATEVER THE INPUT: true; the input reads as it did. -/
def signerSignsSpec : ChangeSpec := { name := "signerSigns", fn := fun _ => fun
  | [d1, d2, d3] => { results := [.lit (.bool true)], args := [d1, d2, d3] }
  | _ => none }
def signerSignsRow : OpenClaim := { program := "ytejifhdkgfilgaadoor", sum := "53fc4b42cf726a0a6311a835e6130a8f97c0b82f524aabd7209a51ca1a3e2830", func := "cablegram/cablegramlaw17.SignerSigns", spec := "signerSigns", inPlace := ["sync/atomic.AddInt64", "(*internal/sync.Mutex).Lock", "internal/race.Disable", "sync/atomic.CompareAndSwapInt32", "internal/race.Enable", "internal/race.Acquire", "(*internal/sync.Mutex).lockSlow", "internal/sync.runtime_canSpin", "internal/sync.runtime_doSpin", "internal/sync.throw", "internal/sync.runtime_nanotime", "internal/sync.runtime_SemacquireMutex", "sync/atomic.AddInt32", "(*internal/sync.Mutex).Unlock", "internal/race.ReleaseMerge", "(*internal/sync.Mutex).unlockSlow", "internal/sync.fatal", "internal/sync.runtime_Semrelease", "sync/atomic.LoadUint32", "sync/atomic.StoreUint32"], unfollowed := true, recurses := true, named := ["cablegram/sha.start", "cablegram/sha.rounds"], apart := false, laid := [("cablegram/sha.rounds", laid_cablegram_sha_rounds), ("cablegram/sha.start", laid_cablegram_sha_start)] }
def SignerSignsSaid : Prop := signerSignsRow.holds Tryd.pinned (OpenSpec.ofChange signerSignsSpec)

/-- ITS FALSE NEIGHBOUR: 'it returns false'. Refute it at one input. -/
def signerSignsWrong : ChangeSpec := { name := "signerSigns", fn := fun _ => fun
  | [d1, d2, d3] => { results := [.lit (.bool false)], args := [d1, d2, d3] }
  | _ => none }
def SignerSignsWrongFalsely : Prop := signerSignsRow.holds Tryd.pinned (OpenSpec.ofChange signerSignsWrong)

/-- 'cablegramlaw17.SignerGoes': WHATEVER THE INPUT: true; the input reads as it did. -/
def signerGoesSpec : ChangeSpec := { name := "signerGoes", fn := fun _ => fun
  | [d1, d2, d3] => { results := [.lit (.bool true)], args := [d1, d2, d3] }
  | _ => none }
def signerGoesRow : OpenClaim := { program := "ytejifhdkgfilgaadoor", sum := "53fc4b42cf726a0a6311a835e6130a8f97c0b82f524aabd7209a51ca1a3e2830", func := "cablegram/cablegramlaw17.SignerGoes", spec := "signerGoes", inPlace := ["sync/atomic.AddInt64", "(*internal/sync.Mutex).Lock", "internal/race.Disable", "sync/atomic.CompareAndSwapInt32", "internal/race.Enable", "internal/race.Acquire", "(*internal/sync.Mutex).lockSlow", "internal/sync.runtime_canSpin", "internal/sync.runtime_doSpin", "internal/sync.throw", "internal/sync.runtime_nanotime", "internal/sync.runtime_SemacquireMutex", "sync/atomic.AddInt32", "(*internal/sync.Mutex).Unlock", "internal/race.ReleaseMerge", "(*internal/sync.Mutex).unlockSlow", "internal/sync.fatal", "internal/sync.runtime_Semrelease", "sync/atomic.LoadUint32", "sync/atomic.StoreUint32"], unfollowed := true, recurses := true, named := ["cablegram/sha.start", "cablegram/sha.rounds"], apart := false, laid := [("cablegram/sha.rounds", laid_cablegram_sha_rounds), ("cablegram/sha.start", laid_cablegram_sha_start)] }
def SignerGoesSaid : Prop := signerGoesRow.holds Tryd.pinned (OpenSpec.ofChange signerGoesSpec)

/-- ITS FALSE NEIGHBOUR: 'it returns false'. Refute it at one input. -/
def signerGoesWrong : ChangeSpec := { name := "signerGoes", fn := fun _ => fun
  | [d1, d2, d3] => { results := [.lit (.bool false)], args := [d1, d2, d3] }
  | _ => none }
def SignerGoesWrongFalsely : Prop := signerGoesRow.holds Tryd.pinned (OpenSpec.ofChange signerGoesWrong)

/-- 'cablegramlaw05.SealOpens': WHATEVER THE INPUT: true; the input reads as it did. -/
def sealOpensSpec : ChangeSpec := { name := "sealOpens", fn := fun _ => fun
  | [d1, d2, d3] => { results := [.lit (.bool true)], args := [d1, d2, d3] }
  | _ => none }
def sealOpensRow : OpenClaim := { program := "ytejifhdkgfilgaadoor", sum := "53fc4b42cf726a0a6311a835e6130a8f97c0b82f524aabd7209a51ca1a3e2830", func := "cablegram/cablegramlaw05.SealOpens", spec := "sealOpens", inPlace := ["sync/atomic.AddInt64", "(*internal/sync.Mutex).Lock", "internal/race.Disable", "sync/atomic.CompareAndSwapInt32", "internal/race.Enable", "internal/race.Acquire", "(*internal/sync.Mutex).lockSlow", "internal/sync.runtime_canSpin", "internal/sync.runtime_doSpin", "internal/sync.throw", "internal/sync.runtime_nanotime", "internal/sync.runtime_SemacquireMutex", "sync/atomic.AddInt32", "(*internal/sync.Mutex).Unlock", "internal/race.ReleaseMerge", "(*internal/sync.Mutex).unlockSlow", "internal/sync.fatal", "internal/sync.runtime_Semrelease", "sync/atomic.LoadUint32", "sync/atomic.StoreUint32"], unfollowed := true, recurses := true, named := ["cablegram/sha.start", "cablegram/sha.rounds", "cablegram/stream.quarters", "cablegram/stream.start"], apart := false, laid := [("cablegram/sha.rounds", laid_cablegram_sha_rounds), ("cablegram/sha.start", laid_cablegram_sha_start), ("cablegram/stream.start", laid_cablegram_stream_start), ("cablegram/stream.quarters", laid_cablegram_stream_quarters)] }
def SealOpensSaid : Prop := sealOpensRow.holds Tryd.pinned (OpenSpec.ofChange sealOpensSpec)

/-- ITS FALSE NEIGHBOUR: 'it returns false'. Refute it at one input. -/
def sealOpensWrong : ChangeSpec := { name := "sealOpens", fn := fun _ => fun
  | [d1, d2, d3] => { results := [.lit (.bool false)], args := [d1, d2, d3] }
  | _ => none }
def SealOpensWrongFalsely : Prop := sealOpensRow.holds Tryd.pinned (OpenSpec.ofChange sealOpensWrong)

/-- 'cablegramlaw05.SealBack': WHATEVER THE INPUT: true; the input reads as it did. -/
def sealBackSpec : ChangeSpec := { name := "sealBack", fn := fun _ => fun
  | [d1, d2, d3] => { results := [.lit (.bool true)], args := [d1, d2, d3] }
  | _ => none }
def sealBackRow : OpenClaim := { program := "ytejifhdkgfilgaadoor", sum := "53fc4b42cf726a0a6311a835e6130a8f97c0b82f524aabd7209a51ca1a3e2830", func := "cablegram/cablegramlaw05.SealBack", spec := "sealBack", inPlace := ["sync/atomic.AddInt64", "(*internal/sync.Mutex).Lock", "internal/race.Disable", "sync/atomic.CompareAndSwapInt32", "internal/race.Enable", "internal/race.Acquire", "(*internal/sync.Mutex).lockSlow", "internal/sync.runtime_canSpin", "internal/sync.runtime_doSpin", "internal/sync.throw", "internal/sync.runtime_nanotime", "internal/sync.runtime_SemacquireMutex", "sync/atomic.AddInt32", "(*internal/sync.Mutex).Unlock", "internal/race.ReleaseMerge", "(*internal/sync.Mutex).unlockSlow", "internal/sync.fatal", "internal/sync.runtime_Semrelease", "sync/atomic.LoadUint32", "sync/atomic.StoreUint32"], unfollowed := true, recurses := true, named := ["cablegram/sha.start", "cablegram/sha.rounds", "cablegram/stream.quarters", "cablegram/stream.start"], apart := false, laid := [("cablegram/sha.rounds", laid_cablegram_sha_rounds), ("cablegram/sha.start", laid_cablegram_sha_start), ("cablegram/stream.start", laid_cablegram_stream_start), ("cablegram/stream.quarters", laid_cablegram_stream_quarters)] }
def SealBackSaid : Prop := sealBackRow.holds Tryd.pinned (OpenSpec.ofChange sealBackSpec)

/-- ITS FALSE NEIGHBOUR: 'it returns false'. Refute it at one input. -/
def sealBackWrong : ChangeSpec := { name := "sealBack", fn := fun _ => fun
  | [d1, d2, d3] => { results := [.lit (.bool false)], args := [d1, d2, d3] }
  | _ => none }
def SealBackWrongFalsely : Prop := sealBackRow.holds Tryd.pinned (OpenSpec.ofChange sealBackWrong)

/- THE SECOND FORM. 'bulk': how many values and letters a reading holds, each counted each time it is reached (what is shared counts as often as it is met; a slice's spare places count too). A statement '..UptoSaid' is the law's where the arguments, and the package variables that the reading takes, are together of bulk at most 1048576: NARROWER than '..Said'. Prove '..Said' where nothing that the law and all that it calls make is longer than what came in: it says more and counts as full. Else prove '..UptoSaid'. A law counts once. -/
mutual
def uptoBulk {H : Type} : DataW H → Nat
  | .lit (.string bytes) => bytes.length + 1
  | .lit _ => 1
  | .nil => 1
  | .ptr d => uptoBulk d + 1
  | .slice elems spare => uptoBulkAll elems + uptoBulkAll spare + 1
  | .agg parts => uptoBulkAll parts + 1
  | .iface _ d => uptoBulk d + 1
  | .map entries => uptoBulkEntries entries + 1
  | .held _ => 1
def uptoBulkAll {H : Type} : List (DataW H) → Nat
  | [] => 0
  | d :: r => uptoBulk d + uptoBulkAll r
def uptoBulkEntries {H : Type} : List (Lit × DataW H) → Nat
  | [] => 0
  | x :: r => uptoBulkEntry x + uptoBulkEntries r
def uptoBulkEntry {H : Type} : Lit × DataW H → Nat
  | (.string bytes, d) => bytes.length + uptoBulk d + 1
  | (_, d) => uptoBulk d + 1
 end
def uptoSmall : (H : Type) → List (DataW H) → Bool := fun _ ds => decide (uptoBulkAll ds ≤ 1048576)
def OpenSpec.upto (s : _root_.Go.ChangeSpec) : _root_.Go.OpenSpec := { _root_.Go.OpenSpec.ofChange s with cond := some uptoSmall }

/-- 'cablegramlaw08.OtsDigits', WHERE WHAT IT READS IS OF BULK AT MOST 1048576: true; the input reads as it did. -/
def otsDigitsUptoRow : OpenClaim := { program := "ytejifhdkgfilgaadoor", sum := "53fc4b42cf726a0a6311a835e6130a8f97c0b82f524aabd7209a51ca1a3e2830", func := "cablegram/cablegramlaw08.OtsDigits", spec := "otsDigits", inPlace := ["sync/atomic.AddInt64", "(*internal/sync.Mutex).Lock", "internal/race.Disable", "sync/atomic.CompareAndSwapInt32", "internal/race.Enable", "internal/race.Acquire", "(*internal/sync.Mutex).lockSlow", "internal/sync.runtime_canSpin", "internal/sync.runtime_doSpin", "internal/sync.throw", "internal/sync.runtime_nanotime", "internal/sync.runtime_SemacquireMutex", "sync/atomic.AddInt32", "(*internal/sync.Mutex).Unlock", "internal/race.ReleaseMerge", "(*internal/sync.Mutex).unlockSlow", "internal/sync.fatal", "internal/sync.runtime_Semrelease", "sync/atomic.LoadUint32", "sync/atomic.StoreUint32"], unfollowed := true, recurses := true, named := ["cablegram/sha.start", "cablegram/sha.rounds"], apart := false, laid := [("cablegram/sha.rounds", laid_cablegram_sha_rounds), ("cablegram/sha.start", laid_cablegram_sha_start)], narrowed := true }
def OtsDigitsUptoSaid : Prop := otsDigitsUptoRow.holds Tryd.pinned (OpenSpec.upto otsDigitsSpec)

/-- 'cablegramlaw08.OtsSigns', WHERE WHAT IT READS IS OF BULK AT MOST 1048576: true; the input reads as it did. -/
def otsSignsUptoRow : OpenClaim := { program := "ytejifhdkgfilgaadoor", sum := "53fc4b42cf726a0a6311a835e6130a8f97c0b82f524aabd7209a51ca1a3e2830", func := "cablegram/cablegramlaw08.OtsSigns", spec := "otsSigns", inPlace := ["sync/atomic.AddInt64", "(*internal/sync.Mutex).Lock", "internal/race.Disable", "sync/atomic.CompareAndSwapInt32", "internal/race.Enable", "internal/race.Acquire", "(*internal/sync.Mutex).lockSlow", "internal/sync.runtime_canSpin", "internal/sync.runtime_doSpin", "internal/sync.throw", "internal/sync.runtime_nanotime", "internal/sync.runtime_SemacquireMutex", "sync/atomic.AddInt32", "(*internal/sync.Mutex).Unlock", "internal/race.ReleaseMerge", "(*internal/sync.Mutex).unlockSlow", "internal/sync.fatal", "internal/sync.runtime_Semrelease", "sync/atomic.LoadUint32", "sync/atomic.StoreUint32"], unfollowed := true, recurses := true, named := ["cablegram/sha.start", "cablegram/sha.rounds"], apart := false, laid := [("cablegram/sha.rounds", laid_cablegram_sha_rounds), ("cablegram/sha.start", laid_cablegram_sha_start)], narrowed := true }
def OtsSignsUptoSaid : Prop := otsSignsUptoRow.holds Tryd.pinned (OpenSpec.upto otsSignsSpec)

/-- 'cablegramlaw08.OtsRecovers', WHERE WHAT IT READS IS OF BULK AT MOST 1048576: true; the input reads as it did. -/
def otsRecoversUptoRow : OpenClaim := { program := "ytejifhdkgfilgaadoor", sum := "53fc4b42cf726a0a6311a835e6130a8f97c0b82f524aabd7209a51ca1a3e2830", func := "cablegram/cablegramlaw08.OtsRecovers", spec := "otsRecovers", inPlace := ["sync/atomic.AddInt64", "(*internal/sync.Mutex).Lock", "internal/race.Disable", "sync/atomic.CompareAndSwapInt32", "internal/race.Enable", "internal/race.Acquire", "(*internal/sync.Mutex).lockSlow", "internal/sync.runtime_canSpin", "internal/sync.runtime_doSpin", "internal/sync.throw", "internal/sync.runtime_nanotime", "internal/sync.runtime_SemacquireMutex", "sync/atomic.AddInt32", "(*internal/sync.Mutex).Unlock", "internal/race.ReleaseMerge", "(*internal/sync.Mutex).unlockSlow", "internal/sync.fatal", "internal/sync.runtime_Semrelease", "sync/atomic.LoadUint32", "sync/atomic.StoreUint32"], unfollowed := true, recurses := true, named := ["cablegram/sha.start", "cablegram/sha.rounds"], apart := false, laid := [("cablegram/sha.rounds", laid_cablegram_sha_rounds), ("cablegram/sha.start", laid_cablegram_sha_start)], narrowed := true }
def OtsRecoversUptoSaid : Prop := otsRecoversUptoRow.holds Tryd.pinned (OpenSpec.upto otsRecoversSpec)

/-- 'cablegramlaw08.OtsGuards', WHERE WHAT IT READS IS OF BULK AT MOST 1048576: true; the input reads as it did. -/
def otsGuardsUptoRow : OpenClaim := { program := "ytejifhdkgfilgaadoor", sum := "53fc4b42cf726a0a6311a835e6130a8f97c0b82f524aabd7209a51ca1a3e2830", func := "cablegram/cablegramlaw08.OtsGuards", spec := "otsGuards", inPlace := ["sync/atomic.AddInt64", "(*internal/sync.Mutex).Lock", "internal/race.Disable", "sync/atomic.CompareAndSwapInt32", "internal/race.Enable", "internal/race.Acquire", "(*internal/sync.Mutex).lockSlow", "internal/sync.runtime_canSpin", "internal/sync.runtime_doSpin", "internal/sync.throw", "internal/sync.runtime_nanotime", "internal/sync.runtime_SemacquireMutex", "sync/atomic.AddInt32", "(*internal/sync.Mutex).Unlock", "internal/race.ReleaseMerge", "(*internal/sync.Mutex).unlockSlow", "internal/sync.fatal", "internal/sync.runtime_Semrelease", "sync/atomic.LoadUint32", "sync/atomic.StoreUint32"], unfollowed := true, recurses := true, named := ["cablegram/sha.start", "cablegram/sha.rounds"], apart := false, laid := [("cablegram/sha.rounds", laid_cablegram_sha_rounds), ("cablegram/sha.start", laid_cablegram_sha_start)], narrowed := true }
def OtsGuardsUptoSaid : Prop := otsGuardsUptoRow.holds Tryd.pinned (OpenSpec.upto otsGuardsSpec)

/-- 'cablegramlaw08.OtsParts', WHERE WHAT IT READS IS OF BULK AT MOST 1048576: true; the input reads as it did. -/
def otsPartsUptoRow : OpenClaim := { program := "ytejifhdkgfilgaadoor", sum := "53fc4b42cf726a0a6311a835e6130a8f97c0b82f524aabd7209a51ca1a3e2830", func := "cablegram/cablegramlaw08.OtsParts", spec := "otsParts", inPlace := ["sync/atomic.AddInt64", "(*internal/sync.Mutex).Lock", "internal/race.Disable", "sync/atomic.CompareAndSwapInt32", "internal/race.Enable", "internal/race.Acquire", "(*internal/sync.Mutex).lockSlow", "internal/sync.runtime_canSpin", "internal/sync.runtime_doSpin", "internal/sync.throw", "internal/sync.runtime_nanotime", "internal/sync.runtime_SemacquireMutex", "sync/atomic.AddInt32", "(*internal/sync.Mutex).Unlock", "internal/race.ReleaseMerge", "(*internal/sync.Mutex).unlockSlow", "internal/sync.fatal", "internal/sync.runtime_Semrelease", "sync/atomic.LoadUint32", "sync/atomic.StoreUint32", "sync/atomic.LoadInt64"], unfollowed := true, recurses := true, named := ["cablegram/sha.start", "cablegram/sha.rounds"], apart := false, laid := [("cablegram/sha.rounds", laid_cablegram_sha_rounds), ("cablegram/sha.start", laid_cablegram_sha_start)], narrowed := true }
def OtsPartsUptoSaid : Prop := otsPartsUptoRow.holds Tryd.pinned (OpenSpec.upto otsPartsSpec)

/-- 'cablegramlaw07.LadderAgrees', WHERE WHAT IT READS IS OF BULK AT MOST 1048576: true; the input reads as it did. -/
def ladderAgreesUptoRow : OpenClaim := { program := "ytejifhdkgfilgaadoor", sum := "53fc4b42cf726a0a6311a835e6130a8f97c0b82f524aabd7209a51ca1a3e2830", func := "cablegram/cablegramlaw07.LadderAgrees", spec := "ladderAgrees", inPlace := ["math/bits.Add64", "sync/atomic.LoadUint32", "(*internal/sync.Mutex).Lock", "internal/race.Disable", "sync/atomic.CompareAndSwapInt32", "internal/race.Enable", "internal/race.Acquire", "(*internal/sync.Mutex).lockSlow", "internal/sync.runtime_canSpin", "internal/sync.runtime_doSpin", "internal/sync.throw", "internal/sync.runtime_nanotime", "internal/sync.runtime_SemacquireMutex", "sync/atomic.AddInt32", "(*internal/sync.Mutex).Unlock", "internal/race.ReleaseMerge", "(*internal/sync.Mutex).unlockSlow", "internal/sync.fatal", "internal/sync.runtime_Semrelease", "sync/atomic.StoreUint32"], unfollowed := true, recurses := true, named := ["cablegram/field.four"], apart := false, laid := [("cablegram/field.four", laid_cablegram_field_four)], narrowed := true }
def LadderAgreesUptoSaid : Prop := ladderAgreesUptoRow.holds Tryd.pinned (OpenSpec.upto ladderAgreesSpec)

/-- 'cablegramlaw17.SignerVerifies', WHERE WHAT IT READS IS OF BULK AT MOST 1048576: true; the input reads as it did. -/
def signerVerifiesUptoRow : OpenClaim := { program := "ytejifhdkgfilgaadoor", sum := "53fc4b42cf726a0a6311a835e6130a8f97c0b82f524aabd7209a51ca1a3e2830", func := "cablegram/cablegramlaw17.SignerVerifies", spec := "signerVerifies", inPlace := ["sync/atomic.AddInt64", "(*internal/sync.Mutex).Lock", "internal/race.Disable", "sync/atomic.CompareAndSwapInt32", "internal/race.Enable", "internal/race.Acquire", "(*internal/sync.Mutex).lockSlow", "internal/sync.runtime_canSpin", "internal/sync.runtime_doSpin", "internal/sync.throw", "internal/sync.runtime_nanotime", "internal/sync.runtime_SemacquireMutex", "sync/atomic.AddInt32", "(*internal/sync.Mutex).Unlock", "internal/race.ReleaseMerge", "(*internal/sync.Mutex).unlockSlow", "internal/sync.fatal", "internal/sync.runtime_Semrelease", "sync/atomic.LoadUint32", "sync/atomic.StoreUint32"], unfollowed := true, recurses := true, named := ["cablegram/sha.start", "cablegram/sha.rounds"], apart := false, laid := [("cablegram/sha.rounds", laid_cablegram_sha_rounds), ("cablegram/sha.start", laid_cablegram_sha_start)], narrowed := true }
def SignerVerifiesUptoSaid : Prop := signerVerifiesUptoRow.holds Tryd.pinned (OpenSpec.upto signerVerifiesSpec)

/-- 'cablegramlaw17.SignerSigns', WHERE WHAT IT READS IS OF BULK AT MOST 1048576: true; the input reads as it did. -/
def signerSignsUptoRow : OpenClaim := { program := "ytejifhdkgfilgaadoor", sum := "53fc4b42cf726a0a6311a835e6130a8f97c0b82f524aabd7209a51ca1a3e2830", func := "cablegram/cablegramlaw17.SignerSigns", spec := "signerSigns", inPlace := ["sync/atomic.AddInt64", "(*internal/sync.Mutex).Lock", "internal/race.Disable", "sync/atomic.CompareAndSwapInt32", "internal/race.Enable", "internal/race.Acquire", "(*internal/sync.Mutex).lockSlow", "internal/sync.runtime_canSpin", "internal/sync.runtime_doSpin", "internal/sync.throw", "internal/sync.runtime_nanotime", "internal/sync.runtime_SemacquireMutex", "sync/atomic.AddInt32", "(*internal/sync.Mutex).Unlock", "internal/race.ReleaseMerge", "(*internal/sync.Mutex).unlockSlow", "internal/sync.fatal", "internal/sync.runtime_Semrelease", "sync/atomic.LoadUint32", "sync/atomic.StoreUint32"], unfollowed := true, recurses := true, named := ["cablegram/sha.start", "cablegram/sha.rounds"], apart := false, laid := [("cablegram/sha.rounds", laid_cablegram_sha_rounds), ("cablegram/sha.start", laid_cablegram_sha_start)], narrowed := true }
def SignerSignsUptoSaid : Prop := signerSignsUptoRow.holds Tryd.pinned (OpenSpec.upto signerSignsSpec)

/-- 'cablegramlaw17.SignerGoes', WHERE WHAT IT READS IS OF BULK AT MOST 1048576: true; the input reads as it did. -/
def signerGoesUptoRow : OpenClaim := { program := "ytejifhdkgfilgaadoor", sum := "53fc4b42cf726a0a6311a835e6130a8f97c0b82f524aabd7209a51ca1a3e2830", func := "cablegram/cablegramlaw17.SignerGoes", spec := "signerGoes", inPlace := ["sync/atomic.AddInt64", "(*internal/sync.Mutex).Lock", "internal/race.Disable", "sync/atomic.CompareAndSwapInt32", "internal/race.Enable", "internal/race.Acquire", "(*internal/sync.Mutex).lockSlow", "internal/sync.runtime_canSpin", "internal/sync.runtime_doSpin", "internal/sync.throw", "internal/sync.runtime_nanotime", "internal/sync.runtime_SemacquireMutex", "sync/atomic.AddInt32", "(*internal/sync.Mutex).Unlock", "internal/race.ReleaseMerge", "(*internal/sync.Mutex).unlockSlow", "internal/sync.fatal", "internal/sync.runtime_Semrelease", "sync/atomic.LoadUint32", "sync/atomic.StoreUint32"], unfollowed := true, recurses := true, named := ["cablegram/sha.start", "cablegram/sha.rounds"], apart := false, laid := [("cablegram/sha.rounds", laid_cablegram_sha_rounds), ("cablegram/sha.start", laid_cablegram_sha_start)], narrowed := true }
def SignerGoesUptoSaid : Prop := signerGoesUptoRow.holds Tryd.pinned (OpenSpec.upto signerGoesSpec)

/-- 'cablegramlaw05.SealOpens', WHERE WHAT IT READS IS OF BULK AT MOST 1048576: true; the input reads as it did. -/
def sealOpensUptoRow : OpenClaim := { program := "ytejifhdkgfilgaadoor", sum := "53fc4b42cf726a0a6311a835e6130a8f97c0b82f524aabd7209a51ca1a3e2830", func := "cablegram/cablegramlaw05.SealOpens", spec := "sealOpens", inPlace := ["sync/atomic.AddInt64", "(*internal/sync.Mutex).Lock", "internal/race.Disable", "sync/atomic.CompareAndSwapInt32", "internal/race.Enable", "internal/race.Acquire", "(*internal/sync.Mutex).lockSlow", "internal/sync.runtime_canSpin", "internal/sync.runtime_doSpin", "internal/sync.throw", "internal/sync.runtime_nanotime", "internal/sync.runtime_SemacquireMutex", "sync/atomic.AddInt32", "(*internal/sync.Mutex).Unlock", "internal/race.ReleaseMerge", "(*internal/sync.Mutex).unlockSlow", "internal/sync.fatal", "internal/sync.runtime_Semrelease", "sync/atomic.LoadUint32", "sync/atomic.StoreUint32"], unfollowed := true, recurses := true, named := ["cablegram/sha.start", "cablegram/sha.rounds", "cablegram/stream.quarters", "cablegram/stream.start"], apart := false, laid := [("cablegram/sha.rounds", laid_cablegram_sha_rounds), ("cablegram/sha.start", laid_cablegram_sha_start), ("cablegram/stream.start", laid_cablegram_stream_start), ("cablegram/stream.quarters", laid_cablegram_stream_quarters)], narrowed := true }
def SealOpensUptoSaid : Prop := sealOpensUptoRow.holds Tryd.pinned (OpenSpec.upto sealOpensSpec)

/-- 'cablegramlaw05.SealBack', WHERE WHAT IT READS IS OF BULK AT MOST 1048576: true; the input reads as it did. -/
def sealBackUptoRow : OpenClaim := { program := "ytejifhdkgfilgaadoor", sum := "53fc4b42cf726a0a6311a835e6130a8f97c0b82f524aabd7209a51ca1a3e2830", func := "cablegram/cablegramlaw05.SealBack", spec := "sealBack", inPlace := ["sync/atomic.AddInt64", "(*internal/sync.Mutex).Lock", "internal/race.Disable", "sync/atomic.CompareAndSwapInt32", "internal/race.Enable", "internal/race.Acquire", "(*internal/sync.Mutex).lockSlow", "internal/sync.runtime_canSpin", "internal/sync.runtime_doSpin", "internal/sync.throw", "internal/sync.runtime_nanotime", "internal/sync.runtime_SemacquireMutex", "sync/atomic.AddInt32", "(*internal/sync.Mutex).Unlock", "internal/race.ReleaseMerge", "(*internal/sync.Mutex).unlockSlow", "internal/sync.fatal", "internal/sync.runtime_Semrelease", "sync/atomic.LoadUint32", "sync/atomic.StoreUint32"], unfollowed := true, recurses := true, named := ["cablegram/sha.start", "cablegram/sha.rounds", "cablegram/stream.quarters", "cablegram/stream.start"], apart := false, laid := [("cablegram/sha.rounds", laid_cablegram_sha_rounds), ("cablegram/sha.start", laid_cablegram_sha_start), ("cablegram/stream.start", laid_cablegram_stream_start), ("cablegram/stream.quarters", laid_cablegram_stream_quarters)], narrowed := true }
def SealBackUptoSaid : Prop := sealBackUptoRow.holds Tryd.pinned (OpenSpec.upto sealBackSpec)

end Rows
end Go.Proofs.YtejifhdkgfilgaaDoor
