/-
  NARROWER THAN 'FOR EVERY INPUT', by the rows' own cells (each row's printed sentence says how): RecBack: loops.
  DERIVED. THE GIVEN ROWS OF THIS SEAT. 14 by the template 'for every input the law returns true; each argument reads behind the call as it read before'; 0 by the template 'total and deterministic' (their statements: YtgkoblgpadpcjaaTotals.lean).
  GIVEN WITH THE SEED: the statements are not yours to turn. If you find one false, say at which input.
  Laid BY PROGRAM, IN A SANDBOX (cutbox-rows.mjs): the forced cells as the released guide's own fill.sh prints them over the translation 4dc9588080665c2a… (all of the seat's roots in one cut). By AI agents, Wed Nov 11 2026. No macro, syntax, notation, axiom, sorry.
-/
import Derived.Test.YtgkoblgpadpcjaaChecked
import GoSem.Claim
import GoSem.ClaimJoined
import GoSem.ClaimMapViews
import Derived.JoinedTies
import Derived.KernelRfl
namespace Go.Proofs.Ytgkoblgpadpcjaa
/- THE CELL 'sum', in the pinned program and in every row, IS THE sha256 OF THE DUMP (.gsa) THAT YtgkoblgpadpcjaaProg.lean LOADS. Nothing in Lean hashes anything: it is a label: what it is worth is what the hold of that sum in a sandbox is worth. -/
noncomputable def Try.pinned : Pinned := { name := "ytgkoblgpadpcjaa", sum := "4dc9588080665c2a6aa896ccdb341dcda125c228c2d6a29877e6bf7040ae5910", checked := Try.checked }
namespace Rows
def none {H : Type} : Left H := { results := [], args := [] }

/-- 'farrierlaw02.CrcSums': WHATEVER THE INPUT: true; the input reads as it did. -/
def crcSumsSpec : ChangeSpec := { name := "crcSums", fn := fun _ => fun
  | [d] => { results := [.lit (.bool true)], args := [d] }
  | _ => none }
def crcSumsRow : OpenClaim := { program := "ytgkoblgpadpcjaa", sum := "4dc9588080665c2a6aa896ccdb341dcda125c228c2d6a29877e6bf7040ae5910", func := "farrier/farrierlaw02.CrcSums", spec := "crcSums", plainKeys := false, apart := false }
def CrcSumsSaid : Prop := crcSumsRow.holds Try.pinned (OpenSpec.ofChange crcSumsSpec)

/-- ITS FALSE NEIGHBOUR: 'it returns false'. Refute it at one input. -/
def crcSumsWrong : ChangeSpec := { name := "crcSums", fn := fun _ => fun
  | [d] => { results := [.lit (.bool false)], args := [d] }
  | _ => none }
def CrcSumsWrongFalsely : Prop := crcSumsRow.holds Try.pinned (OpenSpec.ofChange crcSumsWrong)

/-- 'farrierlaw02.CrcTells': WHATEVER THE INPUT: true; the input reads as it did. -/
def crcTellsSpec : ChangeSpec := { name := "crcTells", fn := fun _ => fun
  | [d1, d2, d3] => { results := [.lit (.bool true)], args := [d1, d2, d3] }
  | _ => none }
def crcTellsRow : OpenClaim := { program := "ytgkoblgpadpcjaa", sum := "4dc9588080665c2a6aa896ccdb341dcda125c228c2d6a29877e6bf7040ae5910", func := "farrier/farrierlaw02.CrcTells", spec := "crcTells", plainKeys := false, apart := false }
def CrcTellsSaid : Prop := crcTellsRow.holds Try.pinned (OpenSpec.ofChange crcTellsSpec)

/-- ITS FALSE NEIGHBOUR: 'it returns false'. Refute it at one input. -/
def crcTellsWrong : ChangeSpec := { name := "crcTells", fn := fun _ => fun
  | [d1, d2, d3] => { results := [.lit (.bool false)], args := [d1, d2, d3] }
  | _ => none }
def CrcTellsWrongFalsely : Prop := crcTellsRow.holds Try.pinned (OpenSpec.ofChange crcTellsWrong)

/-- 'farrierlaw02.CrcJoins': WHATEVER THE INPUT: true; the input reads as it did. -/
def crcJoinsSpec : ChangeSpec := { name := "crcJoins", fn := fun _ => fun
  | [d1, d2, d3] => { results := [.lit (.bool true)], args := [d1, d2, d3] }
  | _ => none }
def crcJoinsRow : OpenClaim := { program := "ytgkoblgpadpcjaa", sum := "4dc9588080665c2a6aa896ccdb341dcda125c228c2d6a29877e6bf7040ae5910", func := "farrier/farrierlaw02.CrcJoins", spec := "crcJoins", plainKeys := false, apart := false }
def CrcJoinsSaid : Prop := crcJoinsRow.holds Try.pinned (OpenSpec.ofChange crcJoinsSpec)

/-- ITS FALSE NEIGHBOUR: 'it returns false'. Refute it at one input. -/
def crcJoinsWrong : ChangeSpec := { name := "crcJoins", fn := fun _ => fun
  | [d1, d2, d3] => { results := [.lit (.bool false)], args := [d1, d2, d3] }
  | _ => none }
def CrcJoinsWrongFalsely : Prop := crcJoinsRow.holds Try.pinned (OpenSpec.ofChange crcJoinsWrong)

/-- 'farrierlaw03.RecApart': WHATEVER THE INPUT: true; the input reads as it did. -/
def recApartSpec : ChangeSpec := { name := "recApart", fn := fun _ => fun
  | [d1, d2] => { results := [.lit (.bool true)], args := [d1, d2] }
  | _ => none }
def recApartRow : OpenClaim := { program := "ytgkoblgpadpcjaa", sum := "4dc9588080665c2a6aa896ccdb341dcda125c228c2d6a29877e6bf7040ae5910", func := "farrier/farrierlaw03.RecApart", spec := "recApart", plainKeys := false, apart := false }
def RecApartSaid : Prop := recApartRow.holds Try.pinned (OpenSpec.ofChange recApartSpec)

/-- ITS FALSE NEIGHBOUR: 'it returns false'. Refute it at one input. -/
def recApartWrong : ChangeSpec := { name := "recApart", fn := fun _ => fun
  | [d1, d2] => { results := [.lit (.bool false)], args := [d1, d2] }
  | _ => none }
def RecApartWrongFalsely : Prop := recApartRow.holds Try.pinned (OpenSpec.ofChange recApartWrong)

/-- 'farrierlaw03.RecBack': WHATEVER THE INPUT: true; the input reads as it did. -/
def recBackSpec : ChangeSpec := { name := "recBack", fn := fun _ => fun
  | [d] => { results := [.lit (.bool true)], args := [d] }
  | _ => none }
def recBackRow : OpenClaim := { program := "ytgkoblgpadpcjaa", sum := "4dc9588080665c2a6aa896ccdb341dcda125c228c2d6a29877e6bf7040ae5910", func := "farrier/farrierlaw03.RecBack", spec := "recBack", unfollowed := true, recurses := true, loops := true, plainKeys := false, apart := false }
def RecBackSaid : Prop := recBackRow.holds Try.pinned (OpenSpec.ofChange recBackSpec)

/-- ITS FALSE NEIGHBOUR: 'it returns false'. Refute it at one input. -/
def recBackWrong : ChangeSpec := { name := "recBack", fn := fun _ => fun
  | [d] => { results := [.lit (.bool false)], args := [d] }
  | _ => none }
def RecBackWrongFalsely : Prop := recBackRow.holds Try.pinned (OpenSpec.ofChange recBackWrong)

/-- 'farrierlaw03.RecBounds': WHATEVER THE INPUT: true; the input reads as it did. -/
def recBoundsSpec : ChangeSpec := { name := "recBounds", fn := fun _ => fun
  | [d1, d2, d3] => { results := [.lit (.bool true)], args := [d1, d2, d3] }
  | _ => none }
def recBoundsRow : OpenClaim := { program := "ytgkoblgpadpcjaa", sum := "4dc9588080665c2a6aa896ccdb341dcda125c228c2d6a29877e6bf7040ae5910", func := "farrier/farrierlaw03.RecBounds", spec := "recBounds", plainKeys := false, apart := false }
def RecBoundsSaid : Prop := recBoundsRow.holds Try.pinned (OpenSpec.ofChange recBoundsSpec)

/-- ITS FALSE NEIGHBOUR: 'it returns false'. Refute it at one input. -/
def recBoundsWrong : ChangeSpec := { name := "recBounds", fn := fun _ => fun
  | [d1, d2, d3] => { results := [.lit (.bool false)], args := [d1, d2, d3] }
  | _ => none }
def RecBoundsWrongFalsely : Prop := recBoundsRow.holds Try.pinned (OpenSpec.ofChange recBoundsWrong)

/-- 'farrierlaw01.DiskKeeps': WHATEVER THE INPUT: true; the input reads as it did. -/
def diskKeepsSpec : ChangeSpec := { name := "diskKeeps", fn := fun _ => fun
  | [d1, d2, d3, d4] => { results := [.lit (.bool true)], args := [d1, d2, d3, d4] }
  | _ => none }
def diskKeepsRow : OpenClaim := { program := "ytgkoblgpadpcjaa", sum := "4dc9588080665c2a6aa896ccdb341dcda125c228c2d6a29877e6bf7040ae5910", func := "farrier/farrierlaw01.DiskKeeps", spec := "diskKeeps", plainKeys := false, apart := false }
def DiskKeepsSaid : Prop := diskKeepsRow.holds Try.pinned (OpenSpec.ofChange diskKeepsSpec)

/-- ITS FALSE NEIGHBOUR: 'it returns false'. Refute it at one input. -/
def diskKeepsWrong : ChangeSpec := { name := "diskKeeps", fn := fun _ => fun
  | [d1, d2, d3, d4] => { results := [.lit (.bool false)], args := [d1, d2, d3, d4] }
  | _ => none }
def DiskKeepsWrongFalsely : Prop := diskKeepsRow.holds Try.pinned (OpenSpec.ofChange diskKeepsWrong)

/-- 'farrierlaw01.DiskPower': WHATEVER THE INPUT: true; the input reads as it did. -/
def diskPowerSpec : ChangeSpec := { name := "diskPower", fn := fun _ => fun
  | [d1, d2, d3] => { results := [.lit (.bool true)], args := [d1, d2, d3] }
  | _ => none }
def diskPowerRow : OpenClaim := { program := "ytgkoblgpadpcjaa", sum := "4dc9588080665c2a6aa896ccdb341dcda125c228c2d6a29877e6bf7040ae5910", func := "farrier/farrierlaw01.DiskPower", spec := "diskPower", plainKeys := false, apart := false }
def DiskPowerSaid : Prop := diskPowerRow.holds Try.pinned (OpenSpec.ofChange diskPowerSpec)

/-- ITS FALSE NEIGHBOUR: 'it returns false'. Refute it at one input. -/
def diskPowerWrong : ChangeSpec := { name := "diskPower", fn := fun _ => fun
  | [d1, d2, d3] => { results := [.lit (.bool false)], args := [d1, d2, d3] }
  | _ => none }
def DiskPowerWrongFalsely : Prop := diskPowerRow.holds Try.pinned (OpenSpec.ofChange diskPowerWrong)

/-- 'farrierlaw01.DiskPlays': WHATEVER THE INPUT: true; the input reads as it did. -/
def diskPlaysSpec : ChangeSpec := { name := "diskPlays", fn := fun _ => fun
  | [d1, d2] => { results := [.lit (.bool true)], args := [d1, d2] }
  | _ => none }
def diskPlaysRow : OpenClaim := { program := "ytgkoblgpadpcjaa", sum := "4dc9588080665c2a6aa896ccdb341dcda125c228c2d6a29877e6bf7040ae5910", func := "farrier/farrierlaw01.DiskPlays", spec := "diskPlays", plainKeys := false, apart := false }
def DiskPlaysSaid : Prop := diskPlaysRow.holds Try.pinned (OpenSpec.ofChange diskPlaysSpec)

/-- ITS FALSE NEIGHBOUR: 'it returns false'. Refute it at one input. -/
def diskPlaysWrong : ChangeSpec := { name := "diskPlays", fn := fun _ => fun
  | [d1, d2] => { results := [.lit (.bool false)], args := [d1, d2] }
  | _ => none }
def DiskPlaysWrongFalsely : Prop := diskPlaysRow.holds Try.pinned (OpenSpec.ofChange diskPlaysWrong)

/-- 'farrierlaw01.DiskPlans': WHATEVER THE INPUT: true; the input reads as it did. -/
def diskPlansSpec : ChangeSpec := { name := "diskPlans", fn := fun _ => fun
  | [d1, d2, d3] => { results := [.lit (.bool true)], args := [d1, d2, d3] }
  | _ => none }
def diskPlansRow : OpenClaim := { program := "ytgkoblgpadpcjaa", sum := "4dc9588080665c2a6aa896ccdb341dcda125c228c2d6a29877e6bf7040ae5910", func := "farrier/farrierlaw01.DiskPlans", spec := "diskPlans", plainKeys := false, apart := false }
def DiskPlansSaid : Prop := diskPlansRow.holds Try.pinned (OpenSpec.ofChange diskPlansSpec)

/-- ITS FALSE NEIGHBOUR: 'it returns false'. Refute it at one input. -/
def diskPlansWrong : ChangeSpec := { name := "diskPlans", fn := fun _ => fun
  | [d1, d2, d3] => { results := [.lit (.bool false)], args := [d1, d2, d3] }
  | _ => none }
def DiskPlansWrongFalsely : Prop := diskPlansRow.holds Try.pinned (OpenSpec.ofChange diskPlansWrong)

/-- 'farrierlaw04.LogLong': WHATEVER THE INPUT: true; the input reads as it did. -/
def logLongSpec : ChangeSpec := { name := "logLong", fn := fun _ => fun
  | [d1, d2] => { results := [.lit (.bool true)], args := [d1, d2] }
  | _ => none }
def logLongRow : OpenClaim := { program := "ytgkoblgpadpcjaa", sum := "4dc9588080665c2a6aa896ccdb341dcda125c228c2d6a29877e6bf7040ae5910", func := "farrier/farrierlaw04.LogLong", spec := "logLong", plainKeys := false, apart := false }
def LogLongSaid : Prop := logLongRow.holds Try.pinned (OpenSpec.ofChange logLongSpec)

/-- ITS FALSE NEIGHBOUR: 'it returns false'. Refute it at one input. -/
def logLongWrong : ChangeSpec := { name := "logLong", fn := fun _ => fun
  | [d1, d2] => { results := [.lit (.bool false)], args := [d1, d2] }
  | _ => none }
def LogLongWrongFalsely : Prop := logLongRow.holds Try.pinned (OpenSpec.ofChange logLongWrong)

/-- 'farrierlaw04.LogAgain': WHATEVER THE INPUT: true; the input reads as it did. -/
def logAgainSpec : ChangeSpec := { name := "logAgain", fn := fun _ => fun
  | [d1, d2] => { results := [.lit (.bool true)], args := [d1, d2] }
  | _ => none }
def logAgainRow : OpenClaim := { program := "ytgkoblgpadpcjaa", sum := "4dc9588080665c2a6aa896ccdb341dcda125c228c2d6a29877e6bf7040ae5910", func := "farrier/farrierlaw04.LogAgain", spec := "logAgain", plainKeys := false, apart := false }
def LogAgainSaid : Prop := logAgainRow.holds Try.pinned (OpenSpec.ofChange logAgainSpec)

/-- ITS FALSE NEIGHBOUR: 'it returns false'. Refute it at one input. -/
def logAgainWrong : ChangeSpec := { name := "logAgain", fn := fun _ => fun
  | [d1, d2] => { results := [.lit (.bool false)], args := [d1, d2] }
  | _ => none }
def LogAgainWrongFalsely : Prop := logAgainRow.holds Try.pinned (OpenSpec.ofChange logAgainWrong)

/-- 'farrierlaw04.LogTorn': WHATEVER THE INPUT: true; the input reads as it did. -/
def logTornSpec : ChangeSpec := { name := "logTorn", fn := fun _ => fun
  | [d1, d2, d3] => { results := [.lit (.bool true)], args := [d1, d2, d3] }
  | _ => none }
def logTornRow : OpenClaim := { program := "ytgkoblgpadpcjaa", sum := "4dc9588080665c2a6aa896ccdb341dcda125c228c2d6a29877e6bf7040ae5910", func := "farrier/farrierlaw04.LogTorn", spec := "logTorn", plainKeys := false, apart := false }
def LogTornSaid : Prop := logTornRow.holds Try.pinned (OpenSpec.ofChange logTornSpec)

/-- ITS FALSE NEIGHBOUR: 'it returns false'. Refute it at one input. -/
def logTornWrong : ChangeSpec := { name := "logTorn", fn := fun _ => fun
  | [d1, d2, d3] => { results := [.lit (.bool false)], args := [d1, d2, d3] }
  | _ => none }
def LogTornWrongFalsely : Prop := logTornRow.holds Try.pinned (OpenSpec.ofChange logTornWrong)

/-- 'farrierlaw04.LogAnews': WHATEVER THE INPUT: true; the input reads as it did. -/
def logAnewsSpec : ChangeSpec := { name := "logAnews", fn := fun _ => fun
  | [d1, d2, d3] => { results := [.lit (.bool true)], args := [d1, d2, d3] }
  | _ => none }
def logAnewsRow : OpenClaim := { program := "ytgkoblgpadpcjaa", sum := "4dc9588080665c2a6aa896ccdb341dcda125c228c2d6a29877e6bf7040ae5910", func := "farrier/farrierlaw04.LogAnews", spec := "logAnews", plainKeys := false, apart := false }
def LogAnewsSaid : Prop := logAnewsRow.holds Try.pinned (OpenSpec.ofChange logAnewsSpec)

/-- ITS FALSE NEIGHBOUR: 'it returns false'. Refute it at one input. -/
def logAnewsWrong : ChangeSpec := { name := "logAnews", fn := fun _ => fun
  | [d1, d2, d3] => { results := [.lit (.bool false)], args := [d1, d2, d3] }
  | _ => none }
def LogAnewsWrongFalsely : Prop := logAnewsRow.holds Try.pinned (OpenSpec.ofChange logAnewsWrong)

/- THE SECOND FORM. 'bulk': how many values and letters a reading holds, each counted each time it is reached (what is shared counts as often as it is met; a slice's spare places count too). A statement '..UptoSaid' is the law's where the arguments, and the package variables that the reading takes, are together of bulk at most 1048576: NARROWER than '..Said'. Prove '..Said' where nothing that the law and all that it calls make is longer than what came in: it says more and counts as full. Else prove '..UptoSaid'. A law counts once. -/
mutual
def uptoBulk {H : Type} : DataW H → Nat
  | .lit (.string bytes) => bytes.length + 1
  | .lit _ => 1
  | .nil => 1
  | .ptr d => uptoBulk d + 1
  | .slice elems spare => uptoBulkAll elems + uptoBulkAll spare + 1
  | .agg parts => uptoBulkAll parts + 1
  | .iface _ d => uptoBulk d + 1
  | .map entries => uptoBulkEntries entries + 1
  | .held _ => 1
def uptoBulkAll {H : Type} : List (DataW H) → Nat
  | [] => 0
  | d :: r => uptoBulk d + uptoBulkAll r
def uptoBulkEntries {H : Type} : List (Lit × DataW H) → Nat
  | [] => 0
  | x :: r => uptoBulkEntry x + uptoBulkEntries r
def uptoBulkEntry {H : Type} : Lit × DataW H → Nat
  | (.string bytes, d) => bytes.length + uptoBulk d + 1
  | (_, d) => uptoBulk d + 1
 end
def uptoSmall : (H : Type) → List (DataW H) → Bool := fun _ ds => decide (uptoBulkAll ds ≤ 1048576)
def OpenSpec.upto (s : _root_.Go.ChangeSpec) : _root_.Go.OpenSpec := { _root_.Go.OpenSpec.ofChange s with cond := some uptoSmall }

/-- 'farrierlaw02.CrcSums', WHERE WHAT IT READS IS OF BULK AT MOST 1048576: true; the input reads as it did. -/
def crcSumsUptoRow : OpenClaim := { program := "ytgkoblgpadpcjaa", sum := "4dc9588080665c2a6aa896ccdb341dcda125c228c2d6a29877e6bf7040ae5910", func := "farrier/farrierlaw02.CrcSums", spec := "crcSums", plainKeys := false, apart := false, narrowed := true }
def CrcSumsUptoSaid : Prop := crcSumsUptoRow.holds Try.pinned (OpenSpec.upto crcSumsSpec)

/-- 'farrierlaw02.CrcTells', WHERE WHAT IT READS IS OF BULK AT MOST 1048576: true; the input reads as it did. -/
def crcTellsUptoRow : OpenClaim := { program := "ytgkoblgpadpcjaa", sum := "4dc9588080665c2a6aa896ccdb341dcda125c228c2d6a29877e6bf7040ae5910", func := "farrier/farrierlaw02.CrcTells", spec := "crcTells", plainKeys := false, apart := false, narrowed := true }
def CrcTellsUptoSaid : Prop := crcTellsUptoRow.holds Try.pinned (OpenSpec.upto crcTellsSpec)

/-- 'farrierlaw02.CrcJoins', WHERE WHAT IT READS IS OF BULK AT MOST 1048576: true; the input reads as it did. -/
def crcJoinsUptoRow : OpenClaim := { program := "ytgkoblgpadpcjaa", sum := "4dc9588080665c2a6aa896ccdb341dcda125c228c2d6a29877e6bf7040ae5910", func := "farrier/farrierlaw02.CrcJoins", spec := "crcJoins", plainKeys := false, apart := false, narrowed := true }
def CrcJoinsUptoSaid : Prop := crcJoinsUptoRow.holds Try.pinned (OpenSpec.upto crcJoinsSpec)

/-- 'farrierlaw03.RecApart', WHERE WHAT IT READS IS OF BULK AT MOST 1048576: true; the input reads as it did. -/
def recApartUptoRow : OpenClaim := { program := "ytgkoblgpadpcjaa", sum := "4dc9588080665c2a6aa896ccdb341dcda125c228c2d6a29877e6bf7040ae5910", func := "farrier/farrierlaw03.RecApart", spec := "recApart", plainKeys := false, apart := false, narrowed := true }
def RecApartUptoSaid : Prop := recApartUptoRow.holds Try.pinned (OpenSpec.upto recApartSpec)

/-- 'farrierlaw03.RecBack', WHERE WHAT IT READS IS OF BULK AT MOST 1048576: true; the input reads as it did. -/
def recBackUptoRow : OpenClaim := { program := "ytgkoblgpadpcjaa", sum := "4dc9588080665c2a6aa896ccdb341dcda125c228c2d6a29877e6bf7040ae5910", func := "farrier/farrierlaw03.RecBack", spec := "recBack", unfollowed := true, recurses := true, loops := true, plainKeys := false, apart := false, narrowed := true }
def RecBackUptoSaid : Prop := recBackUptoRow.holds Try.pinned (OpenSpec.upto recBackSpec)

/-- 'farrierlaw03.RecBounds', WHERE WHAT IT READS IS OF BULK AT MOST 1048576: true; the input reads as it did. -/
def recBoundsUptoRow : OpenClaim := { program := "ytgkoblgpadpcjaa", sum := "4dc9588080665c2a6aa896ccdb341dcda125c228c2d6a29877e6bf7040ae5910", func := "farrier/farrierlaw03.RecBounds", spec := "recBounds", plainKeys := false, apart := false, narrowed := true }
def RecBoundsUptoSaid : Prop := recBoundsUptoRow.holds Try.pinned (OpenSpec.upto recBoundsSpec)

/-- 'farrierlaw01.DiskKeeps', WHERE WHAT IT READS IS OF BULK AT MOST 1048576: true; the input reads as it did. -/
def diskKeepsUptoRow : OpenClaim := { program := "ytgkoblgpadpcjaa", sum := "4dc9588080665c2a6aa896ccdb341dcda125c228c2d6a29877e6bf7040ae5910", func := "farrier/farrierlaw01.DiskKeeps", spec := "diskKeeps", plainKeys := false, apart := false, narrowed := true }
def DiskKeepsUptoSaid : Prop := diskKeepsUptoRow.holds Try.pinned (OpenSpec.upto diskKeepsSpec)

/-- 'farrierlaw01.DiskPower', WHERE WHAT IT READS IS OF BULK AT MOST 1048576: true; the input reads as it did. -/
def diskPowerUptoRow : OpenClaim := { program := "ytgkoblgpadpcjaa", sum := "4dc9588080665c2a6aa896ccdb341dcda125c228c2d6a29877e6bf7040ae5910", func := "farrier/farrierlaw01.DiskPower", spec := "diskPower", plainKeys := false, apart := false, narrowed := true }
def DiskPowerUptoSaid : Prop := diskPowerUptoRow.holds Try.pinned (OpenSpec.upto diskPowerSpec)

/-- 'farrierlaw01.DiskPlays', WHERE WHAT IT READS IS OF BULK AT MOST 1048576: true; the input reads as it did. -/
def diskPlaysUptoRow : OpenClaim := { program := "ytgkoblgpadpcjaa", sum := "4dc9588080665c2a6aa896ccdb341dcda125c228c2d6a29877e6bf7040ae5910", func := "farrier/farrierlaw01.DiskPlays", spec := "diskPlays", plainKeys := false, apart := false, narrowed := true }
def DiskPlaysUptoSaid : Prop := diskPlaysUptoRow.holds Try.pinned (OpenSpec.upto diskPlaysSpec)

/-- 'farrierlaw01.DiskPlans', WHERE WHAT IT READS IS OF BULK AT MOST 1048576: true; the input reads as it did. -/
def diskPlansUptoRow : OpenClaim := { program := "ytgkoblgpadpcjaa", sum := "4dc9588080665c2a6aa896ccdb341dcda125c228c2d6a29877e6bf7040ae5910", func := "farrier/farrierlaw01.DiskPlans", spec := "diskPlans", plainKeys := false, apart := false, narrowed := true }
def DiskPlansUptoSaid : Prop := diskPlansUptoRow.holds Try.pinned (OpenSpec.upto diskPlansSpec)

/-- 'farrierlaw04.LogLong', WHERE WHAT IT READS IS OF BULK AT MOST 1048576: true; the input reads as it did. -/
def logLongUptoRow : OpenClaim := { program := "ytgkoblgpadpcjaa", sum := "4dc9588080665c2a6aa896ccdb341dcda125c228c2d6a29877e6bf7040ae5910", func := "farrier/farrierlaw04.LogLong", spec := "logLong", plainKeys := false, apart := false, narrowed := true }
def LogLongUptoSaid : Prop := logLongUptoRow.holds Try.pinned (OpenSpec.upto logLongSpec)

/-- 'farrierlaw04.LogAgain', WHERE WHAT IT READS IS OF BULK AT MOST 1048576: true; the input reads as it did. -/
def logAgainUptoRow : OpenClaim := { program := "ytgkoblgpadpcjaa", sum := "4dc9588080665c2a6aa896ccdb341dcda125c228c2d6a29877e6bf7040ae5910", func := "farrier/farrierlaw04.LogAgain", spec := "logAgain", plainKeys := false, apart := false, narrowed := true }
def LogAgainUptoSaid : Prop := logAgainUptoRow.holds Try.pinned (OpenSpec.upto logAgainSpec)

/-- 'farrierlaw04.LogTorn', WHERE WHAT IT READS IS OF BULK AT MOST 1048576: true; the input reads as it did. -/
def logTornUptoRow : OpenClaim := { program := "ytgkoblgpadpcjaa", sum := "4dc9588080665c2a6aa896ccdb341dcda125c228c2d6a29877e6bf7040ae5910", func := "farrier/farrierlaw04.LogTorn", spec := "logTorn", plainKeys := false, apart := false, narrowed := true }
def LogTornUptoSaid : Prop := logTornUptoRow.holds Try.pinned (OpenSpec.upto logTornSpec)

/-- 'farrierlaw04.LogAnews', WHERE WHAT IT READS IS OF BULK AT MOST 1048576: true; the input reads as it did. -/
def logAnewsUptoRow : OpenClaim := { program := "ytgkoblgpadpcjaa", sum := "4dc9588080665c2a6aa896ccdb341dcda125c228c2d6a29877e6bf7040ae5910", func := "farrier/farrierlaw04.LogAnews", spec := "logAnews", plainKeys := false, apart := false, narrowed := true }
def LogAnewsUptoSaid : Prop := logAnewsUptoRow.holds Try.pinned (OpenSpec.upto logAnewsSpec)

end Rows
end Go.Proofs.Ytgkoblgpadpcjaa
