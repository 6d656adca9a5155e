/-
  No cell of these rows narrows 'for every input' (looked for: loops, veiled, ifaces, maps, wideKeys, modest, calm, conditions, laid).
  DERIVED. THE GIVEN ROWS OF THIS SEAT. 14 by the template 'for every input the law returns true; each argument reads behind the call as it read before'; 0 by the template 'total and deterministic' (their statements: YtpeindhocndmnaaTotals.lean).
  GIVEN WITH THE SEED: the statements are not yours to turn. If you find one false, say at which input.
  Laid BY PROGRAM, IN A SANDBOX (cutbox-rows.mjs): the forced cells as the released guide's own fill.sh prints them over the translation f536e9045ce32677… (all of the seat's roots in one cut). By AI agents, Wed Nov 11 2026. No macro, syntax, notation, axiom, sorry.
-/
import Derived.Test.YtpeindhocndmnaaChecked
import GoSem.Claim
import GoSem.ClaimJoined
import GoSem.ClaimMapViews
import Derived.JoinedTies
import Derived.KernelRfl
namespace Go.Proofs.Ytpeindhocndmnaa
/- THE CELL 'sum', in the pinned program and in every row, IS THE sha256 OF THE DUMP (.gsa) THAT YtpeindhocndmnaaProg.lean LOADS. Nothing in Lean hashes anything: it is a label: what it is worth is what the hold of that sum in a sandbox is worth. -/
noncomputable def Try.pinned : Pinned := { name := "ytpeindhocndmnaa", sum := "f536e9045ce326777c9717cb577b2dd8d5b29c716198a34673dde21333167093", checked := Try.checked }
namespace Rows
def none {H : Type} : Left H := { results := [], args := [] }

/-- 'bowerlaw07.StorePlays': WHATEVER THE INPUT: true; the input reads as it did. -/
def storePlaysSpec : ChangeSpec := { name := "storePlays", fn := fun _ => fun
  | [d1, d2] => { results := [.lit (.bool true)], args := [d1, d2] }
  | _ => none }
def storePlaysRow : OpenClaim := { program := "ytpeindhocndmnaa", sum := "f536e9045ce326777c9717cb577b2dd8d5b29c716198a34673dde21333167093", func := "bower/bowerlaw07.StorePlays", spec := "storePlays", unfollowed := true, recurses := true, plainKeys := false, apart := false }
def StorePlaysSaid : Prop := storePlaysRow.holds Try.pinned (OpenSpec.ofChange storePlaysSpec)

/-- ITS FALSE NEIGHBOUR: 'it returns false'. Refute it at one input. -/
def storePlaysWrong : ChangeSpec := { name := "storePlays", fn := fun _ => fun
  | [d1, d2] => { results := [.lit (.bool false)], args := [d1, d2] }
  | _ => none }
def StorePlaysWrongFalsely : Prop := storePlaysRow.holds Try.pinned (OpenSpec.ofChange storePlaysWrong)

/-- 'bowerlaw07.StoreReduced': WHATEVER THE INPUT: true; the input reads as it did. -/
def storeReducedSpec : ChangeSpec := { name := "storeReduced", fn := fun _ => fun
  | [d1, d2, d3, d4] => { results := [.lit (.bool true)], args := [d1, d2, d3, d4] }
  | _ => none }
def storeReducedRow : OpenClaim := { program := "ytpeindhocndmnaa", sum := "f536e9045ce326777c9717cb577b2dd8d5b29c716198a34673dde21333167093", func := "bower/bowerlaw07.StoreReduced", spec := "storeReduced", unfollowed := true, recurses := true, plainKeys := false, apart := false }
def StoreReducedSaid : Prop := storeReducedRow.holds Try.pinned (OpenSpec.ofChange storeReducedSpec)

/-- ITS FALSE NEIGHBOUR: 'it returns false'. Refute it at one input. -/
def storeReducedWrong : ChangeSpec := { name := "storeReduced", fn := fun _ => fun
  | [d1, d2, d3, d4] => { results := [.lit (.bool false)], args := [d1, d2, d3, d4] }
  | _ => none }
def StoreReducedWrongFalsely : Prop := storeReducedRow.holds Try.pinned (OpenSpec.ofChange storeReducedWrong)

/-- 'bowerlaw10.OperSwaps': WHATEVER THE INPUT: true; the input reads as it did. -/
def operSwapsSpec : ChangeSpec := { name := "operSwaps", fn := fun _ => fun
  | [d1, d2] => { results := [.lit (.bool true)], args := [d1, d2] }
  | _ => none }
def operSwapsRow : OpenClaim := { program := "ytpeindhocndmnaa", sum := "f536e9045ce326777c9717cb577b2dd8d5b29c716198a34673dde21333167093", func := "bower/bowerlaw10.OperSwaps", spec := "operSwaps", recurses := true, plainKeys := false, apart := false }
def OperSwapsSaid : Prop := operSwapsRow.holds Try.pinned (OpenSpec.ofChange operSwapsSpec)

/-- ITS FALSE NEIGHBOUR: 'it returns false'. Refute it at one input. -/
def operSwapsWrong : ChangeSpec := { name := "operSwaps", fn := fun _ => fun
  | [d1, d2] => { results := [.lit (.bool false)], args := [d1, d2] }
  | _ => none }
def OperSwapsWrongFalsely : Prop := operSwapsRow.holds Try.pinned (OpenSpec.ofChange operSwapsWrong)

/-- 'bowerlaw14.CanonTells': WHATEVER THE INPUT: true; the input reads as it did. -/
def canonTellsSpec : ChangeSpec := { name := "canonTells", fn := fun _ => fun
  | [d1, d2, d3, d4, d5] => { results := [.lit (.bool true)], args := [d1, d2, d3, d4, d5] }
  | _ => none }
def canonTellsRow : OpenClaim := { program := "ytpeindhocndmnaa", sum := "f536e9045ce326777c9717cb577b2dd8d5b29c716198a34673dde21333167093", func := "bower/bowerlaw14.CanonTells", spec := "canonTells", unfollowed := true, recurses := true, plainKeys := false, apart := false }
def CanonTellsSaid : Prop := canonTellsRow.holds Try.pinned (OpenSpec.ofChange canonTellsSpec)

/-- ITS FALSE NEIGHBOUR: 'it returns false'. Refute it at one input. -/
def canonTellsWrong : ChangeSpec := { name := "canonTells", fn := fun _ => fun
  | [d1, d2, d3, d4, d5] => { results := [.lit (.bool false)], args := [d1, d2, d3, d4, d5] }
  | _ => none }
def CanonTellsWrongFalsely : Prop := canonTellsRow.holds Try.pinned (OpenSpec.ofChange canonTellsWrong)

/-- 'bowerlaw14.CanonSmall': WHATEVER THE INPUT: true; the input reads as it did. -/
def canonSmallSpec : ChangeSpec := { name := "canonSmall", fn := fun _ => fun
  | [d1, d2] => { results := [.lit (.bool true)], args := [d1, d2] }
  | _ => none }
def canonSmallRow : OpenClaim := { program := "ytpeindhocndmnaa", sum := "f536e9045ce326777c9717cb577b2dd8d5b29c716198a34673dde21333167093", func := "bower/bowerlaw14.CanonSmall", spec := "canonSmall", unfollowed := true, recurses := true, plainKeys := false, apart := false }
def CanonSmallSaid : Prop := canonSmallRow.holds Try.pinned (OpenSpec.ofChange canonSmallSpec)

/-- ITS FALSE NEIGHBOUR: 'it returns false'. Refute it at one input. -/
def canonSmallWrong : ChangeSpec := { name := "canonSmall", fn := fun _ => fun
  | [d1, d2] => { results := [.lit (.bool false)], args := [d1, d2] }
  | _ => none }
def CanonSmallWrongFalsely : Prop := canonSmallRow.holds Try.pinned (OpenSpec.ofChange canonSmallWrong)

/-- 'bowerlaw10.OperTells': WHATEVER THE INPUT: true; the input reads as it did. -/
def operTellsSpec : ChangeSpec := { name := "operTells", fn := fun _ => fun
  | [d1, d2, d3, d4] => { results := [.lit (.bool true)], args := [d1, d2, d3, d4] }
  | _ => none }
def operTellsRow : OpenClaim := { program := "ytpeindhocndmnaa", sum := "f536e9045ce326777c9717cb577b2dd8d5b29c716198a34673dde21333167093", func := "bower/bowerlaw10.OperTells", spec := "operTells", unfollowed := true, recurses := true, plainKeys := false, apart := false }
def OperTellsSaid : Prop := operTellsRow.holds Try.pinned (OpenSpec.ofChange operTellsSpec)

/-- ITS FALSE NEIGHBOUR: 'it returns false'. Refute it at one input. -/
def operTellsWrong : ChangeSpec := { name := "operTells", fn := fun _ => fun
  | [d1, d2, d3, d4] => { results := [.lit (.bool false)], args := [d1, d2, d3, d4] }
  | _ => none }
def OperTellsWrongFalsely : Prop := operTellsRow.holds Try.pinned (OpenSpec.ofChange operTellsWrong)

/-- 'bowerlaw09.IteTells': WHATEVER THE INPUT: true; the input reads as it did. -/
def iteTellsSpec : ChangeSpec := { name := "iteTells", fn := fun _ => fun
  | [d1, d2, d3, d4] => { results := [.lit (.bool true)], args := [d1, d2, d3, d4] }
  | _ => none }
def iteTellsRow : OpenClaim := { program := "ytpeindhocndmnaa", sum := "f536e9045ce326777c9717cb577b2dd8d5b29c716198a34673dde21333167093", func := "bower/bowerlaw09.IteTells", spec := "iteTells", unfollowed := true, recurses := true, plainKeys := false, apart := false }
def IteTellsSaid : Prop := iteTellsRow.holds Try.pinned (OpenSpec.ofChange iteTellsSpec)

/-- ITS FALSE NEIGHBOUR: 'it returns false'. Refute it at one input. -/
def iteTellsWrong : ChangeSpec := { name := "iteTells", fn := fun _ => fun
  | [d1, d2, d3, d4] => { results := [.lit (.bool false)], args := [d1, d2, d3, d4] }
  | _ => none }
def IteTellsWrongFalsely : Prop := iteTellsRow.holds Try.pinned (OpenSpec.ofChange iteTellsWrong)

/-- 'bowerlaw09.IteSame': WHATEVER THE INPUT: true; the input reads as it did. -/
def iteSameSpec : ChangeSpec := { name := "iteSame", fn := fun _ => fun
  | [d1, d2, d3, d4, d5] => { results := [.lit (.bool true)], args := [d1, d2, d3, d4, d5] }
  | _ => none }
def iteSameRow : OpenClaim := { program := "ytpeindhocndmnaa", sum := "f536e9045ce326777c9717cb577b2dd8d5b29c716198a34673dde21333167093", func := "bower/bowerlaw09.IteSame", spec := "iteSame", unfollowed := true, recurses := true, plainKeys := false, apart := false }
def IteSameSaid : Prop := iteSameRow.holds Try.pinned (OpenSpec.ofChange iteSameSpec)

/-- ITS FALSE NEIGHBOUR: 'it returns false'. Refute it at one input. -/
def iteSameWrong : ChangeSpec := { name := "iteSame", fn := fun _ => fun
  | [d1, d2, d3, d4, d5] => { results := [.lit (.bool false)], args := [d1, d2, d3, d4, d5] }
  | _ => none }
def IteSameWrongFalsely : Prop := iteSameRow.holds Try.pinned (OpenSpec.ofChange iteSameWrong)

/-- 'bowerlaw11.QuantTells': WHATEVER THE INPUT: true; the input reads as it did. -/
def quantTellsSpec : ChangeSpec := { name := "quantTells", fn := fun _ => fun
  | [d1, d2, d3, d4] => { results := [.lit (.bool true)], args := [d1, d2, d3, d4] }
  | _ => none }
def quantTellsRow : OpenClaim := { program := "ytpeindhocndmnaa", sum := "f536e9045ce326777c9717cb577b2dd8d5b29c716198a34673dde21333167093", func := "bower/bowerlaw11.QuantTells", spec := "quantTells", unfollowed := true, recurses := true, plainKeys := false, apart := false }
def QuantTellsSaid : Prop := quantTellsRow.holds Try.pinned (OpenSpec.ofChange quantTellsSpec)

/-- ITS FALSE NEIGHBOUR: 'it returns false'. Refute it at one input. -/
def quantTellsWrong : ChangeSpec := { name := "quantTells", fn := fun _ => fun
  | [d1, d2, d3, d4] => { results := [.lit (.bool false)], args := [d1, d2, d3, d4] }
  | _ => none }
def QuantTellsWrongFalsely : Prop := quantTellsRow.holds Try.pinned (OpenSpec.ofChange quantTellsWrong)

/-- 'bowerlaw12.SweepTells': WHATEVER THE INPUT: true; the input reads as it did. -/
def sweepTellsSpec : ChangeSpec := { name := "sweepTells", fn := fun _ => fun
  | [d1, d2, d3, d4] => { results := [.lit (.bool true)], args := [d1, d2, d3, d4] }
  | _ => none }
def sweepTellsRow : OpenClaim := { program := "ytpeindhocndmnaa", sum := "f536e9045ce326777c9717cb577b2dd8d5b29c716198a34673dde21333167093", func := "bower/bowerlaw12.SweepTells", spec := "sweepTells", unfollowed := true, recurses := true, plainKeys := false, apart := false }
def SweepTellsSaid : Prop := sweepTellsRow.holds Try.pinned (OpenSpec.ofChange sweepTellsSpec)

/-- ITS FALSE NEIGHBOUR: 'it returns false'. Refute it at one input. -/
def sweepTellsWrong : ChangeSpec := { name := "sweepTells", fn := fun _ => fun
  | [d1, d2, d3, d4] => { results := [.lit (.bool false)], args := [d1, d2, d3, d4] }
  | _ => none }
def SweepTellsWrongFalsely : Prop := sweepTellsRow.holds Try.pinned (OpenSpec.ofChange sweepTellsWrong)

/-- 'bowerlaw12.SweepKeeps': WHATEVER THE INPUT: true; the input reads as it did. -/
def sweepKeepsSpec : ChangeSpec := { name := "sweepKeeps", fn := fun _ => fun
  | [d1, d2, d3] => { results := [.lit (.bool true)], args := [d1, d2, d3] }
  | _ => none }
def sweepKeepsRow : OpenClaim := { program := "ytpeindhocndmnaa", sum := "f536e9045ce326777c9717cb577b2dd8d5b29c716198a34673dde21333167093", func := "bower/bowerlaw12.SweepKeeps", spec := "sweepKeeps", unfollowed := true, recurses := true, plainKeys := false, apart := false }
def SweepKeepsSaid : Prop := sweepKeepsRow.holds Try.pinned (OpenSpec.ofChange sweepKeepsSpec)

/-- ITS FALSE NEIGHBOUR: 'it returns false'. Refute it at one input. -/
def sweepKeepsWrong : ChangeSpec := { name := "sweepKeeps", fn := fun _ => fun
  | [d1, d2, d3] => { results := [.lit (.bool false)], args := [d1, d2, d3] }
  | _ => none }
def SweepKeepsWrongFalsely : Prop := sweepKeepsRow.holds Try.pinned (OpenSpec.ofChange sweepKeepsWrong)

/-- 'bowerlaw08.ReadBack': WHATEVER THE INPUT: true; the input reads as it did. -/
def readBackSpec : ChangeSpec := { name := "readBack", fn := fun _ => fun
  | [d1, d2, d3, d4] => { results := [.lit (.bool true)], args := [d1, d2, d3, d4] }
  | _ => none }
def readBackRow : OpenClaim := { program := "ytpeindhocndmnaa", sum := "f536e9045ce326777c9717cb577b2dd8d5b29c716198a34673dde21333167093", func := "bower/bowerlaw08.ReadBack", spec := "readBack", unfollowed := true, recurses := true, plainKeys := false, apart := false }
def ReadBackSaid : Prop := readBackRow.holds Try.pinned (OpenSpec.ofChange readBackSpec)

/-- ITS FALSE NEIGHBOUR: 'it returns false'. Refute it at one input. -/
def readBackWrong : ChangeSpec := { name := "readBack", fn := fun _ => fun
  | [d1, d2, d3, d4] => { results := [.lit (.bool false)], args := [d1, d2, d3, d4] }
  | _ => none }
def ReadBackWrongFalsely : Prop := readBackRow.holds Try.pinned (OpenSpec.ofChange readBackWrong)

/-- 'bowerlaw13.SiftKeeps': WHATEVER THE INPUT: true; the input reads as it did. -/
def siftKeepsSpec : ChangeSpec := { name := "siftKeeps", fn := fun _ => fun
  | [d1, d2, d3, d4] => { results := [.lit (.bool true)], args := [d1, d2, d3, d4] }
  | _ => none }
def siftKeepsRow : OpenClaim := { program := "ytpeindhocndmnaa", sum := "f536e9045ce326777c9717cb577b2dd8d5b29c716198a34673dde21333167093", func := "bower/bowerlaw13.SiftKeeps", spec := "siftKeeps", unfollowed := true, recurses := true, plainKeys := false, apart := false }
def SiftKeepsSaid : Prop := siftKeepsRow.holds Try.pinned (OpenSpec.ofChange siftKeepsSpec)

/-- ITS FALSE NEIGHBOUR: 'it returns false'. Refute it at one input. -/
def siftKeepsWrong : ChangeSpec := { name := "siftKeeps", fn := fun _ => fun
  | [d1, d2, d3, d4] => { results := [.lit (.bool false)], args := [d1, d2, d3, d4] }
  | _ => none }
def SiftKeepsWrongFalsely : Prop := siftKeepsRow.holds Try.pinned (OpenSpec.ofChange siftKeepsWrong)

/-- 'bowerlaw11.QuantReads': WHATEVER THE INPUT: true; the input reads as it did. -/
def quantReadsSpec : ChangeSpec := { name := "quantReads", fn := fun _ => fun
  | [d1, d2, d3, d4, d5] => { results := [.lit (.bool true)], args := [d1, d2, d3, d4, d5] }
  | _ => none }
def quantReadsRow : OpenClaim := { program := "ytpeindhocndmnaa", sum := "f536e9045ce326777c9717cb577b2dd8d5b29c716198a34673dde21333167093", func := "bower/bowerlaw11.QuantReads", spec := "quantReads", unfollowed := true, recurses := true, plainKeys := false, apart := false }
def QuantReadsSaid : Prop := quantReadsRow.holds Try.pinned (OpenSpec.ofChange quantReadsSpec)

/-- ITS FALSE NEIGHBOUR: 'it returns false'. Refute it at one input. -/
def quantReadsWrong : ChangeSpec := { name := "quantReads", fn := fun _ => fun
  | [d1, d2, d3, d4, d5] => { results := [.lit (.bool false)], args := [d1, d2, d3, d4, d5] }
  | _ => none }
def QuantReadsWrongFalsely : Prop := quantReadsRow.holds Try.pinned (OpenSpec.ofChange quantReadsWrong)

/- THE SECOND FORM. 'bulk': how many values and letters a reading holds, each counted each time it is reached (what is shared counts as often as it is met; a slice's spare places count too). A statement '..UptoSaid' is the law's where the arguments, and the package variables that the reading takes, are together of bulk at most 1048576: NARROWER than '..Said'. Prove '..Said' where nothing that the law and all that it calls make is longer than what came in: it says more and counts as full. Else prove '..UptoSaid'. A law counts once. -/
mutual
def uptoBulk {H : Type} : DataW H → Nat
  | .lit (.string bytes) => bytes.length + 1
  | .lit _ => 1
  | .nil => 1
  | .ptr d => uptoBulk d + 1
  | .slice elems spare => uptoBulkAll elems + uptoBulkAll spare + 1
  | .agg parts => uptoBulkAll parts + 1
  | .iface _ d => uptoBulk d + 1
  | .map entries => uptoBulkEntries entries + 1
  | .held _ => 1
def uptoBulkAll {H : Type} : List (DataW H) → Nat
  | [] => 0
  | d :: r => uptoBulk d + uptoBulkAll r
def uptoBulkEntries {H : Type} : List (Lit × DataW H) → Nat
  | [] => 0
  | x :: r => uptoBulkEntry x + uptoBulkEntries r
def uptoBulkEntry {H : Type} : Lit × DataW H → Nat
  | (.string bytes, d) => bytes.length + uptoBulk d + 1
  | (_, d) => uptoBulk d + 1
 end
def uptoSmall : (H : Type) → List (DataW H) → Bool := fun _ ds => decide (uptoBulkAll ds ≤ 1048576)
def OpenSpec.upto (s : _root_.Go.ChangeSpec) : _root_.Go.OpenSpec := { _root_.Go.OpenSpec.ofChange s with cond := some uptoSmall }

/-- 'bowerlaw07.StorePlays', WHERE WHAT IT READS IS OF BULK AT MOST 1048576: true; the input reads as it did. -/
def storePlaysUptoRow : OpenClaim := { program := "ytpeindhocndmnaa", sum := "f536e9045ce326777c9717cb577b2dd8d5b29c716198a34673dde21333167093", func := "bower/bowerlaw07.StorePlays", spec := "storePlays", unfollowed := true, recurses := true, plainKeys := false, apart := false, narrowed := true }
def StorePlaysUptoSaid : Prop := storePlaysUptoRow.holds Try.pinned (OpenSpec.upto storePlaysSpec)

/-- 'bowerlaw07.StoreReduced', WHERE WHAT IT READS IS OF BULK AT MOST 1048576: true; the input reads as it did. -/
def storeReducedUptoRow : OpenClaim := { program := "ytpeindhocndmnaa", sum := "f536e9045ce326777c9717cb577b2dd8d5b29c716198a34673dde21333167093", func := "bower/bowerlaw07.StoreReduced", spec := "storeReduced", unfollowed := true, recurses := true, plainKeys := false, apart := false, narrowed := true }
def StoreReducedUptoSaid : Prop := storeReducedUptoRow.holds Try.pinned (OpenSpec.upto storeReducedSpec)

/-- 'bowerlaw10.OperSwaps', WHERE WHAT IT READS IS OF BULK AT MOST 1048576: true; the input reads as it did. -/
def operSwapsUptoRow : OpenClaim := { program := "ytpeindhocndmnaa", sum := "f536e9045ce326777c9717cb577b2dd8d5b29c716198a34673dde21333167093", func := "bower/bowerlaw10.OperSwaps", spec := "operSwaps", recurses := true, plainKeys := false, apart := false, narrowed := true }
def OperSwapsUptoSaid : Prop := operSwapsUptoRow.holds Try.pinned (OpenSpec.upto operSwapsSpec)

/-- 'bowerlaw14.CanonTells', WHERE WHAT IT READS IS OF BULK AT MOST 1048576: true; the input reads as it did. -/
def canonTellsUptoRow : OpenClaim := { program := "ytpeindhocndmnaa", sum := "f536e9045ce326777c9717cb577b2dd8d5b29c716198a34673dde21333167093", func := "bower/bowerlaw14.CanonTells", spec := "canonTells", unfollowed := true, recurses := true, plainKeys := false, apart := false, narrowed := true }
def CanonTellsUptoSaid : Prop := canonTellsUptoRow.holds Try.pinned (OpenSpec.upto canonTellsSpec)

/-- 'bowerlaw14.CanonSmall', WHERE WHAT IT READS IS OF BULK AT MOST 1048576: true; the input reads as it did. -/
def canonSmallUptoRow : OpenClaim := { program := "ytpeindhocndmnaa", sum := "f536e9045ce326777c9717cb577b2dd8d5b29c716198a34673dde21333167093", func := "bower/bowerlaw14.CanonSmall", spec := "canonSmall", unfollowed := true, recurses := true, plainKeys := false, apart := false, narrowed := true }
def CanonSmallUptoSaid : Prop := canonSmallUptoRow.holds Try.pinned (OpenSpec.upto canonSmallSpec)

/-- 'bowerlaw10.OperTells', WHERE WHAT IT READS IS OF BULK AT MOST 1048576: true; the input reads as it did. -/
def operTellsUptoRow : OpenClaim := { program := "ytpeindhocndmnaa", sum := "f536e9045ce326777c9717cb577b2dd8d5b29c716198a34673dde21333167093", func := "bower/bowerlaw10.OperTells", spec := "operTells", unfollowed := true, recurses := true, plainKeys := false, apart := false, narrowed := true }
def OperTellsUptoSaid : Prop := operTellsUptoRow.holds Try.pinned (OpenSpec.upto operTellsSpec)

/-- 'bowerlaw09.IteTells', WHERE WHAT IT READS IS OF BULK AT MOST 1048576: true; the input reads as it did. -/
def iteTellsUptoRow : OpenClaim := { program := "ytpeindhocndmnaa", sum := "f536e9045ce326777c9717cb577b2dd8d5b29c716198a34673dde21333167093", func := "bower/bowerlaw09.IteTells", spec := "iteTells", unfollowed := true, recurses := true, plainKeys := false, apart := false, narrowed := true }
def IteTellsUptoSaid : Prop := iteTellsUptoRow.holds Try.pinned (OpenSpec.upto iteTellsSpec)

/-- 'bowerlaw09.IteSame', WHERE WHAT IT READS IS OF BULK AT MOST 1048576: true; the input reads as it did. -/
def iteSameUptoRow : OpenClaim := { program := "ytpeindhocndmnaa", sum := "f536e9045ce326777c9717cb577b2dd8d5b29c716198a34673dde21333167093", func := "bower/bowerlaw09.IteSame", spec := "iteSame", unfollowed := true, recurses := true, plainKeys := false, apart := false, narrowed := true }
def IteSameUptoSaid : Prop := iteSameUptoRow.holds Try.pinned (OpenSpec.upto iteSameSpec)

/-- 'bowerlaw11.QuantTells', WHERE WHAT IT READS IS OF BULK AT MOST 1048576: true; the input reads as it did. -/
def quantTellsUptoRow : OpenClaim := { program := "ytpeindhocndmnaa", sum := "f536e9045ce326777c9717cb577b2dd8d5b29c716198a34673dde21333167093", func := "bower/bowerlaw11.QuantTells", spec := "quantTells", unfollowed := true, recurses := true, plainKeys := false, apart := false, narrowed := true }
def QuantTellsUptoSaid : Prop := quantTellsUptoRow.holds Try.pinned (OpenSpec.upto quantTellsSpec)

/-- 'bowerlaw12.SweepTells', WHERE WHAT IT READS IS OF BULK AT MOST 1048576: true; the input reads as it did. -/
def sweepTellsUptoRow : OpenClaim := { program := "ytpeindhocndmnaa", sum := "f536e9045ce326777c9717cb577b2dd8d5b29c716198a34673dde21333167093", func := "bower/bowerlaw12.SweepTells", spec := "sweepTells", unfollowed := true, recurses := true, plainKeys := false, apart := false, narrowed := true }
def SweepTellsUptoSaid : Prop := sweepTellsUptoRow.holds Try.pinned (OpenSpec.upto sweepTellsSpec)

/-- 'bowerlaw12.SweepKeeps', WHERE WHAT IT READS IS OF BULK AT MOST 1048576: true; the input reads as it did. -/
def sweepKeepsUptoRow : OpenClaim := { program := "ytpeindhocndmnaa", sum := "f536e9045ce326777c9717cb577b2dd8d5b29c716198a34673dde21333167093", func := "bower/bowerlaw12.SweepKeeps", spec := "sweepKeeps", unfollowed := true, recurses := true, plainKeys := false, apart := false, narrowed := true }
def SweepKeepsUptoSaid : Prop := sweepKeepsUptoRow.holds Try.pinned (OpenSpec.upto sweepKeepsSpec)

/-- 'bowerlaw08.ReadBack', WHERE WHAT IT READS IS OF BULK AT MOST 1048576: true; the input reads as it did. -/
def readBackUptoRow : OpenClaim := { program := "ytpeindhocndmnaa", sum := "f536e9045ce326777c9717cb577b2dd8d5b29c716198a34673dde21333167093", func := "bower/bowerlaw08.ReadBack", spec := "readBack", unfollowed := true, recurses := true, plainKeys := false, apart := false, narrowed := true }
def ReadBackUptoSaid : Prop := readBackUptoRow.holds Try.pinned (OpenSpec.upto readBackSpec)

/-- 'bowerlaw13.SiftKeeps', WHERE WHAT IT READS IS OF BULK AT MOST 1048576: true; the input reads as it did. -/
def siftKeepsUptoRow : OpenClaim := { program := "ytpeindhocndmnaa", sum := "f536e9045ce326777c9717cb577b2dd8d5b29c716198a34673dde21333167093", func := "bower/bowerlaw13.SiftKeeps", spec := "siftKeeps", unfollowed := true, recurses := true, plainKeys := false, apart := false, narrowed := true }
def SiftKeepsUptoSaid : Prop := siftKeepsUptoRow.holds Try.pinned (OpenSpec.upto siftKeepsSpec)

/-- 'bowerlaw11.QuantReads', WHERE WHAT IT READS IS OF BULK AT MOST 1048576: true; the input reads as it did. -/
def quantReadsUptoRow : OpenClaim := { program := "ytpeindhocndmnaa", sum := "f536e9045ce326777c9717cb577b2dd8d5b29c716198a34673dde21333167093", func := "bower/bowerlaw11.QuantReads", spec := "quantReads", unfollowed := true, recurses := true, plainKeys := false, apart := false, narrowed := true }
def QuantReadsUptoSaid : Prop := quantReadsUptoRow.holds Try.pinned (OpenSpec.upto quantReadsSpec)

end Rows
end Go.Proofs.Ytpeindhocndmnaa
