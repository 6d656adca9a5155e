/-
  No cell of these rows narrows 'for every input' (looked for: loops, veiled, ifaces, maps, wideKeys, modest, calm, conditions, laid).
  DERIVED. THE GIVEN ROWS OF THIS SEAT. 12 by the template 'for every input the law returns true; each argument reads behind the call as it read before'; 0 by the template 'total and deterministic' (their statements: YtjdomnpfgdbckaaTotals.lean).
  GIVEN WITH THE SEED: the statements are not yours to turn. If you find one false, say at which input.
  Laid BY PROGRAM, IN A SANDBOX (cutbox-rows.mjs): the forced cells as the released guide's own fill.sh prints them over the translation 3eb1b9aac1d927ae… (all of the seat's roots in one cut). By AI agents, Wed Nov 11 2026. No macro, syntax, notation, axiom, sorry.
-/
import Derived.Test.YtjdomnpfgdbckaaChecked
import GoSem.Claim
import GoSem.ClaimJoined
import GoSem.ClaimMapViews
import Derived.JoinedTies
import Derived.KernelRfl
namespace Go.Proofs.Ytjdomnpfgdbckaa
/- THE CELL 'sum', in the pinned program and in every row, IS THE sha256 OF THE DUMP (.gsa) THAT YtjdomnpfgdbckaaProg.lean LOADS. Nothing in Lean hashes anything: it is a label: what it is worth is what the hold of that sum in a sandbox is worth. -/
noncomputable def Try.pinned : Pinned := { name := "ytjdomnpfgdbckaa", sum := "3eb1b9aac1d927aeb12a3e4c3f45f37393e2b4c4411ee29e84da8d3701357ce7", checked := Try.checked }
namespace Rows
def none {H : Type} : Left H := { results := [], args := [] }

/-- 'bowerlaw15.HandTells': WHATEVER THE INPUT: true; the input reads as it did. -/
def handTellsSpec : ChangeSpec := { name := "handTells", fn := fun _ => fun
  | [d1, d2, d3, d4] => { results := [.lit (.bool true)], args := [d1, d2, d3, d4] }
  | _ => none }
def handTellsRow : OpenClaim := { program := "ytjdomnpfgdbckaa", sum := "3eb1b9aac1d927aeb12a3e4c3f45f37393e2b4c4411ee29e84da8d3701357ce7", func := "bower/bowerlaw15.HandTells", spec := "handTells", apart := false }
def HandTellsSaid : Prop := handTellsRow.holds Try.pinned (OpenSpec.ofChange handTellsSpec)

/-- ITS FALSE NEIGHBOUR: 'it returns false'. Refute it at one input. -/
def handTellsWrong : ChangeSpec := { name := "handTells", fn := fun _ => fun
  | [d1, d2, d3, d4] => { results := [.lit (.bool false)], args := [d1, d2, d3, d4] }
  | _ => none }
def HandTellsWrongFalsely : Prop := handTellsRow.holds Try.pinned (OpenSpec.ofChange handTellsWrong)

/-- 'bowerlaw15.HandBack': WHATEVER THE INPUT: true; the input reads as it did. -/
def handBackSpec : ChangeSpec := { name := "handBack", fn := fun _ => fun
  | [d1, d2, d3, d4, d5, d6, d7] => { results := [.lit (.bool true)], args := [d1, d2, d3, d4, d5, d6, d7] }
  | _ => none }
def handBackRow : OpenClaim := { program := "ytjdomnpfgdbckaa", sum := "3eb1b9aac1d927aeb12a3e4c3f45f37393e2b4c4411ee29e84da8d3701357ce7", func := "bower/bowerlaw15.HandBack", spec := "handBack", apart := false }
def HandBackSaid : Prop := handBackRow.holds Try.pinned (OpenSpec.ofChange handBackSpec)

/-- ITS FALSE NEIGHBOUR: 'it returns false'. Refute it at one input. -/
def handBackWrong : ChangeSpec := { name := "handBack", fn := fun _ => fun
  | [d1, d2, d3, d4, d5, d6, d7] => { results := [.lit (.bool false)], args := [d1, d2, d3, d4, d5, d6, d7] }
  | _ => none }
def HandBackWrongFalsely : Prop := handBackRow.holds Try.pinned (OpenSpec.ofChange handBackWrong)

/-- 'bowerlaw16.SlotsOnce': WHATEVER THE INPUT: true; the input reads as it did. -/
def slotsOnceSpec : ChangeSpec := { name := "slotsOnce", fn := fun _ => fun
  | [d1, d2] => { results := [.lit (.bool true)], args := [d1, d2] }
  | _ => none }
def slotsOnceRow : OpenClaim := { program := "ytjdomnpfgdbckaa", sum := "3eb1b9aac1d927aeb12a3e4c3f45f37393e2b4c4411ee29e84da8d3701357ce7", func := "bower/bowerlaw16.SlotsOnce", spec := "slotsOnce", apart := false }
def SlotsOnceSaid : Prop := slotsOnceRow.holds Try.pinned (OpenSpec.ofChange slotsOnceSpec)

/-- ITS FALSE NEIGHBOUR: 'it returns false'. Refute it at one input. -/
def slotsOnceWrong : ChangeSpec := { name := "slotsOnce", fn := fun _ => fun
  | [d1, d2] => { results := [.lit (.bool false)], args := [d1, d2] }
  | _ => none }
def SlotsOnceWrongFalsely : Prop := slotsOnceRow.holds Try.pinned (OpenSpec.ofChange slotsOnceWrong)

/-- 'bowerlaw16.SlotsPlays': WHATEVER THE INPUT: true; the input reads as it did. -/
def slotsPlaysSpec : ChangeSpec := { name := "slotsPlays", fn := fun _ => fun
  | [d1, d2] => { results := [.lit (.bool true)], args := [d1, d2] }
  | _ => none }
def slotsPlaysRow : OpenClaim := { program := "ytjdomnpfgdbckaa", sum := "3eb1b9aac1d927aeb12a3e4c3f45f37393e2b4c4411ee29e84da8d3701357ce7", func := "bower/bowerlaw16.SlotsPlays", spec := "slotsPlays", apart := false }
def SlotsPlaysSaid : Prop := slotsPlaysRow.holds Try.pinned (OpenSpec.ofChange slotsPlaysSpec)

/-- ITS FALSE NEIGHBOUR: 'it returns false'. Refute it at one input. -/
def slotsPlaysWrong : ChangeSpec := { name := "slotsPlays", fn := fun _ => fun
  | [d1, d2] => { results := [.lit (.bool false)], args := [d1, d2] }
  | _ => none }
def SlotsPlaysWrongFalsely : Prop := slotsPlaysRow.holds Try.pinned (OpenSpec.ofChange slotsPlaysWrong)

/-- 'bowerlaw06.PermTells': WHATEVER THE INPUT: true; the input reads as it did. -/
def permTellsSpec : ChangeSpec := { name := "permTells", fn := fun _ => fun
  | [d1, d2, d3] => { results := [.lit (.bool true)], args := [d1, d2, d3] }
  | _ => none }
def permTellsRow : OpenClaim := { program := "ytjdomnpfgdbckaa", sum := "3eb1b9aac1d927aeb12a3e4c3f45f37393e2b4c4411ee29e84da8d3701357ce7", func := "bower/bowerlaw06.PermTells", spec := "permTells", apart := false }
def PermTellsSaid : Prop := permTellsRow.holds Try.pinned (OpenSpec.ofChange permTellsSpec)

/-- ITS FALSE NEIGHBOUR: 'it returns false'. Refute it at one input. -/
def permTellsWrong : ChangeSpec := { name := "permTells", fn := fun _ => fun
  | [d1, d2, d3] => { results := [.lit (.bool false)], args := [d1, d2, d3] }
  | _ => none }
def PermTellsWrongFalsely : Prop := permTellsRow.holds Try.pinned (OpenSpec.ofChange permTellsWrong)

/-- 'bowerlaw06.PermBack': WHATEVER THE INPUT: true; the input reads as it did. -/
def permBackSpec : ChangeSpec := { name := "permBack", fn := fun _ => fun
  | [d1, d2, d3] => { results := [.lit (.bool true)], args := [d1, d2, d3] }
  | _ => none }
def permBackRow : OpenClaim := { program := "ytjdomnpfgdbckaa", sum := "3eb1b9aac1d927aeb12a3e4c3f45f37393e2b4c4411ee29e84da8d3701357ce7", func := "bower/bowerlaw06.PermBack", spec := "permBack", apart := false }
def PermBackSaid : Prop := permBackRow.holds Try.pinned (OpenSpec.ofChange permBackSpec)

/-- ITS FALSE NEIGHBOUR: 'it returns false'. Refute it at one input. -/
def permBackWrong : ChangeSpec := { name := "permBack", fn := fun _ => fun
  | [d1, d2, d3] => { results := [.lit (.bool false)], args := [d1, d2, d3] }
  | _ => none }
def PermBackWrongFalsely : Prop := permBackRow.holds Try.pinned (OpenSpec.ofChange permBackWrong)

/-- 'bowerlaw04.ArenaPlays': WHATEVER THE INPUT: true; the input reads as it did. -/
def arenaPlaysSpec : ChangeSpec := { name := "arenaPlays", fn := fun _ => fun
  | [d1, d2] => { results := [.lit (.bool true)], args := [d1, d2] }
  | _ => none }
def arenaPlaysRow : OpenClaim := { program := "ytjdomnpfgdbckaa", sum := "3eb1b9aac1d927aeb12a3e4c3f45f37393e2b4c4411ee29e84da8d3701357ce7", func := "bower/bowerlaw04.ArenaPlays", spec := "arenaPlays", apart := false }
def ArenaPlaysSaid : Prop := arenaPlaysRow.holds Try.pinned (OpenSpec.ofChange arenaPlaysSpec)

/-- ITS FALSE NEIGHBOUR: 'it returns false'. Refute it at one input. -/
def arenaPlaysWrong : ChangeSpec := { name := "arenaPlays", fn := fun _ => fun
  | [d1, d2] => { results := [.lit (.bool false)], args := [d1, d2] }
  | _ => none }
def ArenaPlaysWrongFalsely : Prop := arenaPlaysRow.holds Try.pinned (OpenSpec.ofChange arenaPlaysWrong)

/-- 'bowerlaw04.ArenaApart': WHATEVER THE INPUT: true; the input reads as it did. -/
def arenaApartSpec : ChangeSpec := { name := "arenaApart", fn := fun _ => fun
  | [d1, d2] => { results := [.lit (.bool true)], args := [d1, d2] }
  | _ => none }
def arenaApartRow : OpenClaim := { program := "ytjdomnpfgdbckaa", sum := "3eb1b9aac1d927aeb12a3e4c3f45f37393e2b4c4411ee29e84da8d3701357ce7", func := "bower/bowerlaw04.ArenaApart", spec := "arenaApart", apart := false }
def ArenaApartSaid : Prop := arenaApartRow.holds Try.pinned (OpenSpec.ofChange arenaApartSpec)

/-- ITS FALSE NEIGHBOUR: 'it returns false'. Refute it at one input. -/
def arenaApartWrong : ChangeSpec := { name := "arenaApart", fn := fun _ => fun
  | [d1, d2] => { results := [.lit (.bool false)], args := [d1, d2] }
  | _ => none }
def ArenaApartWrongFalsely : Prop := arenaApartRow.holds Try.pinned (OpenSpec.ofChange arenaApartWrong)

/-- 'bowerlaw17.LedgerPlays': WHATEVER THE INPUT: true; the input reads as it did. -/
def ledgerPlaysSpec : ChangeSpec := { name := "ledgerPlays", fn := fun _ => fun
  | [d1, d2, d3] => { results := [.lit (.bool true)], args := [d1, d2, d3] }
  | _ => none }
def ledgerPlaysRow : OpenClaim := { program := "ytjdomnpfgdbckaa", sum := "3eb1b9aac1d927aeb12a3e4c3f45f37393e2b4c4411ee29e84da8d3701357ce7", func := "bower/bowerlaw17.LedgerPlays", spec := "ledgerPlays", apart := false }
def LedgerPlaysSaid : Prop := ledgerPlaysRow.holds Try.pinned (OpenSpec.ofChange ledgerPlaysSpec)

/-- ITS FALSE NEIGHBOUR: 'it returns false'. Refute it at one input. -/
def ledgerPlaysWrong : ChangeSpec := { name := "ledgerPlays", fn := fun _ => fun
  | [d1, d2, d3] => { results := [.lit (.bool false)], args := [d1, d2, d3] }
  | _ => none }
def LedgerPlaysWrongFalsely : Prop := ledgerPlaysRow.holds Try.pinned (OpenSpec.ofChange ledgerPlaysWrong)

/-- 'bowerlaw17.LedgerKeeps': WHATEVER THE INPUT: true; the input reads as it did. -/
def ledgerKeepsSpec : ChangeSpec := { name := "ledgerKeeps", fn := fun _ => fun
  | [d1, d2] => { results := [.lit (.bool true)], args := [d1, d2] }
  | _ => none }
def ledgerKeepsRow : OpenClaim := { program := "ytjdomnpfgdbckaa", sum := "3eb1b9aac1d927aeb12a3e4c3f45f37393e2b4c4411ee29e84da8d3701357ce7", func := "bower/bowerlaw17.LedgerKeeps", spec := "ledgerKeeps", apart := false }
def LedgerKeepsSaid : Prop := ledgerKeepsRow.holds Try.pinned (OpenSpec.ofChange ledgerKeepsSpec)

/-- ITS FALSE NEIGHBOUR: 'it returns false'. Refute it at one input. -/
def ledgerKeepsWrong : ChangeSpec := { name := "ledgerKeeps", fn := fun _ => fun
  | [d1, d2] => { results := [.lit (.bool false)], args := [d1, d2] }
  | _ => none }
def LedgerKeepsWrongFalsely : Prop := ledgerKeepsRow.holds Try.pinned (OpenSpec.ofChange ledgerKeepsWrong)

/-- 'bowerlaw05.UniqPlays': WHATEVER THE INPUT: true; the input reads as it did. -/
def uniqPlaysSpec : ChangeSpec := { name := "uniqPlays", fn := fun _ => fun
  | [d] => { results := [.lit (.bool true)], args := [d] }
  | _ => none }
def uniqPlaysRow : OpenClaim := { program := "ytjdomnpfgdbckaa", sum := "3eb1b9aac1d927aeb12a3e4c3f45f37393e2b4c4411ee29e84da8d3701357ce7", func := "bower/bowerlaw05.UniqPlays", spec := "uniqPlays", apart := false }
def UniqPlaysSaid : Prop := uniqPlaysRow.holds Try.pinned (OpenSpec.ofChange uniqPlaysSpec)

/-- ITS FALSE NEIGHBOUR: 'it returns false'. Refute it at one input. -/
def uniqPlaysWrong : ChangeSpec := { name := "uniqPlays", fn := fun _ => fun
  | [d] => { results := [.lit (.bool false)], args := [d] }
  | _ => none }
def UniqPlaysWrongFalsely : Prop := uniqPlaysRow.holds Try.pinned (OpenSpec.ofChange uniqPlaysWrong)

/-- 'bowerlaw05.UniqKeeps': WHATEVER THE INPUT: true; the input reads as it did. -/
def uniqKeepsSpec : ChangeSpec := { name := "uniqKeeps", fn := fun _ => fun
  | [d1, d2, d3, d4] => { results := [.lit (.bool true)], args := [d1, d2, d3, d4] }
  | _ => none }
def uniqKeepsRow : OpenClaim := { program := "ytjdomnpfgdbckaa", sum := "3eb1b9aac1d927aeb12a3e4c3f45f37393e2b4c4411ee29e84da8d3701357ce7", func := "bower/bowerlaw05.UniqKeeps", spec := "uniqKeeps", apart := false }
def UniqKeepsSaid : Prop := uniqKeepsRow.holds Try.pinned (OpenSpec.ofChange uniqKeepsSpec)

/-- ITS FALSE NEIGHBOUR: 'it returns false'. Refute it at one input. -/
def uniqKeepsWrong : ChangeSpec := { name := "uniqKeeps", fn := fun _ => fun
  | [d1, d2, d3, d4] => { results := [.lit (.bool false)], args := [d1, d2, d3, d4] }
  | _ => none }
def UniqKeepsWrongFalsely : Prop := uniqKeepsRow.holds Try.pinned (OpenSpec.ofChange uniqKeepsWrong)

/- THE SECOND FORM. 'bulk': how many values and letters a reading holds, each counted each time it is reached (what is shared counts as often as it is met; a slice's spare places count too). A statement '..UptoSaid' is the law's where the arguments, and the package variables that the reading takes, are together of bulk at most 1048576: NARROWER than '..Said'. Prove '..Said' where nothing that the law and all that it calls make is longer than what came in: it says more and counts as full. Else prove '..UptoSaid'. A law counts once. -/
mutual
def uptoBulk {H : Type} : DataW H → Nat
  | .lit (.string bytes) => bytes.length + 1
  | .lit _ => 1
  | .nil => 1
  | .ptr d => uptoBulk d + 1
  | .slice elems spare => uptoBulkAll elems + uptoBulkAll spare + 1
  | .agg parts => uptoBulkAll parts + 1
  | .iface _ d => uptoBulk d + 1
  | .map entries => uptoBulkEntries entries + 1
  | .held _ => 1
def uptoBulkAll {H : Type} : List (DataW H) → Nat
  | [] => 0
  | d :: r => uptoBulk d + uptoBulkAll r
def uptoBulkEntries {H : Type} : List (Lit × DataW H) → Nat
  | [] => 0
  | x :: r => uptoBulkEntry x + uptoBulkEntries r
def uptoBulkEntry {H : Type} : Lit × DataW H → Nat
  | (.string bytes, d) => bytes.length + uptoBulk d + 1
  | (_, d) => uptoBulk d + 1
 end
def uptoSmall : (H : Type) → List (DataW H) → Bool := fun _ ds => decide (uptoBulkAll ds ≤ 1048576)
def OpenSpec.upto (s : _root_.Go.ChangeSpec) : _root_.Go.OpenSpec := { _root_.Go.OpenSpec.ofChange s with cond := some uptoSmall }

/-- 'bowerlaw15.HandTells', WHERE WHAT IT READS IS OF BULK AT MOST 1048576: true; the input reads as it did. -/
def handTellsUptoRow : OpenClaim := { program := "ytjdomnpfgdbckaa", sum := "3eb1b9aac1d927aeb12a3e4c3f45f37393e2b4c4411ee29e84da8d3701357ce7", func := "bower/bowerlaw15.HandTells", spec := "handTells", apart := false, narrowed := true }
def HandTellsUptoSaid : Prop := handTellsUptoRow.holds Try.pinned (OpenSpec.upto handTellsSpec)

/-- 'bowerlaw15.HandBack', WHERE WHAT IT READS IS OF BULK AT MOST 1048576: true; the input reads as it did. -/
def handBackUptoRow : OpenClaim := { program := "ytjdomnpfgdbckaa", sum := "3eb1b9aac1d927aeb12a3e4c3f45f37393e2b4c4411ee29e84da8d3701357ce7", func := "bower/bowerlaw15.HandBack", spec := "handBack", apart := false, narrowed := true }
def HandBackUptoSaid : Prop := handBackUptoRow.holds Try.pinned (OpenSpec.upto handBackSpec)

/-- 'bowerlaw16.SlotsOnce', WHERE WHAT IT READS IS OF BULK AT MOST 1048576: true; the input reads as it did. -/
def slotsOnceUptoRow : OpenClaim := { program := "ytjdomnpfgdbckaa", sum := "3eb1b9aac1d927aeb12a3e4c3f45f37393e2b4c4411ee29e84da8d3701357ce7", func := "bower/bowerlaw16.SlotsOnce", spec := "slotsOnce", apart := false, narrowed := true }
def SlotsOnceUptoSaid : Prop := slotsOnceUptoRow.holds Try.pinned (OpenSpec.upto slotsOnceSpec)

/-- 'bowerlaw16.SlotsPlays', WHERE WHAT IT READS IS OF BULK AT MOST 1048576: true; the input reads as it did. -/
def slotsPlaysUptoRow : OpenClaim := { program := "ytjdomnpfgdbckaa", sum := "3eb1b9aac1d927aeb12a3e4c3f45f37393e2b4c4411ee29e84da8d3701357ce7", func := "bower/bowerlaw16.SlotsPlays", spec := "slotsPlays", apart := false, narrowed := true }
def SlotsPlaysUptoSaid : Prop := slotsPlaysUptoRow.holds Try.pinned (OpenSpec.upto slotsPlaysSpec)

/-- 'bowerlaw06.PermTells', WHERE WHAT IT READS IS OF BULK AT MOST 1048576: true; the input reads as it did. -/
def permTellsUptoRow : OpenClaim := { program := "ytjdomnpfgdbckaa", sum := "3eb1b9aac1d927aeb12a3e4c3f45f37393e2b4c4411ee29e84da8d3701357ce7", func := "bower/bowerlaw06.PermTells", spec := "permTells", apart := false, narrowed := true }
def PermTellsUptoSaid : Prop := permTellsUptoRow.holds Try.pinned (OpenSpec.upto permTellsSpec)

/-- 'bowerlaw06.PermBack', WHERE WHAT IT READS IS OF BULK AT MOST 1048576: true; the input reads as it did. -/
def permBackUptoRow : OpenClaim := { program := "ytjdomnpfgdbckaa", sum := "3eb1b9aac1d927aeb12a3e4c3f45f37393e2b4c4411ee29e84da8d3701357ce7", func := "bower/bowerlaw06.PermBack", spec := "permBack", apart := false, narrowed := true }
def PermBackUptoSaid : Prop := permBackUptoRow.holds Try.pinned (OpenSpec.upto permBackSpec)

/-- 'bowerlaw04.ArenaPlays', WHERE WHAT IT READS IS OF BULK AT MOST 1048576: true; the input reads as it did. -/
def arenaPlaysUptoRow : OpenClaim := { program := "ytjdomnpfgdbckaa", sum := "3eb1b9aac1d927aeb12a3e4c3f45f37393e2b4c4411ee29e84da8d3701357ce7", func := "bower/bowerlaw04.ArenaPlays", spec := "arenaPlays", apart := false, narrowed := true }
def ArenaPlaysUptoSaid : Prop := arenaPlaysUptoRow.holds Try.pinned (OpenSpec.upto arenaPlaysSpec)

/-- 'bowerlaw04.ArenaApart', WHERE WHAT IT READS IS OF BULK AT MOST 1048576: true; the input reads as it did. -/
def arenaApartUptoRow : OpenClaim := { program := "ytjdomnpfgdbckaa", sum := "3eb1b9aac1d927aeb12a3e4c3f45f37393e2b4c4411ee29e84da8d3701357ce7", func := "bower/bowerlaw04.ArenaApart", spec := "arenaApart", apart := false, narrowed := true }
def ArenaApartUptoSaid : Prop := arenaApartUptoRow.holds Try.pinned (OpenSpec.upto arenaApartSpec)

/-- 'bowerlaw17.LedgerPlays', WHERE WHAT IT READS IS OF BULK AT MOST 1048576: true; the input reads as it did. -/
def ledgerPlaysUptoRow : OpenClaim := { program := "ytjdomnpfgdbckaa", sum := "3eb1b9aac1d927aeb12a3e4c3f45f37393e2b4c4411ee29e84da8d3701357ce7", func := "bower/bowerlaw17.LedgerPlays", spec := "ledgerPlays", apart := false, narrowed := true }
def LedgerPlaysUptoSaid : Prop := ledgerPlaysUptoRow.holds Try.pinned (OpenSpec.upto ledgerPlaysSpec)

/-- 'bowerlaw17.LedgerKeeps', WHERE WHAT IT READS IS OF BULK AT MOST 1048576: true; the input reads as it did. -/
def ledgerKeepsUptoRow : OpenClaim := { program := "ytjdomnpfgdbckaa", sum := "3eb1b9aac1d927aeb12a3e4c3f45f37393e2b4c4411ee29e84da8d3701357ce7", func := "bower/bowerlaw17.LedgerKeeps", spec := "ledgerKeeps", apart := false, narrowed := true }
def LedgerKeepsUptoSaid : Prop := ledgerKeepsUptoRow.holds Try.pinned (OpenSpec.upto ledgerKeepsSpec)

/-- 'bowerlaw05.UniqPlays', WHERE WHAT IT READS IS OF BULK AT MOST 1048576: true; the input reads as it did. -/
def uniqPlaysUptoRow : OpenClaim := { program := "ytjdomnpfgdbckaa", sum := "3eb1b9aac1d927aeb12a3e4c3f45f37393e2b4c4411ee29e84da8d3701357ce7", func := "bower/bowerlaw05.UniqPlays", spec := "uniqPlays", apart := false, narrowed := true }
def UniqPlaysUptoSaid : Prop := uniqPlaysUptoRow.holds Try.pinned (OpenSpec.upto uniqPlaysSpec)

/-- 'bowerlaw05.UniqKeeps', WHERE WHAT IT READS IS OF BULK AT MOST 1048576: true; the input reads as it did. -/
def uniqKeepsUptoRow : OpenClaim := { program := "ytjdomnpfgdbckaa", sum := "3eb1b9aac1d927aeb12a3e4c3f45f37393e2b4c4411ee29e84da8d3701357ce7", func := "bower/bowerlaw05.UniqKeeps", spec := "uniqKeeps", apart := false, narrowed := true }
def UniqKeepsUptoSaid : Prop := uniqKeepsUptoRow.holds Try.pinned (OpenSpec.upto uniqKeepsSpec)

end Rows
end Go.Proofs.Ytjdomnpfgdbckaa
