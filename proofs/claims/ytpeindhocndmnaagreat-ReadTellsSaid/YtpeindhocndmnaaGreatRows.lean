/-
  No cell of these rows narrows 'for every input' (looked for: loops, veiled, ifaces, maps, wideKeys, modest, calm, conditions, laid).
  DERIVED. THE GIVEN ROWS OF THIS SEAT. 3 by the template 'for every input the law returns true; each argument reads behind the call as it read before'; 0 by the template 'total and deterministic' (their statements: YtpeindhocndmnaaGreatTotals.lean).
  GIVEN WITH THE SEED: the statements are not yours to turn. If you find one false, say at which input.
  Laid BY PROGRAM, IN A SANDBOX (cutbox-rows.mjs): the forced cells as the released guide's own fill.sh prints them over the translation 7e46e7e085cf67db… (all of the seat's roots in one cut). By AI agents, Wed Nov 11 2026. No macro, syntax, notation, axiom, sorry.
-/
import Derived.Test.YtpeindhocndmnaaGreatChecked
import GoSem.Claim
import GoSem.ClaimJoined
import GoSem.ClaimMapViews
import Derived.JoinedTies
import Derived.KernelRfl
namespace Go.Proofs.YtpeindhocndmnaaGreat
/- THE CELL 'sum', in the pinned program and in every row, IS THE sha256 OF THE DUMP (.gsa) THAT YtpeindhocndmnaaGreatProg.lean LOADS. Nothing in Lean hashes anything: it is a label: what it is worth is what the hold of that sum in a sandbox is worth. -/
noncomputable def Tryz.pinned : Pinned := { name := "ytpeindhocndmnaagreat", sum := "7e46e7e085cf67db71223288ea2bb8eb4821c10fc9f851643cf775477f428c59", checked := Tryz.checked }
namespace Rows
def none {H : Type} : Left H := { results := [], args := [] }

/-- 'bowerlaw13.SiftTells': WHATEVER THE INPUT: true; the input reads as it did. -/
def siftTellsSpec : ChangeSpec := { name := "siftTells", fn := fun _ => fun
  | [d1, d2, d3, d4, d5, d6, d7] => { results := [.lit (.bool true)], args := [d1, d2, d3, d4, d5, d6, d7] }
  | _ => none }
def siftTellsRow : OpenClaim := { program := "ytpeindhocndmnaagreat", sum := "7e46e7e085cf67db71223288ea2bb8eb4821c10fc9f851643cf775477f428c59", func := "bower/bowerlaw13.SiftTells", spec := "siftTells", unfollowed := true, recurses := true, plainKeys := false, apart := false }
def SiftTellsSaid : Prop := siftTellsRow.holds Tryz.pinned (OpenSpec.ofChange siftTellsSpec)

/-- ITS FALSE NEIGHBOUR: 'it returns false'. Refute it at one input. -/
def siftTellsWrong : ChangeSpec := { name := "siftTells", fn := fun _ => fun
  | [d1, d2, d3, d4, d5, d6, d7] => { results := [.lit (.bool false)], args := [d1, d2, d3, d4, d5, d6, d7] }
  | _ => none }
def SiftTellsWrongFalsely : Prop := siftTellsRow.holds Tryz.pinned (OpenSpec.ofChange siftTellsWrong)

/-- 'bowerlaw08.ReadTells': WHATEVER THE INPUT: true; the input reads as it did. -/
def readTellsSpec : ChangeSpec := { name := "readTells", fn := fun _ => fun
  | [d1, d2, d3, d4, d5, d6] => { results := [.lit (.bool true)], args := [d1, d2, d3, d4, d5, d6] }
  | _ => none }
def readTellsRow : OpenClaim := { program := "ytpeindhocndmnaagreat", sum := "7e46e7e085cf67db71223288ea2bb8eb4821c10fc9f851643cf775477f428c59", func := "bower/bowerlaw08.ReadTells", spec := "readTells", unfollowed := true, recurses := true, plainKeys := false, apart := false }
def ReadTellsSaid : Prop := readTellsRow.holds Tryz.pinned (OpenSpec.ofChange readTellsSpec)

/-- ITS FALSE NEIGHBOUR: 'it returns false'. Refute it at one input. -/
def readTellsWrong : ChangeSpec := { name := "readTells", fn := fun _ => fun
  | [d1, d2, d3, d4, d5, d6] => { results := [.lit (.bool false)], args := [d1, d2, d3, d4, d5, d6] }
  | _ => none }
def ReadTellsWrongFalsely : Prop := readTellsRow.holds Tryz.pinned (OpenSpec.ofChange readTellsWrong)

/-- 'bowerlaw08.ReadBuilds': WHATEVER THE INPUT: true; the input reads as it did. -/
def readBuildsSpec : ChangeSpec := { name := "readBuilds", fn := fun _ => fun
  | [d1, d2, d3] => { results := [.lit (.bool true)], args := [d1, d2, d3] }
  | _ => none }
def readBuildsRow : OpenClaim := { program := "ytpeindhocndmnaagreat", sum := "7e46e7e085cf67db71223288ea2bb8eb4821c10fc9f851643cf775477f428c59", func := "bower/bowerlaw08.ReadBuilds", spec := "readBuilds", unfollowed := true, recurses := true, plainKeys := false, apart := false }
def ReadBuildsSaid : Prop := readBuildsRow.holds Tryz.pinned (OpenSpec.ofChange readBuildsSpec)

/-- ITS FALSE NEIGHBOUR: 'it returns false'. Refute it at one input. -/
def readBuildsWrong : ChangeSpec := { name := "readBuilds", fn := fun _ => fun
  | [d1, d2, d3] => { results := [.lit (.bool false)], args := [d1, d2, d3] }
  | _ => none }
def ReadBuildsWrongFalsely : Prop := readBuildsRow.holds Tryz.pinned (OpenSpec.ofChange readBuildsWrong)

/- THE SECOND FORM. 'bulk': how many values and letters a reading holds, each counted each time it is reached (what is shared counts as often as it is met; a slice's spare places count too). A statement '..UptoSaid' is the law's where the arguments, and the package variables that the reading takes, are together of bulk at most 1048576: NARROWER than '..Said'. Prove '..Said' where nothing that the law and all that it calls make is longer than what came in: it says more and counts as full. Else prove '..UptoSaid'. A law counts once. -/
mutual
def uptoBulk {H : Type} : DataW H → Nat
  | .lit (.string bytes) => bytes.length + 1
  | .lit _ => 1
  | .nil => 1
  | .ptr d => uptoBulk d + 1
  | .slice elems spare => uptoBulkAll elems + uptoBulkAll spare + 1
  | .agg parts => uptoBulkAll parts + 1
  | .iface _ d => uptoBulk d + 1
  | .map entries => uptoBulkEntries entries + 1
  | .held _ => 1
def uptoBulkAll {H : Type} : List (DataW H) → Nat
  | [] => 0
  | d :: r => uptoBulk d + uptoBulkAll r
def uptoBulkEntries {H : Type} : List (Lit × DataW H) → Nat
  | [] => 0
  | x :: r => uptoBulkEntry x + uptoBulkEntries r
def uptoBulkEntry {H : Type} : Lit × DataW H → Nat
  | (.string bytes, d) => bytes.length + uptoBulk d + 1
  | (_, d) => uptoBulk d + 1
 end
def uptoSmall : (H : Type) → List (DataW H) → Bool := fun _ ds => decide (uptoBulkAll ds ≤ 1048576)
def OpenSpec.upto (s : _root_.Go.ChangeSpec) : _root_.Go.OpenSpec := { _root_.Go.OpenSpec.ofChange s with cond := some uptoSmall }

/-- 'bowerlaw13.SiftTells', WHERE WHAT IT READS IS OF BULK AT MOST 1048576: true; the input reads as it did. -/
def siftTellsUptoRow : OpenClaim := { program := "ytpeindhocndmnaagreat", sum := "7e46e7e085cf67db71223288ea2bb8eb4821c10fc9f851643cf775477f428c59", func := "bower/bowerlaw13.SiftTells", spec := "siftTells", unfollowed := true, recurses := true, plainKeys := false, apart := false, narrowed := true }
def SiftTellsUptoSaid : Prop := siftTellsUptoRow.holds Tryz.pinned (OpenSpec.upto siftTellsSpec)

/-- 'bowerlaw08.ReadTells', WHERE WHAT IT READS IS OF BULK AT MOST 1048576: true; the input reads as it did. -/
def readTellsUptoRow : OpenClaim := { program := "ytpeindhocndmnaagreat", sum := "7e46e7e085cf67db71223288ea2bb8eb4821c10fc9f851643cf775477f428c59", func := "bower/bowerlaw08.ReadTells", spec := "readTells", unfollowed := true, recurses := true, plainKeys := false, apart := false, narrowed := true }
def ReadTellsUptoSaid : Prop := readTellsUptoRow.holds Tryz.pinned (OpenSpec.upto readTellsSpec)

/-- 'bowerlaw08.ReadBuilds', WHERE WHAT IT READS IS OF BULK AT MOST 1048576: true; the input reads as it did. -/
def readBuildsUptoRow : OpenClaim := { program := "ytpeindhocndmnaagreat", sum := "7e46e7e085cf67db71223288ea2bb8eb4821c10fc9f851643cf775477f428c59", func := "bower/bowerlaw08.ReadBuilds", spec := "readBuilds", unfollowed := true, recurses := true, plainKeys := false, apart := false, narrowed := true }
def ReadBuildsUptoSaid : Prop := readBuildsUptoRow.holds Tryz.pinned (OpenSpec.upto readBuildsSpec)

end Rows
end Go.Proofs.YtpeindhocndmnaaGreat
