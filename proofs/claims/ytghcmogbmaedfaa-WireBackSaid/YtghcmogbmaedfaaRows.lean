/-
  No cell of these rows narrows 'for every input' (looked for: loops, veiled, ifaces, maps, wideKeys, modest, calm, conditions, laid).
  DERIVED. THE GIVEN ROWS OF THIS SEAT. 9 by the template 'for every input the law returns true; each argument reads behind the call as it read before'; 0 by the template 'total and deterministic' (their statements: YtghcmogbmaedfaaTotals.lean).
  GIVEN WITH THE SEED: the statements are not yours to turn. If you find one false, say at which input.
  Laid BY PROGRAM, IN A SANDBOX (cutbox-rows.mjs): the forced cells as the released guide's own fill.sh prints them over the translation 59a9a1b489c74f74… (all of the seat's roots in one cut). By AI agents, Wed Nov 11 2026. No macro, syntax, notation, axiom, sorry.
-/
import Derived.Test.YtghcmogbmaedfaaChecked
import GoSem.Claim
import GoSem.ClaimJoined
import GoSem.ClaimMapViews
import Derived.JoinedTies
import Derived.KernelRfl
namespace Go.Proofs.Ytghcmogbmaedfaa
/- THE CELL 'sum', in the pinned program and in every row, IS THE sha256 OF THE DUMP (.gsa) THAT YtghcmogbmaedfaaProg.lean LOADS. Nothing in Lean hashes anything: it is a label: what it is worth is what the hold of that sum in a sandbox is worth. -/
noncomputable def Try.pinned : Pinned := { name := "ytghcmogbmaedfaa", sum := "59a9a1b489c74f744dbf628ceed9df5b3a32f2abe468a6c82b0a6ac6bf24bc06", checked := Try.checked }
namespace Rows
def none {H : Type} : Left H := { results := [], args := [] }

/-- 'bowerlaw01.TabTells': WHATEVER THE INPUT: true; the input reads as it did. -/
def tabTellsSpec : ChangeSpec := { name := "tabTells", fn := fun _ => fun
  | [d1, d2, d3, d4, d5, d6] => { results := [.lit (.bool true)], args := [d1, d2, d3, d4, d5, d6] }
  | _ => none }
def tabTellsRow : OpenClaim := { program := "ytghcmogbmaedfaa", sum := "59a9a1b489c74f744dbf628ceed9df5b3a32f2abe468a6c82b0a6ac6bf24bc06", func := "bower/bowerlaw01.TabTells", spec := "tabTells", plainKeys := false, apart := false }
def TabTellsSaid : Prop := tabTellsRow.holds Try.pinned (OpenSpec.ofChange tabTellsSpec)

/-- ITS FALSE NEIGHBOUR: 'it returns false'. Refute it at one input. -/
def tabTellsWrong : ChangeSpec := { name := "tabTells", fn := fun _ => fun
  | [d1, d2, d3, d4, d5, d6] => { results := [.lit (.bool false)], args := [d1, d2, d3, d4, d5, d6] }
  | _ => none }
def TabTellsWrongFalsely : Prop := tabTellsRow.holds Try.pinned (OpenSpec.ofChange tabTellsWrong)

/-- 'bowerlaw01.TabRows': WHATEVER THE INPUT: true; the input reads as it did. -/
def tabRowsSpec : ChangeSpec := { name := "tabRows", fn := fun _ => fun
  | [d1, d2, d3, d4, d5] => { results := [.lit (.bool true)], args := [d1, d2, d3, d4, d5] }
  | _ => none }
def tabRowsRow : OpenClaim := { program := "ytghcmogbmaedfaa", sum := "59a9a1b489c74f744dbf628ceed9df5b3a32f2abe468a6c82b0a6ac6bf24bc06", func := "bower/bowerlaw01.TabRows", spec := "tabRows", plainKeys := false, apart := false }
def TabRowsSaid : Prop := tabRowsRow.holds Try.pinned (OpenSpec.ofChange tabRowsSpec)

/-- ITS FALSE NEIGHBOUR: 'it returns false'. Refute it at one input. -/
def tabRowsWrong : ChangeSpec := { name := "tabRows", fn := fun _ => fun
  | [d1, d2, d3, d4, d5] => { results := [.lit (.bool false)], args := [d1, d2, d3, d4, d5] }
  | _ => none }
def TabRowsWrongFalsely : Prop := tabRowsRow.holds Try.pinned (OpenSpec.ofChange tabRowsWrong)

/-- 'bowerlaw02.CofTells': WHATEVER THE INPUT: true; the input reads as it did. -/
def cofTellsSpec : ChangeSpec := { name := "cofTells", fn := fun _ => fun
  | [d1, d2, d3, d4] => { results := [.lit (.bool true)], args := [d1, d2, d3, d4] }
  | _ => none }
def cofTellsRow : OpenClaim := { program := "ytghcmogbmaedfaa", sum := "59a9a1b489c74f744dbf628ceed9df5b3a32f2abe468a6c82b0a6ac6bf24bc06", func := "bower/bowerlaw02.CofTells", spec := "cofTells", plainKeys := false, apart := false }
def CofTellsSaid : Prop := cofTellsRow.holds Try.pinned (OpenSpec.ofChange cofTellsSpec)

/-- ITS FALSE NEIGHBOUR: 'it returns false'. Refute it at one input. -/
def cofTellsWrong : ChangeSpec := { name := "cofTells", fn := fun _ => fun
  | [d1, d2, d3, d4] => { results := [.lit (.bool false)], args := [d1, d2, d3, d4] }
  | _ => none }
def CofTellsWrongFalsely : Prop := cofTellsRow.holds Try.pinned (OpenSpec.ofChange cofTellsWrong)

/-- 'bowerlaw02.CofSplits': WHATEVER THE INPUT: true; the input reads as it did. -/
def cofSplitsSpec : ChangeSpec := { name := "cofSplits", fn := fun _ => fun
  | [d1, d2, d3, d4, d5] => { results := [.lit (.bool true)], args := [d1, d2, d3, d4, d5] }
  | _ => none }
def cofSplitsRow : OpenClaim := { program := "ytghcmogbmaedfaa", sum := "59a9a1b489c74f744dbf628ceed9df5b3a32f2abe468a6c82b0a6ac6bf24bc06", func := "bower/bowerlaw02.CofSplits", spec := "cofSplits", plainKeys := false, apart := false }
def CofSplitsSaid : Prop := cofSplitsRow.holds Try.pinned (OpenSpec.ofChange cofSplitsSpec)

/-- ITS FALSE NEIGHBOUR: 'it returns false'. Refute it at one input. -/
def cofSplitsWrong : ChangeSpec := { name := "cofSplits", fn := fun _ => fun
  | [d1, d2, d3, d4, d5] => { results := [.lit (.bool false)], args := [d1, d2, d3, d4, d5] }
  | _ => none }
def CofSplitsWrongFalsely : Prop := cofSplitsRow.holds Try.pinned (OpenSpec.ofChange cofSplitsWrong)

/-- 'bowerlaw03.SizeTells': WHATEVER THE INPUT: true; the input reads as it did. -/
def sizeTellsSpec : ChangeSpec := { name := "sizeTells", fn := fun _ => fun
  | [d1, d2, d3] => { results := [.lit (.bool true)], args := [d1, d2, d3] }
  | _ => none }
def sizeTellsRow : OpenClaim := { program := "ytghcmogbmaedfaa", sum := "59a9a1b489c74f744dbf628ceed9df5b3a32f2abe468a6c82b0a6ac6bf24bc06", func := "bower/bowerlaw03.SizeTells", spec := "sizeTells", plainKeys := false, apart := false }
def SizeTellsSaid : Prop := sizeTellsRow.holds Try.pinned (OpenSpec.ofChange sizeTellsSpec)

/-- ITS FALSE NEIGHBOUR: 'it returns false'. Refute it at one input. -/
def sizeTellsWrong : ChangeSpec := { name := "sizeTells", fn := fun _ => fun
  | [d1, d2, d3] => { results := [.lit (.bool false)], args := [d1, d2, d3] }
  | _ => none }
def SizeTellsWrongFalsely : Prop := sizeTellsRow.holds Try.pinned (OpenSpec.ofChange sizeTellsWrong)

/-- 'bowerlaw03.SizeBounds': WHATEVER THE INPUT: true; the input reads as it did. -/
def sizeBoundsSpec : ChangeSpec := { name := "sizeBounds", fn := fun _ => fun
  | [d1, d2, d3, d4] => { results := [.lit (.bool true)], args := [d1, d2, d3, d4] }
  | _ => none }
def sizeBoundsRow : OpenClaim := { program := "ytghcmogbmaedfaa", sum := "59a9a1b489c74f744dbf628ceed9df5b3a32f2abe468a6c82b0a6ac6bf24bc06", func := "bower/bowerlaw03.SizeBounds", spec := "sizeBounds", plainKeys := false, apart := false }
def SizeBoundsSaid : Prop := sizeBoundsRow.holds Try.pinned (OpenSpec.ofChange sizeBoundsSpec)

/-- ITS FALSE NEIGHBOUR: 'it returns false'. Refute it at one input. -/
def sizeBoundsWrong : ChangeSpec := { name := "sizeBounds", fn := fun _ => fun
  | [d1, d2, d3, d4] => { results := [.lit (.bool false)], args := [d1, d2, d3, d4] }
  | _ => none }
def SizeBoundsWrongFalsely : Prop := sizeBoundsRow.holds Try.pinned (OpenSpec.ofChange sizeBoundsWrong)

/-- 'bowerlaw18.WirePuts': WHATEVER THE INPUT: true; the input reads as it did. -/
def wirePutsSpec : ChangeSpec := { name := "wirePuts", fn := fun _ => fun
  | [d1, d2] => { results := [.lit (.bool true)], args := [d1, d2] }
  | _ => none }
def wirePutsRow : OpenClaim := { program := "ytghcmogbmaedfaa", sum := "59a9a1b489c74f744dbf628ceed9df5b3a32f2abe468a6c82b0a6ac6bf24bc06", func := "bower/bowerlaw18.WirePuts", spec := "wirePuts", plainKeys := false, apart := false }
def WirePutsSaid : Prop := wirePutsRow.holds Try.pinned (OpenSpec.ofChange wirePutsSpec)

/-- ITS FALSE NEIGHBOUR: 'it returns false'. Refute it at one input. -/
def wirePutsWrong : ChangeSpec := { name := "wirePuts", fn := fun _ => fun
  | [d1, d2] => { results := [.lit (.bool false)], args := [d1, d2] }
  | _ => none }
def WirePutsWrongFalsely : Prop := wirePutsRow.holds Try.pinned (OpenSpec.ofChange wirePutsWrong)

/-- 'bowerlaw18.WireGets': WHATEVER THE INPUT: true; the input reads as it did. -/
def wireGetsSpec : ChangeSpec := { name := "wireGets", fn := fun _ => fun
  | [d] => { results := [.lit (.bool true)], args := [d] }
  | _ => none }
def wireGetsRow : OpenClaim := { program := "ytghcmogbmaedfaa", sum := "59a9a1b489c74f744dbf628ceed9df5b3a32f2abe468a6c82b0a6ac6bf24bc06", func := "bower/bowerlaw18.WireGets", spec := "wireGets", plainKeys := false, apart := false }
def WireGetsSaid : Prop := wireGetsRow.holds Try.pinned (OpenSpec.ofChange wireGetsSpec)

/-- ITS FALSE NEIGHBOUR: 'it returns false'. Refute it at one input. -/
def wireGetsWrong : ChangeSpec := { name := "wireGets", fn := fun _ => fun
  | [d] => { results := [.lit (.bool false)], args := [d] }
  | _ => none }
def WireGetsWrongFalsely : Prop := wireGetsRow.holds Try.pinned (OpenSpec.ofChange wireGetsWrong)

/-- 'bowerlaw18.WireBack': WHATEVER THE INPUT: true; the input reads as it did. -/
def wireBackSpec : ChangeSpec := { name := "wireBack", fn := fun _ => fun
  | [d1, d2, d3, d4] => { results := [.lit (.bool true)], args := [d1, d2, d3, d4] }
  | _ => none }
def wireBackRow : OpenClaim := { program := "ytghcmogbmaedfaa", sum := "59a9a1b489c74f744dbf628ceed9df5b3a32f2abe468a6c82b0a6ac6bf24bc06", func := "bower/bowerlaw18.WireBack", spec := "wireBack", plainKeys := false, apart := false }
def WireBackSaid : Prop := wireBackRow.holds Try.pinned (OpenSpec.ofChange wireBackSpec)

/-- ITS FALSE NEIGHBOUR: 'it returns false'. Refute it at one input. -/
def wireBackWrong : ChangeSpec := { name := "wireBack", fn := fun _ => fun
  | [d1, d2, d3, d4] => { results := [.lit (.bool false)], args := [d1, d2, d3, d4] }
  | _ => none }
def WireBackWrongFalsely : Prop := wireBackRow.holds Try.pinned (OpenSpec.ofChange wireBackWrong)

/- THE SECOND FORM. 'bulk': how many values and letters a reading holds, each counted each time it is reached (what is shared counts as often as it is met; a slice's spare places count too). A statement '..UptoSaid' is the law's where the arguments, and the package variables that the reading takes, are together of bulk at most 1048576: NARROWER than '..Said'. Prove '..Said' where nothing that the law and all that it calls make is longer than what came in: it says more and counts as full. Else prove '..UptoSaid'. A law counts once. -/
mutual
def uptoBulk {H : Type} : DataW H → Nat
  | .lit (.string bytes) => bytes.length + 1
  | .lit _ => 1
  | .nil => 1
  | .ptr d => uptoBulk d + 1
  | .slice elems spare => uptoBulkAll elems + uptoBulkAll spare + 1
  | .agg parts => uptoBulkAll parts + 1
  | .iface _ d => uptoBulk d + 1
  | .map entries => uptoBulkEntries entries + 1
  | .held _ => 1
def uptoBulkAll {H : Type} : List (DataW H) → Nat
  | [] => 0
  | d :: r => uptoBulk d + uptoBulkAll r
def uptoBulkEntries {H : Type} : List (Lit × DataW H) → Nat
  | [] => 0
  | x :: r => uptoBulkEntry x + uptoBulkEntries r
def uptoBulkEntry {H : Type} : Lit × DataW H → Nat
  | (.string bytes, d) => bytes.length + uptoBulk d + 1
  | (_, d) => uptoBulk d + 1
 end
def uptoSmall : (H : Type) → List (DataW H) → Bool := fun _ ds => decide (uptoBulkAll ds ≤ 1048576)
def OpenSpec.upto (s : _root_.Go.ChangeSpec) : _root_.Go.OpenSpec := { _root_.Go.OpenSpec.ofChange s with cond := some uptoSmall }

/-- 'bowerlaw01.TabTells', WHERE WHAT IT READS IS OF BULK AT MOST 1048576: true; the input reads as it did. -/
def tabTellsUptoRow : OpenClaim := { program := "ytghcmogbmaedfaa", sum := "59a9a1b489c74f744dbf628ceed9df5b3a32f2abe468a6c82b0a6ac6bf24bc06", func := "bower/bowerlaw01.TabTells", spec := "tabTells", plainKeys := false, apart := false, narrowed := true }
def TabTellsUptoSaid : Prop := tabTellsUptoRow.holds Try.pinned (OpenSpec.upto tabTellsSpec)

/-- 'bowerlaw01.TabRows', WHERE WHAT IT READS IS OF BULK AT MOST 1048576: true; the input reads as it did. -/
def tabRowsUptoRow : OpenClaim := { program := "ytghcmogbmaedfaa", sum := "59a9a1b489c74f744dbf628ceed9df5b3a32f2abe468a6c82b0a6ac6bf24bc06", func := "bower/bowerlaw01.TabRows", spec := "tabRows", plainKeys := false, apart := false, narrowed := true }
def TabRowsUptoSaid : Prop := tabRowsUptoRow.holds Try.pinned (OpenSpec.upto tabRowsSpec)

/-- 'bowerlaw02.CofTells', WHERE WHAT IT READS IS OF BULK AT MOST 1048576: true; the input reads as it did. -/
def cofTellsUptoRow : OpenClaim := { program := "ytghcmogbmaedfaa", sum := "59a9a1b489c74f744dbf628ceed9df5b3a32f2abe468a6c82b0a6ac6bf24bc06", func := "bower/bowerlaw02.CofTells", spec := "cofTells", plainKeys := false, apart := false, narrowed := true }
def CofTellsUptoSaid : Prop := cofTellsUptoRow.holds Try.pinned (OpenSpec.upto cofTellsSpec)

/-- 'bowerlaw02.CofSplits', WHERE WHAT IT READS IS OF BULK AT MOST 1048576: true; the input reads as it did. -/
def cofSplitsUptoRow : OpenClaim := { program := "ytghcmogbmaedfaa", sum := "59a9a1b489c74f744dbf628ceed9df5b3a32f2abe468a6c82b0a6ac6bf24bc06", func := "bower/bowerlaw02.CofSplits", spec := "cofSplits", plainKeys := false, apart := false, narrowed := true }
def CofSplitsUptoSaid : Prop := cofSplitsUptoRow.holds Try.pinned (OpenSpec.upto cofSplitsSpec)

/-- 'bowerlaw03.SizeTells', WHERE WHAT IT READS IS OF BULK AT MOST 1048576: true; the input reads as it did. -/
def sizeTellsUptoRow : OpenClaim := { program := "ytghcmogbmaedfaa", sum := "59a9a1b489c74f744dbf628ceed9df5b3a32f2abe468a6c82b0a6ac6bf24bc06", func := "bower/bowerlaw03.SizeTells", spec := "sizeTells", plainKeys := false, apart := false, narrowed := true }
def SizeTellsUptoSaid : Prop := sizeTellsUptoRow.holds Try.pinned (OpenSpec.upto sizeTellsSpec)

/-- 'bowerlaw03.SizeBounds', WHERE WHAT IT READS IS OF BULK AT MOST 1048576: true; the input reads as it did. -/
def sizeBoundsUptoRow : OpenClaim := { program := "ytghcmogbmaedfaa", sum := "59a9a1b489c74f744dbf628ceed9df5b3a32f2abe468a6c82b0a6ac6bf24bc06", func := "bower/bowerlaw03.SizeBounds", spec := "sizeBounds", plainKeys := false, apart := false, narrowed := true }
def SizeBoundsUptoSaid : Prop := sizeBoundsUptoRow.holds Try.pinned (OpenSpec.upto sizeBoundsSpec)

/-- 'bowerlaw18.WirePuts', WHERE WHAT IT READS IS OF BULK AT MOST 1048576: true; the input reads as it did. -/
def wirePutsUptoRow : OpenClaim := { program := "ytghcmogbmaedfaa", sum := "59a9a1b489c74f744dbf628ceed9df5b3a32f2abe468a6c82b0a6ac6bf24bc06", func := "bower/bowerlaw18.WirePuts", spec := "wirePuts", plainKeys := false, apart := false, narrowed := true }
def WirePutsUptoSaid : Prop := wirePutsUptoRow.holds Try.pinned (OpenSpec.upto wirePutsSpec)

/-- 'bowerlaw18.WireGets', WHERE WHAT IT READS IS OF BULK AT MOST 1048576: true; the input reads as it did. -/
def wireGetsUptoRow : OpenClaim := { program := "ytghcmogbmaedfaa", sum := "59a9a1b489c74f744dbf628ceed9df5b3a32f2abe468a6c82b0a6ac6bf24bc06", func := "bower/bowerlaw18.WireGets", spec := "wireGets", plainKeys := false, apart := false, narrowed := true }
def WireGetsUptoSaid : Prop := wireGetsUptoRow.holds Try.pinned (OpenSpec.upto wireGetsSpec)

/-- 'bowerlaw18.WireBack', WHERE WHAT IT READS IS OF BULK AT MOST 1048576: true; the input reads as it did. -/
def wireBackUptoRow : OpenClaim := { program := "ytghcmogbmaedfaa", sum := "59a9a1b489c74f744dbf628ceed9df5b3a32f2abe468a6c82b0a6ac6bf24bc06", func := "bower/bowerlaw18.WireBack", spec := "wireBack", plainKeys := false, apart := false, narrowed := true }
def WireBackUptoSaid : Prop := wireBackUptoRow.holds Try.pinned (OpenSpec.upto wireBackSpec)

end Rows
end Go.Proofs.Ytghcmogbmaedfaa
