/-
  No cell of these rows narrows 'for every input' (looked for: loops, veiled, ifaces, maps, wideKeys, modest, calm, conditions, laid).
  DERIVED. THE GIVEN ROWS OF THIS SEAT. 7 by the template 'for every input the law returns true; each argument reads behind the call as it read before'; 0 by the template 'total and deterministic' (their statements: YtekpjfbhhfcjnaaTotals.lean).
  GIVEN WITH THE SEED: the statements are not yours to turn. If you find one false, say at which input.
  Laid BY PROGRAM, IN A SANDBOX (cutbox-rows.mjs): the forced cells as the released guide's own fill.sh prints them over the translation 186aa3e771b23280… (all of the seat's roots in one cut). By AI agents, Wed Nov 11 2026. No macro, syntax, notation, axiom, sorry.
-/
import Derived.Test.YtekpjfbhhfcjnaaChecked
import GoSem.Claim
import GoSem.ClaimJoined
import GoSem.ClaimMapViews
import Derived.JoinedTies
import Derived.KernelRfl
namespace Go.Proofs.Ytekpjfbhhfcjnaa
/- THE CELL 'sum', in the pinned program and in every row, IS THE sha256 OF THE DUMP (.gsa) THAT YtekpjfbhhfcjnaaProg.lean LOADS. Nothing in Lean hashes anything: it is a label: what it is worth is what the hold of that sum in a sandbox is worth. -/
noncomputable def Try.pinned : Pinned := { name := "ytekpjfbhhfcjnaa", sum := "186aa3e771b232801edfb7973fa5d1e1e1cfb37cf9a7d2c87af414208aa862b9", checked := Try.checked }
namespace Rows
def none {H : Type} : Left H := { results := [], args := [] }

/-- 'concordancelaw7.BitsRanks': WHATEVER THE INPUT: true; the input reads as it did. -/
def bitsRanksSpec : ChangeSpec := { name := "bitsRanks", fn := fun _ => fun
  | [d1, d2] => { results := [.lit (.bool true)], args := [d1, d2] }
  | _ => none }
def bitsRanksRow : OpenClaim := { program := "ytekpjfbhhfcjnaa", sum := "186aa3e771b232801edfb7973fa5d1e1e1cfb37cf9a7d2c87af414208aa862b9", func := "concordance/concordancelaw7.BitsRanks", spec := "bitsRanks", unfollowed := true, recurses := true, apart := false }
def BitsRanksSaid : Prop := bitsRanksRow.holds Try.pinned (OpenSpec.ofChange bitsRanksSpec)

/-- ITS FALSE NEIGHBOUR: 'it returns false'. Refute it at one input. -/
def bitsRanksWrong : ChangeSpec := { name := "bitsRanks", fn := fun _ => fun
  | [d1, d2] => { results := [.lit (.bool false)], args := [d1, d2] }
  | _ => none }
def BitsRanksWrongFalsely : Prop := bitsRanksRow.holds Try.pinned (OpenSpec.ofChange bitsRanksWrong)

/-- 'concordancelaw7.BitsTurned': WHATEVER THE INPUT: true; the input reads as it did. -/
def bitsTurnedSpec : ChangeSpec := { name := "bitsTurned", fn := fun _ => fun
  | [d1, d2, d3] => { results := [.lit (.bool true)], args := [d1, d2, d3] }
  | _ => none }
def bitsTurnedRow : OpenClaim := { program := "ytekpjfbhhfcjnaa", sum := "186aa3e771b232801edfb7973fa5d1e1e1cfb37cf9a7d2c87af414208aa862b9", func := "concordance/concordancelaw7.BitsTurned", spec := "bitsTurned", unfollowed := true, recurses := true, apart := false }
def BitsTurnedSaid : Prop := bitsTurnedRow.holds Try.pinned (OpenSpec.ofChange bitsTurnedSpec)

/-- ITS FALSE NEIGHBOUR: 'it returns false'. Refute it at one input. -/
def bitsTurnedWrong : ChangeSpec := { name := "bitsTurned", fn := fun _ => fun
  | [d1, d2, d3] => { results := [.lit (.bool false)], args := [d1, d2, d3] }
  | _ => none }
def BitsTurnedWrongFalsely : Prop := bitsTurnedRow.holds Try.pinned (OpenSpec.ofChange bitsTurnedWrong)

/-- 'concordancelaw7.BitsJoins': WHATEVER THE INPUT: true; the input reads as it did. -/
def bitsJoinsSpec : ChangeSpec := { name := "bitsJoins", fn := fun _ => fun
  | [d1, d2, d3, d4] => { results := [.lit (.bool true)], args := [d1, d2, d3, d4] }
  | _ => none }
def bitsJoinsRow : OpenClaim := { program := "ytekpjfbhhfcjnaa", sum := "186aa3e771b232801edfb7973fa5d1e1e1cfb37cf9a7d2c87af414208aa862b9", func := "concordance/concordancelaw7.BitsJoins", spec := "bitsJoins", unfollowed := true, recurses := true, apart := false }
def BitsJoinsSaid : Prop := bitsJoinsRow.holds Try.pinned (OpenSpec.ofChange bitsJoinsSpec)

/-- ITS FALSE NEIGHBOUR: 'it returns false'. Refute it at one input. -/
def bitsJoinsWrong : ChangeSpec := { name := "bitsJoins", fn := fun _ => fun
  | [d1, d2, d3, d4] => { results := [.lit (.bool false)], args := [d1, d2, d3, d4] }
  | _ => none }
def BitsJoinsWrongFalsely : Prop := bitsJoinsRow.holds Try.pinned (OpenSpec.ofChange bitsJoinsWrong)

/-- 'concordancelaw7.BitsTells': WHATEVER THE INPUT: true; the input reads as it did. -/
def bitsTellsSpec : ChangeSpec := { name := "bitsTells", fn := fun _ => fun
  | [d1, d2, d3] => { results := [.lit (.bool true)], args := [d1, d2, d3] }
  | _ => none }
def bitsTellsRow : OpenClaim := { program := "ytekpjfbhhfcjnaa", sum := "186aa3e771b232801edfb7973fa5d1e1e1cfb37cf9a7d2c87af414208aa862b9", func := "concordance/concordancelaw7.BitsTells", spec := "bitsTells", unfollowed := true, recurses := true, apart := false }
def BitsTellsSaid : Prop := bitsTellsRow.holds Try.pinned (OpenSpec.ofChange bitsTellsSpec)

/-- ITS FALSE NEIGHBOUR: 'it returns false'. Refute it at one input. -/
def bitsTellsWrong : ChangeSpec := { name := "bitsTells", fn := fun _ => fun
  | [d1, d2, d3] => { results := [.lit (.bool false)], args := [d1, d2, d3] }
  | _ => none }
def BitsTellsWrongFalsely : Prop := bitsTellsRow.holds Try.pinned (OpenSpec.ofChange bitsTellsWrong)

/-- 'concordancelaw8.WaveSelects': WHATEVER THE INPUT: true; the input reads as it did. -/
def waveSelectsSpec : ChangeSpec := { name := "waveSelects", fn := fun _ => fun
  | [d1, d2] => { results := [.lit (.bool true)], args := [d1, d2] }
  | _ => none }
def waveSelectsRow : OpenClaim := { program := "ytekpjfbhhfcjnaa", sum := "186aa3e771b232801edfb7973fa5d1e1e1cfb37cf9a7d2c87af414208aa862b9", func := "concordance/concordancelaw8.WaveSelects", spec := "waveSelects", unfollowed := true, recurses := true, apart := false }
def WaveSelectsSaid : Prop := waveSelectsRow.holds Try.pinned (OpenSpec.ofChange waveSelectsSpec)

/-- ITS FALSE NEIGHBOUR: 'it returns false'. Refute it at one input. -/
def waveSelectsWrong : ChangeSpec := { name := "waveSelects", fn := fun _ => fun
  | [d1, d2] => { results := [.lit (.bool false)], args := [d1, d2] }
  | _ => none }
def WaveSelectsWrongFalsely : Prop := waveSelectsRow.holds Try.pinned (OpenSpec.ofChange waveSelectsWrong)

/-- 'concordancelaw8.WaveTells': WHATEVER THE INPUT: true; the input reads as it did. -/
def waveTellsSpec : ChangeSpec := { name := "waveTells", fn := fun _ => fun
  | [d1, d2, d3, d4] => { results := [.lit (.bool true)], args := [d1, d2, d3, d4] }
  | _ => none }
def waveTellsRow : OpenClaim := { program := "ytekpjfbhhfcjnaa", sum := "186aa3e771b232801edfb7973fa5d1e1e1cfb37cf9a7d2c87af414208aa862b9", func := "concordance/concordancelaw8.WaveTells", spec := "waveTells", unfollowed := true, recurses := true, apart := false }
def WaveTellsSaid : Prop := waveTellsRow.holds Try.pinned (OpenSpec.ofChange waveTellsSpec)

/-- ITS FALSE NEIGHBOUR: 'it returns false'. Refute it at one input. -/
def waveTellsWrong : ChangeSpec := { name := "waveTells", fn := fun _ => fun
  | [d1, d2, d3, d4] => { results := [.lit (.bool false)], args := [d1, d2, d3, d4] }
  | _ => none }
def WaveTellsWrongFalsely : Prop := waveTellsRow.holds Try.pinned (OpenSpec.ofChange waveTellsWrong)

/-- 'concordancelaw8.WaveRows': WHATEVER THE INPUT: true; the input reads as it did. -/
def waveRowsSpec : ChangeSpec := { name := "waveRows", fn := fun _ => fun
  | [d1, d2] => { results := [.lit (.bool true)], args := [d1, d2] }
  | _ => none }
def waveRowsRow : OpenClaim := { program := "ytekpjfbhhfcjnaa", sum := "186aa3e771b232801edfb7973fa5d1e1e1cfb37cf9a7d2c87af414208aa862b9", func := "concordance/concordancelaw8.WaveRows", spec := "waveRows", unfollowed := true, recurses := true, apart := false }
def WaveRowsSaid : Prop := waveRowsRow.holds Try.pinned (OpenSpec.ofChange waveRowsSpec)

/-- ITS FALSE NEIGHBOUR: 'it returns false'. Refute it at one input. -/
def waveRowsWrong : ChangeSpec := { name := "waveRows", fn := fun _ => fun
  | [d1, d2] => { results := [.lit (.bool false)], args := [d1, d2] }
  | _ => none }
def WaveRowsWrongFalsely : Prop := waveRowsRow.holds Try.pinned (OpenSpec.ofChange waveRowsWrong)

/- THE SECOND FORM. 'bulk': how many values and letters a reading holds, each counted each time it is reached (what is shared counts as often as it is met; a slice's spare places count too). A statement '..UptoSaid' is the law's where the arguments, and the package variables that the reading takes, are together of bulk at most 1048576: NARROWER than '..Said'. Prove '..Said' where nothing that the law and all that it calls make is longer than what came in: it says more and counts as full. Else prove '..UptoSaid'. A law counts once. -/
mutual
def uptoBulk {H : Type} : DataW H → Nat
  | .lit (.string bytes) => bytes.length + 1
  | .lit _ => 1
  | .nil => 1
  | .ptr d => uptoBulk d + 1
  | .slice elems spare => uptoBulkAll elems + uptoBulkAll spare + 1
  | .agg parts => uptoBulkAll parts + 1
  | .iface _ d => uptoBulk d + 1
  | .map entries => uptoBulkEntries entries + 1
  | .held _ => 1
def uptoBulkAll {H : Type} : List (DataW H) → Nat
  | [] => 0
  | d :: r => uptoBulk d + uptoBulkAll r
def uptoBulkEntries {H : Type} : List (Lit × DataW H) → Nat
  | [] => 0
  | x :: r => uptoBulkEntry x + uptoBulkEntries r
def uptoBulkEntry {H : Type} : Lit × DataW H → Nat
  | (.string bytes, d) => bytes.length + uptoBulk d + 1
  | (_, d) => uptoBulk d + 1
 end
def uptoSmall : (H : Type) → List (DataW H) → Bool := fun _ ds => decide (uptoBulkAll ds ≤ 1048576)
def OpenSpec.upto (s : _root_.Go.ChangeSpec) : _root_.Go.OpenSpec := { _root_.Go.OpenSpec.ofChange s with cond := some uptoSmall }

/-- 'concordancelaw7.BitsRanks', WHERE WHAT IT READS IS OF BULK AT MOST 1048576: true; the input reads as it did. -/
def bitsRanksUptoRow : OpenClaim := { program := "ytekpjfbhhfcjnaa", sum := "186aa3e771b232801edfb7973fa5d1e1e1cfb37cf9a7d2c87af414208aa862b9", func := "concordance/concordancelaw7.BitsRanks", spec := "bitsRanks", unfollowed := true, recurses := true, apart := false, narrowed := true }
def BitsRanksUptoSaid : Prop := bitsRanksUptoRow.holds Try.pinned (OpenSpec.upto bitsRanksSpec)

/-- 'concordancelaw7.BitsTurned', WHERE WHAT IT READS IS OF BULK AT MOST 1048576: true; the input reads as it did. -/
def bitsTurnedUptoRow : OpenClaim := { program := "ytekpjfbhhfcjnaa", sum := "186aa3e771b232801edfb7973fa5d1e1e1cfb37cf9a7d2c87af414208aa862b9", func := "concordance/concordancelaw7.BitsTurned", spec := "bitsTurned", unfollowed := true, recurses := true, apart := false, narrowed := true }
def BitsTurnedUptoSaid : Prop := bitsTurnedUptoRow.holds Try.pinned (OpenSpec.upto bitsTurnedSpec)

/-- 'concordancelaw7.BitsJoins', WHERE WHAT IT READS IS OF BULK AT MOST 1048576: true; the input reads as it did. -/
def bitsJoinsUptoRow : OpenClaim := { program := "ytekpjfbhhfcjnaa", sum := "186aa3e771b232801edfb7973fa5d1e1e1cfb37cf9a7d2c87af414208aa862b9", func := "concordance/concordancelaw7.BitsJoins", spec := "bitsJoins", unfollowed := true, recurses := true, apart := false, narrowed := true }
def BitsJoinsUptoSaid : Prop := bitsJoinsUptoRow.holds Try.pinned (OpenSpec.upto bitsJoinsSpec)

/-- 'concordancelaw7.BitsTells', WHERE WHAT IT READS IS OF BULK AT MOST 1048576: true; the input reads as it did. -/
def bitsTellsUptoRow : OpenClaim := { program := "ytekpjfbhhfcjnaa", sum := "186aa3e771b232801edfb7973fa5d1e1e1cfb37cf9a7d2c87af414208aa862b9", func := "concordance/concordancelaw7.BitsTells", spec := "bitsTells", unfollowed := true, recurses := true, apart := false, narrowed := true }
def BitsTellsUptoSaid : Prop := bitsTellsUptoRow.holds Try.pinned (OpenSpec.upto bitsTellsSpec)

/-- 'concordancelaw8.WaveSelects', WHERE WHAT IT READS IS OF BULK AT MOST 1048576: true; the input reads as it did. -/
def waveSelectsUptoRow : OpenClaim := { program := "ytekpjfbhhfcjnaa", sum := "186aa3e771b232801edfb7973fa5d1e1e1cfb37cf9a7d2c87af414208aa862b9", func := "concordance/concordancelaw8.WaveSelects", spec := "waveSelects", unfollowed := true, recurses := true, apart := false, narrowed := true }
def WaveSelectsUptoSaid : Prop := waveSelectsUptoRow.holds Try.pinned (OpenSpec.upto waveSelectsSpec)

/-- 'concordancelaw8.WaveTells', WHERE WHAT IT READS IS OF BULK AT MOST 1048576: true; the input reads as it did. -/
def waveTellsUptoRow : OpenClaim := { program := "ytekpjfbhhfcjnaa", sum := "186aa3e771b232801edfb7973fa5d1e1e1cfb37cf9a7d2c87af414208aa862b9", func := "concordance/concordancelaw8.WaveTells", spec := "waveTells", unfollowed := true, recurses := true, apart := false, narrowed := true }
def WaveTellsUptoSaid : Prop := waveTellsUptoRow.holds Try.pinned (OpenSpec.upto waveTellsSpec)

/-- 'concordancelaw8.WaveRows', WHERE WHAT IT READS IS OF BULK AT MOST 1048576: true; the input reads as it did. -/
def waveRowsUptoRow : OpenClaim := { program := "ytekpjfbhhfcjnaa", sum := "186aa3e771b232801edfb7973fa5d1e1e1cfb37cf9a7d2c87af414208aa862b9", func := "concordance/concordancelaw8.WaveRows", spec := "waveRows", unfollowed := true, recurses := true, apart := false, narrowed := true }
def WaveRowsUptoSaid : Prop := waveRowsUptoRow.holds Try.pinned (OpenSpec.upto waveRowsSpec)

end Rows
end Go.Proofs.Ytekpjfbhhfcjnaa
