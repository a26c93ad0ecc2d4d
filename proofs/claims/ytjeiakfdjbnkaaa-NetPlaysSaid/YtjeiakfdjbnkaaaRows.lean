/-
  No cell of these rows narrows 'for every input' (looked for: loops, veiled, ifaces, maps, wideKeys, modest, calm, conditions, laid).
  DERIVED. THE GIVEN ROWS OF THIS SEAT. 10 by the template 'for every input the law returns true; each argument reads behind the call as it read before'; 0 by the template 'total and deterministic' (their statements: YtjeiakfdjbnkaaaTotals.lean).
  GIVEN WITH THE SEED: the statements are not yours to turn. If you find one false, say at which input.
  Laid BY PROGRAM, IN A SANDBOX (cutbox-rows.mjs): the forced cells as the released guide's own fill.sh prints them over the translation e47c4b7b82ac0fb9… (all of the seat's roots in one cut). By AI agents, Wed Nov 11 2026. No macro, syntax, notation, axiom, sorry.
-/
import Derived.Test.YtjeiakfdjbnkaaaChecked
import GoSem.Claim
import GoSem.ClaimJoined
import GoSem.ClaimMapViews
import Derived.JoinedTies
import Derived.KernelRfl
namespace Go.Proofs.Ytjeiakfdjbnkaaa
/- THE CELL 'sum', in the pinned program and in every row, IS THE sha256 OF THE DUMP (.gsa) THAT YtjeiakfdjbnkaaaProg.lean LOADS. Nothing in Lean hashes anything: it is a label: what it is worth is what the hold of that sum in a sandbox is worth. -/
noncomputable def Try.pinned : Pinned := { name := "ytjeiakfdjbnkaaa", sum := "e47c4b7b82ac0fb970caf64acf533b16c769ca3eb58f595dec94c4624915a0fa", checked := Try.checked }
namespace Rows
def none {H : Type} : Left H := { results := [], args := [] }

/-- 'exchequerlaw01.SumDivides': WHATEVER THE INPUT: true; the input reads as it did. -/
def sumDividesSpec : ChangeSpec := { name := "sumDivides", fn := fun _ => fun
  | [d] => { results := [.lit (.bool true)], args := [d] }
  | _ => none }
def sumDividesRow : OpenClaim := { program := "ytjeiakfdjbnkaaa", sum := "e47c4b7b82ac0fb970caf64acf533b16c769ca3eb58f595dec94c4624915a0fa", func := "exchequer/exchequerlaw01.SumDivides", spec := "sumDivides", plainKeys := false, apart := false }
def SumDividesSaid : Prop := sumDividesRow.holds Try.pinned (OpenSpec.ofChange sumDividesSpec)

/-- ITS FALSE NEIGHBOUR: 'it returns false'. Refute it at one input. -/
def sumDividesWrong : ChangeSpec := { name := "sumDivides", fn := fun _ => fun
  | [d] => { results := [.lit (.bool false)], args := [d] }
  | _ => none }
def SumDividesWrongFalsely : Prop := sumDividesRow.holds Try.pinned (OpenSpec.ofChange sumDividesWrong)

/-- 'exchequerlaw01.SumGoes': WHATEVER THE INPUT: true; the input reads as it did. -/
def sumGoesSpec : ChangeSpec := { name := "sumGoes", fn := fun _ => fun
  | [d1, d2] => { results := [.lit (.bool true)], args := [d1, d2] }
  | _ => none }
def sumGoesRow : OpenClaim := { program := "ytjeiakfdjbnkaaa", sum := "e47c4b7b82ac0fb970caf64acf533b16c769ca3eb58f595dec94c4624915a0fa", func := "exchequer/exchequerlaw01.SumGoes", spec := "sumGoes", plainKeys := false, apart := false }
def SumGoesSaid : Prop := sumGoesRow.holds Try.pinned (OpenSpec.ofChange sumGoesSpec)

/-- ITS FALSE NEIGHBOUR: 'it returns false'. Refute it at one input. -/
def sumGoesWrong : ChangeSpec := { name := "sumGoes", fn := fun _ => fun
  | [d1, d2] => { results := [.lit (.bool false)], args := [d1, d2] }
  | _ => none }
def SumGoesWrongFalsely : Prop := sumGoesRow.holds Try.pinned (OpenSpec.ofChange sumGoesWrong)

/-- 'exchequerlaw01.SumPieces': WHATEVER THE INPUT: true; the input reads as it did. -/
def sumPiecesSpec : ChangeSpec := { name := "sumPieces", fn := fun _ => fun
  | [d1, d2] => { results := [.lit (.bool true)], args := [d1, d2] }
  | _ => none }
def sumPiecesRow : OpenClaim := { program := "ytjeiakfdjbnkaaa", sum := "e47c4b7b82ac0fb970caf64acf533b16c769ca3eb58f595dec94c4624915a0fa", func := "exchequer/exchequerlaw01.SumPieces", spec := "sumPieces", plainKeys := false, apart := false }
def SumPiecesSaid : Prop := sumPiecesRow.holds Try.pinned (OpenSpec.ofChange sumPiecesSpec)

/-- ITS FALSE NEIGHBOUR: 'it returns false'. Refute it at one input. -/
def sumPiecesWrong : ChangeSpec := { name := "sumPieces", fn := fun _ => fun
  | [d1, d2] => { results := [.lit (.bool false)], args := [d1, d2] }
  | _ => none }
def SumPiecesWrongFalsely : Prop := sumPiecesRow.holds Try.pinned (OpenSpec.ofChange sumPiecesWrong)

/-- 'exchequerlaw01.SumBursts': WHATEVER THE INPUT: true; the input reads as it did. -/
def sumBurstsSpec : ChangeSpec := { name := "sumBursts", fn := fun _ => fun
  | [d1, d2, d3] => { results := [.lit (.bool true)], args := [d1, d2, d3] }
  | _ => none }
def sumBurstsRow : OpenClaim := { program := "ytjeiakfdjbnkaaa", sum := "e47c4b7b82ac0fb970caf64acf533b16c769ca3eb58f595dec94c4624915a0fa", func := "exchequer/exchequerlaw01.SumBursts", spec := "sumBursts", plainKeys := false, apart := false }
def SumBurstsSaid : Prop := sumBurstsRow.holds Try.pinned (OpenSpec.ofChange sumBurstsSpec)

/-- ITS FALSE NEIGHBOUR: 'it returns false'. Refute it at one input. -/
def sumBurstsWrong : ChangeSpec := { name := "sumBursts", fn := fun _ => fun
  | [d1, d2, d3] => { results := [.lit (.bool false)], args := [d1, d2, d3] }
  | _ => none }
def SumBurstsWrongFalsely : Prop := sumBurstsRow.holds Try.pinned (OpenSpec.ofChange sumBurstsWrong)

/-- 'exchequerlaw01.SumSwaps': WHATEVER THE INPUT: true; the input reads as it did. -/
def sumSwapsSpec : ChangeSpec := { name := "sumSwaps", fn := fun _ => fun
  | [d1, d2] => { results := [.lit (.bool true)], args := [d1, d2] }
  | _ => none }
def sumSwapsRow : OpenClaim := { program := "ytjeiakfdjbnkaaa", sum := "e47c4b7b82ac0fb970caf64acf533b16c769ca3eb58f595dec94c4624915a0fa", func := "exchequer/exchequerlaw01.SumSwaps", spec := "sumSwaps", plainKeys := false, apart := false }
def SumSwapsSaid : Prop := sumSwapsRow.holds Try.pinned (OpenSpec.ofChange sumSwapsSpec)

/-- ITS FALSE NEIGHBOUR: 'it returns false'. Refute it at one input. -/
def sumSwapsWrong : ChangeSpec := { name := "sumSwaps", fn := fun _ => fun
  | [d1, d2] => { results := [.lit (.bool false)], args := [d1, d2] }
  | _ => none }
def SumSwapsWrongFalsely : Prop := sumSwapsRow.holds Try.pinned (OpenSpec.ofChange sumSwapsWrong)

/-- 'exchequerlaw09.NetFull': WHATEVER THE INPUT: true; the input reads as it did. -/
def netFullSpec : ChangeSpec := { name := "netFull", fn := fun _ => fun
  | [d1, d2] => { results := [.lit (.bool true)], args := [d1, d2] }
  | _ => none }
def netFullRow : OpenClaim := { program := "ytjeiakfdjbnkaaa", sum := "e47c4b7b82ac0fb970caf64acf533b16c769ca3eb58f595dec94c4624915a0fa", func := "exchequer/exchequerlaw09.NetFull", spec := "netFull", plainKeys := false, apart := false }
def NetFullSaid : Prop := netFullRow.holds Try.pinned (OpenSpec.ofChange netFullSpec)

/-- ITS FALSE NEIGHBOUR: 'it returns false'. Refute it at one input. -/
def netFullWrong : ChangeSpec := { name := "netFull", fn := fun _ => fun
  | [d1, d2] => { results := [.lit (.bool false)], args := [d1, d2] }
  | _ => none }
def NetFullWrongFalsely : Prop := netFullRow.holds Try.pinned (OpenSpec.ofChange netFullWrong)

/-- 'exchequerlaw09.NetOnly': WHATEVER THE INPUT: true; the input reads as it did. -/
def netOnlySpec : ChangeSpec := { name := "netOnly", fn := fun _ => fun
  | [d] => { results := [.lit (.bool true)], args := [d] }
  | _ => none }
def netOnlyRow : OpenClaim := { program := "ytjeiakfdjbnkaaa", sum := "e47c4b7b82ac0fb970caf64acf533b16c769ca3eb58f595dec94c4624915a0fa", func := "exchequer/exchequerlaw09.NetOnly", spec := "netOnly", plainKeys := false, apart := false }
def NetOnlySaid : Prop := netOnlyRow.holds Try.pinned (OpenSpec.ofChange netOnlySpec)

/-- ITS FALSE NEIGHBOUR: 'it returns false'. Refute it at one input. -/
def netOnlyWrong : ChangeSpec := { name := "netOnly", fn := fun _ => fun
  | [d] => { results := [.lit (.bool false)], args := [d] }
  | _ => none }
def NetOnlyWrongFalsely : Prop := netOnlyRow.holds Try.pinned (OpenSpec.ofChange netOnlyWrong)

/-- 'exchequerlaw09.NetCuts': WHATEVER THE INPUT: true; the input reads as it did. -/
def netCutsSpec : ChangeSpec := { name := "netCuts", fn := fun _ => fun
  | [d1, d2, d3] => { results := [.lit (.bool true)], args := [d1, d2, d3] }
  | _ => none }
def netCutsRow : OpenClaim := { program := "ytjeiakfdjbnkaaa", sum := "e47c4b7b82ac0fb970caf64acf533b16c769ca3eb58f595dec94c4624915a0fa", func := "exchequer/exchequerlaw09.NetCuts", spec := "netCuts", plainKeys := false, apart := false }
def NetCutsSaid : Prop := netCutsRow.holds Try.pinned (OpenSpec.ofChange netCutsSpec)

/-- ITS FALSE NEIGHBOUR: 'it returns false'. Refute it at one input. -/
def netCutsWrong : ChangeSpec := { name := "netCuts", fn := fun _ => fun
  | [d1, d2, d3] => { results := [.lit (.bool false)], args := [d1, d2, d3] }
  | _ => none }
def NetCutsWrongFalsely : Prop := netCutsRow.holds Try.pinned (OpenSpec.ofChange netCutsWrong)

/-- 'exchequerlaw09.NetPlays': WHATEVER THE INPUT: true; the input reads as it did. -/
def netPlaysSpec : ChangeSpec := { name := "netPlays", fn := fun _ => fun
  | [d] => { results := [.lit (.bool true)], args := [d] }
  | _ => none }
def netPlaysRow : OpenClaim := { program := "ytjeiakfdjbnkaaa", sum := "e47c4b7b82ac0fb970caf64acf533b16c769ca3eb58f595dec94c4624915a0fa", func := "exchequer/exchequerlaw09.NetPlays", spec := "netPlays", plainKeys := false, apart := false }
def NetPlaysSaid : Prop := netPlaysRow.holds Try.pinned (OpenSpec.ofChange netPlaysSpec)

/-- ITS FALSE NEIGHBOUR: 'it returns false'. Refute it at one input. -/
def netPlaysWrong : ChangeSpec := { name := "netPlays", fn := fun _ => fun
  | [d] => { results := [.lit (.bool false)], args := [d] }
  | _ => none }
def NetPlaysWrongFalsely : Prop := netPlaysRow.holds Try.pinned (OpenSpec.ofChange netPlaysWrong)

/-- 'exchequerlaw09.NetNone': WHATEVER THE INPUT: true; the input reads as it did. -/
def netNoneSpec : ChangeSpec := { name := "netNone", fn := fun _ => fun
  | [d] => { results := [.lit (.bool true)], args := [d] }
  | _ => none }
def netNoneRow : OpenClaim := { program := "ytjeiakfdjbnkaaa", sum := "e47c4b7b82ac0fb970caf64acf533b16c769ca3eb58f595dec94c4624915a0fa", func := "exchequer/exchequerlaw09.NetNone", spec := "netNone", plainKeys := false, apart := false }
def NetNoneSaid : Prop := netNoneRow.holds Try.pinned (OpenSpec.ofChange netNoneSpec)

/-- ITS FALSE NEIGHBOUR: 'it returns false'. Refute it at one input. -/
def netNoneWrong : ChangeSpec := { name := "netNone", fn := fun _ => fun
  | [d] => { results := [.lit (.bool false)], args := [d] }
  | _ => none }
def NetNoneWrongFalsely : Prop := netNoneRow.holds Try.pinned (OpenSpec.ofChange netNoneWrong)

/- THE SECOND FORM. 'bulk': how many values and letters a reading holds, each counted each time it is reached (what is shared counts as often as it is met; a slice's spare places count too). A statement '..UptoSaid' is the law's where the arguments, and the package variables that the reading takes, are together of bulk at most 1048576: NARROWER than '..Said'. Prove '..Said' where nothing that the law and all that it calls make is longer than what came in: it says more and counts as full. Else prove '..UptoSaid'. A law counts once. -/
mutual
def uptoBulk {H : Type} : DataW H → Nat
  | .lit (.string bytes) => bytes.length + 1
  | .lit _ => 1
  | .nil => 1
  | .ptr d => uptoBulk d + 1
  | .slice elems spare => uptoBulkAll elems + uptoBulkAll spare + 1
  | .agg parts => uptoBulkAll parts + 1
  | .iface _ d => uptoBulk d + 1
  | .map entries => uptoBulkEntries entries + 1
  | .held _ => 1
def uptoBulkAll {H : Type} : List (DataW H) → Nat
  | [] => 0
  | d :: r => uptoBulk d + uptoBulkAll r
def uptoBulkEntries {H : Type} : List (Lit × DataW H) → Nat
  | [] => 0
  | x :: r => uptoBulkEntry x + uptoBulkEntries r
def uptoBulkEntry {H : Type} : Lit × DataW H → Nat
  | (.string bytes, d) => bytes.length + uptoBulk d + 1
  | (_, d) => uptoBulk d + 1
 end
def uptoSmall : (H : Type) → List (DataW H) → Bool := fun _ ds => decide (uptoBulkAll ds ≤ 1048576)
def OpenSpec.upto (s : _root_.Go.ChangeSpec) : _root_.Go.OpenSpec := { _root_.Go.OpenSpec.ofChange s with cond := some uptoSmall }

/-- 'exchequerlaw01.SumDivides', WHERE WHAT IT READS IS OF BULK AT MOST 1048576: true; the input reads as it did. -/
def sumDividesUptoRow : OpenClaim := { program := "ytjeiakfdjbnkaaa", sum := "e47c4b7b82ac0fb970caf64acf533b16c769ca3eb58f595dec94c4624915a0fa", func := "exchequer/exchequerlaw01.SumDivides", spec := "sumDivides", plainKeys := false, apart := false, narrowed := true }
def SumDividesUptoSaid : Prop := sumDividesUptoRow.holds Try.pinned (OpenSpec.upto sumDividesSpec)

/-- 'exchequerlaw01.SumGoes', WHERE WHAT IT READS IS OF BULK AT MOST 1048576: true; the input reads as it did. -/
def sumGoesUptoRow : OpenClaim := { program := "ytjeiakfdjbnkaaa", sum := "e47c4b7b82ac0fb970caf64acf533b16c769ca3eb58f595dec94c4624915a0fa", func := "exchequer/exchequerlaw01.SumGoes", spec := "sumGoes", plainKeys := false, apart := false, narrowed := true }
def SumGoesUptoSaid : Prop := sumGoesUptoRow.holds Try.pinned (OpenSpec.upto sumGoesSpec)

/-- 'exchequerlaw01.SumPieces', WHERE WHAT IT READS IS OF BULK AT MOST 1048576: true; the input reads as it did. -/
def sumPiecesUptoRow : OpenClaim := { program := "ytjeiakfdjbnkaaa", sum := "e47c4b7b82ac0fb970caf64acf533b16c769ca3eb58f595dec94c4624915a0fa", func := "exchequer/exchequerlaw01.SumPieces", spec := "sumPieces", plainKeys := false, apart := false, narrowed := true }
def SumPiecesUptoSaid : Prop := sumPiecesUptoRow.holds Try.pinned (OpenSpec.upto sumPiecesSpec)

/-- 'exchequerlaw01.SumBursts', WHERE WHAT IT READS IS OF BULK AT MOST 1048576: true; the input reads as it did. -/
def sumBurstsUptoRow : OpenClaim := { program := "ytjeiakfdjbnkaaa", sum := "e47c4b7b82ac0fb970caf64acf533b16c769ca3eb58f595dec94c4624915a0fa", func := "exchequer/exchequerlaw01.SumBursts", spec := "sumBursts", plainKeys := false, apart := false, narrowed := true }
def SumBurstsUptoSaid : Prop := sumBurstsUptoRow.holds Try.pinned (OpenSpec.upto sumBurstsSpec)

/-- 'exchequerlaw01.SumSwaps', WHERE WHAT IT READS IS OF BULK AT MOST 1048576: true; the input reads as it did. -/
def sumSwapsUptoRow : OpenClaim := { program := "ytjeiakfdjbnkaaa", sum := "e47c4b7b82ac0fb970caf64acf533b16c769ca3eb58f595dec94c4624915a0fa", func := "exchequer/exchequerlaw01.SumSwaps", spec := "sumSwaps", plainKeys := false, apart := false, narrowed := true }
def SumSwapsUptoSaid : Prop := sumSwapsUptoRow.holds Try.pinned (OpenSpec.upto sumSwapsSpec)

/-- 'exchequerlaw09.NetFull', WHERE WHAT IT READS IS OF BULK AT MOST 1048576: true; the input reads as it did. -/
def netFullUptoRow : OpenClaim := { program := "ytjeiakfdjbnkaaa", sum := "e47c4b7b82ac0fb970caf64acf533b16c769ca3eb58f595dec94c4624915a0fa", func := "exchequer/exchequerlaw09.NetFull", spec := "netFull", plainKeys := false, apart := false, narrowed := true }
def NetFullUptoSaid : Prop := netFullUptoRow.holds Try.pinned (OpenSpec.upto netFullSpec)

/-- 'exchequerlaw09.NetOnly', WHERE WHAT IT READS IS OF BULK AT MOST 1048576: true; the input reads as it did. -/
def netOnlyUptoRow : OpenClaim := { program := "ytjeiakfdjbnkaaa", sum := "e47c4b7b82ac0fb970caf64acf533b16c769ca3eb58f595dec94c4624915a0fa", func := "exchequer/exchequerlaw09.NetOnly", spec := "netOnly", plainKeys := false, apart := false, narrowed := true }
def NetOnlyUptoSaid : Prop := netOnlyUptoRow.holds Try.pinned (OpenSpec.upto netOnlySpec)

/-- 'exchequerlaw09.NetCuts', WHERE WHAT IT READS IS OF BULK AT MOST 1048576: true; the input reads as it did. -/
def netCutsUptoRow : OpenClaim := { program := "ytjeiakfdjbnkaaa", sum := "e47c4b7b82ac0fb970caf64acf533b16c769ca3eb58f595dec94c4624915a0fa", func := "exchequer/exchequerlaw09.NetCuts", spec := "netCuts", plainKeys := false, apart := false, narrowed := true }
def NetCutsUptoSaid : Prop := netCutsUptoRow.holds Try.pinned (OpenSpec.upto netCutsSpec)

/-- 'exchequerlaw09.NetPlays', WHERE WHAT IT READS IS OF BULK AT MOST 1048576: true; the input reads as it did. -/
def netPlaysUptoRow : OpenClaim := { program := "ytjeiakfdjbnkaaa", sum := "e47c4b7b82ac0fb970caf64acf533b16c769ca3eb58f595dec94c4624915a0fa", func := "exchequer/exchequerlaw09.NetPlays", spec := "netPlays", plainKeys := false, apart := false, narrowed := true }
def NetPlaysUptoSaid : Prop := netPlaysUptoRow.holds Try.pinned (OpenSpec.upto netPlaysSpec)

/-- 'exchequerlaw09.NetNone', WHERE WHAT IT READS IS OF BULK AT MOST 1048576: true; the input reads as it did. -/
def netNoneUptoRow : OpenClaim := { program := "ytjeiakfdjbnkaaa", sum := "e47c4b7b82ac0fb970caf64acf533b16c769ca3eb58f595dec94c4624915a0fa", func := "exchequer/exchequerlaw09.NetNone", spec := "netNone", plainKeys := false, apart := false, narrowed := true }
def NetNoneUptoSaid : Prop := netNoneUptoRow.holds Try.pinned (OpenSpec.upto netNoneSpec)

end Rows
end Go.Proofs.Ytjeiakfdjbnkaaa
