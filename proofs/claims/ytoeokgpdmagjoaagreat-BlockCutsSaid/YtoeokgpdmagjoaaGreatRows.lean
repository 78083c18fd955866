/-
  No cell of these rows narrows 'for every input' (looked for: loops, veiled, ifaces, maps, wideKeys, modest, calm, conditions, laid).
  DERIVED. THE GIVEN ROWS OF THIS SEAT. 8 by the template 'for every input the law returns true; each argument reads behind the call as it read before'; 0 by the template 'total and deterministic' (their statements: YtoeokgpdmagjoaaGreatTotals.lean).
  GIVEN WITH THE SEED: the statements are not yours to turn. If you find one false, say at which input.
  Laid BY PROGRAM, IN A SANDBOX (cutbox-rows.mjs): the forced cells as the released guide's own fill.sh prints them over the translation 4a8a15d38d292f3c… (all of the seat's roots in one cut). By AI agents, Wed Nov 11 2026. No macro, syntax, notation, axiom, sorry.
-/
import Derived.Test.YtoeokgpdmagjoaaGreatChecked
import GoSem.Claim
import GoSem.ClaimJoined
import GoSem.ClaimMapViews
import Derived.JoinedTies
import Derived.KernelRfl
namespace Go.Proofs.YtoeokgpdmagjoaaGreat
/- THE CELL 'sum', in the pinned program and in every row, IS THE sha256 OF THE DUMP (.gsa) THAT YtoeokgpdmagjoaaGreatProg.lean LOADS. Nothing in Lean hashes anything: it is a label: what it is worth is what the hold of that sum in a sandbox is worth. -/
noncomputable def Tryz.pinned : Pinned := { name := "ytoeokgpdmagjoaagreat", sum := "4a8a15d38d292f3c9974704424a15bfd13f43d4ff90f10c796a02166ac1e5f04", checked := Tryz.checked }
namespace Rows
def none {H : Type} : Left H := { results := [], args := [] }

/-- 'wringerlaw21.BlockAll': WHATEVER THE INPUT: true; the input reads as it did. -/
def blockAllSpec : ChangeSpec := { name := "blockAll", fn := fun _ => fun
  | [d1, d2, d3, d4, d5, d6, d7, d8] => { results := [.lit (.bool true)], args := [d1, d2, d3, d4, d5, d6, d7, d8] }
  | _ => none }
def blockAllRow : OpenClaim := { program := "ytoeokgpdmagjoaagreat", sum := "4a8a15d38d292f3c9974704424a15bfd13f43d4ff90f10c796a02166ac1e5f04", func := "wringer/wringerlaw21.BlockAll", spec := "blockAll", inPlace := ["internal/abi.NoEscape"], unfollowed := true, recurses := true, plainKeys := false, apart := false }
def BlockAllSaid : Prop := blockAllRow.holds Tryz.pinned (OpenSpec.ofChange blockAllSpec)

/-- ITS FALSE NEIGHBOUR: 'it returns false'. Refute it at one input. -/
def blockAllWrong : ChangeSpec := { name := "blockAll", fn := fun _ => fun
  | [d1, d2, d3, d4, d5, d6, d7, d8] => { results := [.lit (.bool false)], args := [d1, d2, d3, d4, d5, d6, d7, d8] }
  | _ => none }
def BlockAllWrongFalsely : Prop := blockAllRow.holds Tryz.pinned (OpenSpec.ofChange blockAllWrong)

/-- 'wringerlaw21.BlockMade': WHATEVER THE INPUT: true; the input reads as it did. -/
def blockMadeSpec : ChangeSpec := { name := "blockMade", fn := fun _ => fun
  | [d1, d2, d3, d4, d5, d6, d7, d8, d9] => { results := [.lit (.bool true)], args := [d1, d2, d3, d4, d5, d6, d7, d8, d9] }
  | _ => none }
def blockMadeRow : OpenClaim := { program := "ytoeokgpdmagjoaagreat", sum := "4a8a15d38d292f3c9974704424a15bfd13f43d4ff90f10c796a02166ac1e5f04", func := "wringer/wringerlaw21.BlockMade", spec := "blockMade", inPlace := ["internal/abi.NoEscape"], unfollowed := true, recurses := true, plainKeys := false, apart := false }
def BlockMadeSaid : Prop := blockMadeRow.holds Tryz.pinned (OpenSpec.ofChange blockMadeSpec)

/-- ITS FALSE NEIGHBOUR: 'it returns false'. Refute it at one input. -/
def blockMadeWrong : ChangeSpec := { name := "blockMade", fn := fun _ => fun
  | [d1, d2, d3, d4, d5, d6, d7, d8, d9] => { results := [.lit (.bool false)], args := [d1, d2, d3, d4, d5, d6, d7, d8, d9] }
  | _ => none }
def BlockMadeWrongFalsely : Prop := blockMadeRow.holds Tryz.pinned (OpenSpec.ofChange blockMadeWrong)

/-- 'wringerlaw21.BlockBack': WHATEVER THE INPUT: true; the input reads as it did. -/
def blockBackSpec : ChangeSpec := { name := "blockBack", fn := fun _ => fun
  | [d1, d2, d3, d4, d5, d6, d7, d8] => { results := [.lit (.bool true)], args := [d1, d2, d3, d4, d5, d6, d7, d8] }
  | _ => none }
def blockBackRow : OpenClaim := { program := "ytoeokgpdmagjoaagreat", sum := "4a8a15d38d292f3c9974704424a15bfd13f43d4ff90f10c796a02166ac1e5f04", func := "wringer/wringerlaw21.BlockBack", spec := "blockBack", inPlace := ["internal/abi.NoEscape"], unfollowed := true, recurses := true, plainKeys := false, apart := false }
def BlockBackSaid : Prop := blockBackRow.holds Tryz.pinned (OpenSpec.ofChange blockBackSpec)

/-- ITS FALSE NEIGHBOUR: 'it returns false'. Refute it at one input. -/
def blockBackWrong : ChangeSpec := { name := "blockBack", fn := fun _ => fun
  | [d1, d2, d3, d4, d5, d6, d7, d8] => { results := [.lit (.bool false)], args := [d1, d2, d3, d4, d5, d6, d7, d8] }
  | _ => none }
def BlockBackWrongFalsely : Prop := blockBackRow.holds Tryz.pinned (OpenSpec.ofChange blockBackWrong)

/-- 'wringerlaw21.BlockLong': WHATEVER THE INPUT: true; the input reads as it did. -/
def blockLongSpec : ChangeSpec := { name := "blockLong", fn := fun _ => fun
  | [d1, d2, d3, d4, d5] => { results := [.lit (.bool true)], args := [d1, d2, d3, d4, d5] }
  | _ => none }
def blockLongRow : OpenClaim := { program := "ytoeokgpdmagjoaagreat", sum := "4a8a15d38d292f3c9974704424a15bfd13f43d4ff90f10c796a02166ac1e5f04", func := "wringer/wringerlaw21.BlockLong", spec := "blockLong", inPlace := ["internal/abi.NoEscape"], unfollowed := true, recurses := true, plainKeys := false, apart := false }
def BlockLongSaid : Prop := blockLongRow.holds Tryz.pinned (OpenSpec.ofChange blockLongSpec)

/-- ITS FALSE NEIGHBOUR: 'it returns false'. Refute it at one input. -/
def blockLongWrong : ChangeSpec := { name := "blockLong", fn := fun _ => fun
  | [d1, d2, d3, d4, d5] => { results := [.lit (.bool false)], args := [d1, d2, d3, d4, d5] }
  | _ => none }
def BlockLongWrongFalsely : Prop := blockLongRow.holds Tryz.pinned (OpenSpec.ofChange blockLongWrong)

/-- 'wringerlaw21.BlockRefuses': WHATEVER THE INPUT: true; the input reads as it did. -/
def blockRefusesSpec : ChangeSpec := { name := "blockRefuses", fn := fun _ => fun
  | [d1, d2] => { results := [.lit (.bool true)], args := [d1, d2] }
  | _ => none }
def blockRefusesRow : OpenClaim := { program := "ytoeokgpdmagjoaagreat", sum := "4a8a15d38d292f3c9974704424a15bfd13f43d4ff90f10c796a02166ac1e5f04", func := "wringer/wringerlaw21.BlockRefuses", spec := "blockRefuses", inPlace := ["internal/abi.NoEscape"], unfollowed := true, recurses := true, plainKeys := false, apart := false }
def BlockRefusesSaid : Prop := blockRefusesRow.holds Tryz.pinned (OpenSpec.ofChange blockRefusesSpec)

/-- ITS FALSE NEIGHBOUR: 'it returns false'. Refute it at one input. -/
def blockRefusesWrong : ChangeSpec := { name := "blockRefuses", fn := fun _ => fun
  | [d1, d2] => { results := [.lit (.bool false)], args := [d1, d2] }
  | _ => none }
def BlockRefusesWrongFalsely : Prop := blockRefusesRow.holds Tryz.pinned (OpenSpec.ofChange blockRefusesWrong)

/-- 'wringerlaw21.BlockSums': WHATEVER THE INPUT: true; the input reads as it did. -/
def blockSumsSpec : ChangeSpec := { name := "blockSums", fn := fun _ => fun
  | [d1, d2, d3, d4] => { results := [.lit (.bool true)], args := [d1, d2, d3, d4] }
  | _ => none }
def blockSumsRow : OpenClaim := { program := "ytoeokgpdmagjoaagreat", sum := "4a8a15d38d292f3c9974704424a15bfd13f43d4ff90f10c796a02166ac1e5f04", func := "wringer/wringerlaw21.BlockSums", spec := "blockSums", inPlace := ["internal/abi.NoEscape"], unfollowed := true, recurses := true, plainKeys := false, apart := false }
def BlockSumsSaid : Prop := blockSumsRow.holds Tryz.pinned (OpenSpec.ofChange blockSumsSpec)

/-- ITS FALSE NEIGHBOUR: 'it returns false'. Refute it at one input. -/
def blockSumsWrong : ChangeSpec := { name := "blockSums", fn := fun _ => fun
  | [d1, d2, d3, d4] => { results := [.lit (.bool false)], args := [d1, d2, d3, d4] }
  | _ => none }
def BlockSumsWrongFalsely : Prop := blockSumsRow.holds Tryz.pinned (OpenSpec.ofChange blockSumsWrong)

/-- 'wringerlaw21.BlockCuts': WHATEVER THE INPUT: true; the input reads as it did. -/
def blockCutsSpec : ChangeSpec := { name := "blockCuts", fn := fun _ => fun
  | [d1, d2, d3, d4, d5, d6, d7] => { results := [.lit (.bool true)], args := [d1, d2, d3, d4, d5, d6, d7] }
  | _ => none }
def blockCutsRow : OpenClaim := { program := "ytoeokgpdmagjoaagreat", sum := "4a8a15d38d292f3c9974704424a15bfd13f43d4ff90f10c796a02166ac1e5f04", func := "wringer/wringerlaw21.BlockCuts", spec := "blockCuts", inPlace := ["internal/abi.NoEscape"], unfollowed := true, recurses := true, plainKeys := false, apart := false }
def BlockCutsSaid : Prop := blockCutsRow.holds Tryz.pinned (OpenSpec.ofChange blockCutsSpec)

/-- ITS FALSE NEIGHBOUR: 'it returns false'. Refute it at one input. -/
def blockCutsWrong : ChangeSpec := { name := "blockCuts", fn := fun _ => fun
  | [d1, d2, d3, d4, d5, d6, d7] => { results := [.lit (.bool false)], args := [d1, d2, d3, d4, d5, d6, d7] }
  | _ => none }
def BlockCutsWrongFalsely : Prop := blockCutsRow.holds Tryz.pinned (OpenSpec.ofChange blockCutsWrong)

/-- 'wringerlaw21.BlockWays': WHATEVER THE INPUT: true; the input reads as it did. -/
def blockWaysSpec : ChangeSpec := { name := "blockWays", fn := fun _ => fun
  | [d1, d2, d3, d4, d5, d6] => { results := [.lit (.bool true)], args := [d1, d2, d3, d4, d5, d6] }
  | _ => none }
def blockWaysRow : OpenClaim := { program := "ytoeokgpdmagjoaagreat", sum := "4a8a15d38d292f3c9974704424a15bfd13f43d4ff90f10c796a02166ac1e5f04", func := "wringer/wringerlaw21.BlockWays", spec := "blockWays", inPlace := ["internal/abi.NoEscape"], unfollowed := true, recurses := true, plainKeys := false, apart := false }
def BlockWaysSaid : Prop := blockWaysRow.holds Tryz.pinned (OpenSpec.ofChange blockWaysSpec)

/-- ITS FALSE NEIGHBOUR: 'it returns false'. Refute it at one input. -/
def blockWaysWrong : ChangeSpec := { name := "blockWays", fn := fun _ => fun
  | [d1, d2, d3, d4, d5, d6] => { results := [.lit (.bool false)], args := [d1, d2, d3, d4, d5, d6] }
  | _ => none }
def BlockWaysWrongFalsely : Prop := blockWaysRow.holds Tryz.pinned (OpenSpec.ofChange blockWaysWrong)

/- THE SECOND FORM. 'bulk': how many values and letters a reading holds, each counted each time it is reached (what is shared counts as often as it is met; a slice's spare places count too). A statement '..UptoSaid' is the law's where the arguments, and the package variables that the reading takes, are together of bulk at most 1048576: NARROWER than '..Said'. Prove '..Said' where nothing that the law and all that it calls make is longer than what came in: it says more and counts as full. Else prove '..UptoSaid'. A law counts once. -/
mutual
def uptoBulk {H : Type} : DataW H → Nat
  | .lit (.string bytes) => bytes.length + 1
  | .lit _ => 1
  | .nil => 1
  | .ptr d => uptoBulk d + 1
  | .slice elems spare => uptoBulkAll elems + uptoBulkAll spare + 1
  | .agg parts => uptoBulkAll parts + 1
  | .iface _ d => uptoBulk d + 1
  | .map entries => uptoBulkEntries entries + 1
  | .held _ => 1
def uptoBulkAll {H : Type} : List (DataW H) → Nat
  | [] => 0
  | d :: r => uptoBulk d + uptoBulkAll r
def uptoBulkEntries {H : Type} : List (Lit × DataW H) → Nat
  | [] => 0
  | x :: r => uptoBulkEntry x + uptoBulkEntries r
def uptoBulkEntry {H : Type} : Lit × DataW H → Nat
  | (.string bytes, d) => bytes.length + uptoBulk d + 1
  | (_, d) => uptoBulk d + 1
 end
def uptoSmall : (H : Type) → List (DataW H) → Bool := fun _ ds => decide (uptoBulkAll ds ≤ 1048576)
def OpenSpec.upto (s : _root_.Go.ChangeSpec) : _root_.Go.OpenSpec := { _root_.Go.OpenSpec.ofChange s with cond := some uptoSmall }

/-- 'wringerlaw21.BlockAll', WHERE WHAT IT READS IS OF BULK AT MOST 1048576: true; the input reads as it did. -/
def blockAllUptoRow : OpenClaim := { program := "ytoeokgpdmagjoaagreat", sum := "4a8a15d38d292f3c9974704424a15bfd13f43d4ff90f10c796a02166ac1e5f04", func := "wringer/wringerlaw21.BlockAll", spec := "blockAll", inPlace := ["internal/abi.NoEscape"], unfollowed := true, recurses := true, plainKeys := false, apart := false, narrowed := true }
def BlockAllUptoSaid : Prop := blockAllUptoRow.holds Tryz.pinned (OpenSpec.upto blockAllSpec)

/-- 'wringerlaw21.BlockMade', WHERE WHAT IT READS IS OF BULK AT MOST 1048576: true; the input reads as it did. -/
def blockMadeUptoRow : OpenClaim := { program := "ytoeokgpdmagjoaagreat", sum := "4a8a15d38d292f3c9974704424a15bfd13f43d4ff90f10c796a02166ac1e5f04", func := "wringer/wringerlaw21.BlockMade", spec := "blockMade", inPlace := ["internal/abi.NoEscape"], unfollowed := true, recurses := true, plainKeys := false, apart := false, narrowed := true }
def BlockMadeUptoSaid : Prop := blockMadeUptoRow.holds Tryz.pinned (OpenSpec.upto blockMadeSpec)

/-- 'wringerlaw21.BlockBack', WHERE WHAT IT READS IS OF BULK AT MOST 1048576: true; the input reads as it did. -/
def blockBackUptoRow : OpenClaim := { program := "ytoeokgpdmagjoaagreat", sum := "4a8a15d38d292f3c9974704424a15bfd13f43d4ff90f10c796a02166ac1e5f04", func := "wringer/wringerlaw21.BlockBack", spec := "blockBack", inPlace := ["internal/abi.NoEscape"], unfollowed := true, recurses := true, plainKeys := false, apart := false, narrowed := true }
def BlockBackUptoSaid : Prop := blockBackUptoRow.holds Tryz.pinned (OpenSpec.upto blockBackSpec)

/-- 'wringerlaw21.BlockLong', WHERE WHAT IT READS IS OF BULK AT MOST 1048576: true; the input reads as it did. -/
def blockLongUptoRow : OpenClaim := { program := "ytoeokgpdmagjoaagreat", sum := "4a8a15d38d292f3c9974704424a15bfd13f43d4ff90f10c796a02166ac1e5f04", func := "wringer/wringerlaw21.BlockLong", spec := "blockLong", inPlace := ["internal/abi.NoEscape"], unfollowed := true, recurses := true, plainKeys := false, apart := false, narrowed := true }
def BlockLongUptoSaid : Prop := blockLongUptoRow.holds Tryz.pinned (OpenSpec.upto blockLongSpec)

/-- 'wringerlaw21.BlockRefuses', WHERE WHAT IT READS IS OF BULK AT MOST 1048576: true; the input reads as it did. -/
def blockRefusesUptoRow : OpenClaim := { program := "ytoeokgpdmagjoaagreat", sum := "4a8a15d38d292f3c9974704424a15bfd13f43d4ff90f10c796a02166ac1e5f04", func := "wringer/wringerlaw21.BlockRefuses", spec := "blockRefuses", inPlace := ["internal/abi.NoEscape"], unfollowed := true, recurses := true, plainKeys := false, apart := false, narrowed := true }
def BlockRefusesUptoSaid : Prop := blockRefusesUptoRow.holds Tryz.pinned (OpenSpec.upto blockRefusesSpec)

/-- 'wringerlaw21.BlockSums', WHERE WHAT IT READS IS OF BULK AT MOST 1048576: true; the input reads as it did. -/
def blockSumsUptoRow : OpenClaim := { program := "ytoeokgpdmagjoaagreat", sum := "4a8a15d38d292f3c9974704424a15bfd13f43d4ff90f10c796a02166ac1e5f04", func := "wringer/wringerlaw21.BlockSums", spec := "blockSums", inPlace := ["internal/abi.NoEscape"], unfollowed := true, recurses := true, plainKeys := false, apart := false, narrowed := true }
def BlockSumsUptoSaid : Prop := blockSumsUptoRow.holds Tryz.pinned (OpenSpec.upto blockSumsSpec)

/-- 'wringerlaw21.BlockCuts', WHERE WHAT IT READS IS OF BULK AT MOST 1048576: true; the input reads as it did. -/
def blockCutsUptoRow : OpenClaim := { program := "ytoeokgpdmagjoaagreat", sum := "4a8a15d38d292f3c9974704424a15bfd13f43d4ff90f10c796a02166ac1e5f04", func := "wringer/wringerlaw21.BlockCuts", spec := "blockCuts", inPlace := ["internal/abi.NoEscape"], unfollowed := true, recurses := true, plainKeys := false, apart := false, narrowed := true }
def BlockCutsUptoSaid : Prop := blockCutsUptoRow.holds Tryz.pinned (OpenSpec.upto blockCutsSpec)

/-- 'wringerlaw21.BlockWays', WHERE WHAT IT READS IS OF BULK AT MOST 1048576: true; the input reads as it did. -/
def blockWaysUptoRow : OpenClaim := { program := "ytoeokgpdmagjoaagreat", sum := "4a8a15d38d292f3c9974704424a15bfd13f43d4ff90f10c796a02166ac1e5f04", func := "wringer/wringerlaw21.BlockWays", spec := "blockWays", inPlace := ["internal/abi.NoEscape"], unfollowed := true, recurses := true, plainKeys := false, apart := false, narrowed := true }
def BlockWaysUptoSaid : Prop := blockWaysUptoRow.holds Tryz.pinned (OpenSpec.upto blockWaysSpec)

end Rows
end Go.Proofs.YtoeokgpdmagjoaaGreat
