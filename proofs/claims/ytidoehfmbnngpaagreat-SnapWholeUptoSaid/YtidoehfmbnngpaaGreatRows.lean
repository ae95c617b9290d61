/-
  No cell of these rows narrows 'for every input' (looked for: loops, veiled, ifaces, maps, wideKeys, modest, calm, conditions, laid).
  DERIVED. THE GIVEN ROWS OF THIS SEAT. 3 by the template 'for every input the law returns true; each argument reads behind the call as it read before'; 0 by the template 'total and deterministic' (their statements: YtidoehfmbnngpaaGreatTotals.lean).
  GIVEN WITH THE SEED: the statements are not yours to turn. If you find one false, say at which input.
  Laid BY PROGRAM, IN A SANDBOX (cutbox-rows.mjs): the forced cells as the released guide's own fill.sh prints them over the translation 0a7dcda06cc0a7e1… (all of the seat's roots in one cut). By AI agents, Wed Nov 11 2026. No macro, syntax, notation, axiom, sorry.
-/
import Derived.Test.YtidoehfmbnngpaaGreatChecked
import GoSem.Claim
import GoSem.ClaimJoined
import GoSem.ClaimMapViews
import Derived.JoinedTies
import Derived.KernelRfl
namespace Go.Proofs.YtidoehfmbnngpaaGreat
/- THE CELL 'sum', in the pinned program and in every row, IS THE sha256 OF THE DUMP (.gsa) THAT YtidoehfmbnngpaaGreatProg.lean LOADS. Nothing in Lean hashes anything: it is a label: what it is worth is what the hold of that sum in a sandbox is worth. -/
noncomputable def Tryz.pinned : Pinned := { name := "ytidoehfmbnngpaagreat", sum := "0a7dcda06cc0a7e1e92946071fdfb1b1c1ae99f184853e951d17fa4f900c9730", checked := Tryz.checked }
namespace Rows
def none {H : Type} : Left H := { results := [], args := [] }

/-- 'rampartlaw13.SnapWhole': WHATEVER THE INPUT: true; the input reads as it did. -/
def snapWholeSpec : ChangeSpec := { name := "snapWhole", fn := fun _ => fun
  | [d1, d2] => { results := [.lit (.bool true)], args := [d1, d2] }
  | _ => none }
def snapWholeRow : OpenClaim := { program := "ytidoehfmbnngpaagreat", sum := "0a7dcda06cc0a7e1e92946071fdfb1b1c1ae99f184853e951d17fa4f900c9730", func := "rampart/rampartlaw13.SnapWhole", spec := "snapWhole", inPlace := ["slices.overlaps[rampart/api.ID]"], unfollowed := true, recurses := true, plainKeys := false, apart := false }
def SnapWholeSaid : Prop := snapWholeRow.holds Tryz.pinned (OpenSpec.ofChange snapWholeSpec)

/-- ITS FALSE NEIGHBOUR: 'it returns false'. Refute it at one input. -/
def snapWholeWrong : ChangeSpec := { name := "snapWhole", fn := fun _ => fun
  | [d1, d2] => { results := [.lit (.bool false)], args := [d1, d2] }
  | _ => none }
def SnapWholeWrongFalsely : Prop := snapWholeRow.holds Tryz.pinned (OpenSpec.ofChange snapWholeWrong)

/-- 'rampartlaw13.SnapBack': WHATEVER THE INPUT: true; the input reads as it did. -/
def snapBackSpec : ChangeSpec := { name := "snapBack", fn := fun _ => fun
  | [d1, d2, d3, d4] => { results := [.lit (.bool true)], args := [d1, d2, d3, d4] }
  | _ => none }
def snapBackRow : OpenClaim := { program := "ytidoehfmbnngpaagreat", sum := "0a7dcda06cc0a7e1e92946071fdfb1b1c1ae99f184853e951d17fa4f900c9730", func := "rampart/rampartlaw13.SnapBack", spec := "snapBack", inPlace := ["slices.overlaps[rampart/api.ID]"], unfollowed := true, recurses := true, plainKeys := false, apart := false }
def SnapBackSaid : Prop := snapBackRow.holds Tryz.pinned (OpenSpec.ofChange snapBackSpec)

/-- ITS FALSE NEIGHBOUR: 'it returns false'. Refute it at one input. -/
def snapBackWrong : ChangeSpec := { name := "snapBack", fn := fun _ => fun
  | [d1, d2, d3, d4] => { results := [.lit (.bool false)], args := [d1, d2, d3, d4] }
  | _ => none }
def SnapBackWrongFalsely : Prop := snapBackRow.holds Tryz.pinned (OpenSpec.ofChange snapBackWrong)

/-- 'rampartlaw28.HybridReads': WHATEVER THE INPUT: true; the input reads as it did. -/
def hybridReadsSpec : ChangeSpec := { name := "hybridReads", fn := fun _ => fun
  | [d1, d2, d3, d4, d5] => { results := [.lit (.bool true)], args := [d1, d2, d3, d4, d5] }
  | _ => none }
def hybridReadsRow : OpenClaim := { program := "ytidoehfmbnngpaagreat", sum := "0a7dcda06cc0a7e1e92946071fdfb1b1c1ae99f184853e951d17fa4f900c9730", func := "rampart/rampartlaw28.HybridReads", spec := "hybridReads", inPlace := ["slices.overlaps[rampart/api.ID]"], unfollowed := true, recurses := true, plainKeys := false, apart := false }
def HybridReadsSaid : Prop := hybridReadsRow.holds Tryz.pinned (OpenSpec.ofChange hybridReadsSpec)

/-- ITS FALSE NEIGHBOUR: 'it returns false'. Refute it at one input. -/
def hybridReadsWrong : ChangeSpec := { name := "hybridReads", fn := fun _ => fun
  | [d1, d2, d3, d4, d5] => { results := [.lit (.bool false)], args := [d1, d2, d3, d4, d5] }
  | _ => none }
def HybridReadsWrongFalsely : Prop := hybridReadsRow.holds Tryz.pinned (OpenSpec.ofChange hybridReadsWrong)

/- THE SECOND FORM. 'bulk': how many values and letters a reading holds, each counted each time it is reached (what is shared counts as often as it is met; a slice's spare places count too). A statement '..UptoSaid' is the law's where the arguments, and the package variables that the reading takes, are together of bulk at most 1048576: NARROWER than '..Said'. Prove '..Said' where nothing that the law and all that it calls make is longer than what came in: it says more and counts as full. Else prove '..UptoSaid'. A law counts once. -/
mutual
def uptoBulk {H : Type} : DataW H → Nat
  | .lit (.string bytes) => bytes.length + 1
  | .lit _ => 1
  | .nil => 1
  | .ptr d => uptoBulk d + 1
  | .slice elems spare => uptoBulkAll elems + uptoBulkAll spare + 1
  | .agg parts => uptoBulkAll parts + 1
  | .iface _ d => uptoBulk d + 1
  | .map entries => uptoBulkEntries entries + 1
  | .held _ => 1
def uptoBulkAll {H : Type} : List (DataW H) → Nat
  | [] => 0
  | d :: r => uptoBulk d + uptoBulkAll r
def uptoBulkEntries {H : Type} : List (Lit × DataW H) → Nat
  | [] => 0
  | x :: r => uptoBulkEntry x + uptoBulkEntries r
def uptoBulkEntry {H : Type} : Lit × DataW H → Nat
  | (.string bytes, d) => bytes.length + uptoBulk d + 1
  | (_, d) => uptoBulk d + 1
 end
def uptoSmall : (H : Type) → List (DataW H) → Bool := fun _ ds => decide (uptoBulkAll ds ≤ 1048576)
def OpenSpec.upto (s : _root_.Go.ChangeSpec) : _root_.Go.OpenSpec := { _root_.Go.OpenSpec.ofChange s with cond := some uptoSmall }

/-- 'rampartlaw13.SnapWhole', WHERE WHAT IT READS IS OF BULK AT MOST 1048576: true; the input reads as it did. -/
def snapWholeUptoRow : OpenClaim := { program := "ytidoehfmbnngpaagreat", sum := "0a7dcda06cc0a7e1e92946071fdfb1b1c1ae99f184853e951d17fa4f900c9730", func := "rampart/rampartlaw13.SnapWhole", spec := "snapWhole", inPlace := ["slices.overlaps[rampart/api.ID]"], unfollowed := true, recurses := true, plainKeys := false, apart := false, narrowed := true }
def SnapWholeUptoSaid : Prop := snapWholeUptoRow.holds Tryz.pinned (OpenSpec.upto snapWholeSpec)

/-- 'rampartlaw13.SnapBack', WHERE WHAT IT READS IS OF BULK AT MOST 1048576: true; the input reads as it did. -/
def snapBackUptoRow : OpenClaim := { program := "ytidoehfmbnngpaagreat", sum := "0a7dcda06cc0a7e1e92946071fdfb1b1c1ae99f184853e951d17fa4f900c9730", func := "rampart/rampartlaw13.SnapBack", spec := "snapBack", inPlace := ["slices.overlaps[rampart/api.ID]"], unfollowed := true, recurses := true, plainKeys := false, apart := false, narrowed := true }
def SnapBackUptoSaid : Prop := snapBackUptoRow.holds Tryz.pinned (OpenSpec.upto snapBackSpec)

/-- 'rampartlaw28.HybridReads', WHERE WHAT IT READS IS OF BULK AT MOST 1048576: true; the input reads as it did. -/
def hybridReadsUptoRow : OpenClaim := { program := "ytidoehfmbnngpaagreat", sum := "0a7dcda06cc0a7e1e92946071fdfb1b1c1ae99f184853e951d17fa4f900c9730", func := "rampart/rampartlaw28.HybridReads", spec := "hybridReads", inPlace := ["slices.overlaps[rampart/api.ID]"], unfollowed := true, recurses := true, plainKeys := false, apart := false, narrowed := true }
def HybridReadsUptoSaid : Prop := hybridReadsUptoRow.holds Tryz.pinned (OpenSpec.upto hybridReadsSpec)

end Rows
end Go.Proofs.YtidoehfmbnngpaaGreat
