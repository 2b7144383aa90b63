/-
  No cell of these rows narrows 'for every input' (looked for: loops, veiled, ifaces, maps, wideKeys, modest, calm, conditions, laid).
  DERIVED. THE GIVEN ROWS OF THIS SEAT. 2 by the template 'for every input the law returns true; each argument reads behind the call as it read before'; 0 by the template 'total and deterministic' (their statements: YtbabdabdohljcaaTotals.lean).
  GIVEN WITH THE SEED: the statements are not yours to turn. If you find one false, say at which input.
  Laid BY PROGRAM, IN A SANDBOX (cutbox-rows.mjs): the forced cells as the released guide's own fill.sh prints them over the translation 3faaf58d3f2988d6… (all of the seat's roots in one cut). By AI agents, Wed Nov 11 2026. No macro, syntax, notation, axiom, sorry.
-/
import Derived.Test.YtbabdabdohljcaaChecked
import GoSem.Claim
import GoSem.ClaimJoined
import GoSem.ClaimMapViews
import Derived.JoinedTies
import Derived.KernelRfl
namespace Go.Proofs.Ytbabdabdohljcaa
/- THE CELL 'sum', in the pinned program and in every row, IS THE sha256 OF THE DUMP (.gsa) THAT YtbabdabdohljcaaProg.lean LOADS. Nothing in Lean hashes anything: it is a label: what it is worth is what the hold of that sum in a sandbox is worth. -/
noncomputable def Try.pinned : Pinned := { name := "ytbabdabdohljcaa", sum := "3faaf58d3f2988d6d5b7e6cb3a32e3286bded56a7b32c9b4fd1c2d8ed68baf73", checked := Try.checked }
namespace Rows
def none {H : Type} : Left H := { results := [], args := [] }

/-- 'brackenlaw10.ScriptDoes': WHATEVER THE INPUT: true; the input reads as it did. -/
def scriptDoesSpec : ChangeSpec := { name := "scriptDoes", fn := fun _ => fun
  | [d1, d2, d3, d4, d5, d6] => { results := [.lit (.bool true)], args := [d1, d2, d3, d4, d5, d6] }
  | _ => none }
def scriptDoesRow : OpenClaim := { program := "ytbabdabdohljcaa", sum := "3faaf58d3f2988d6d5b7e6cb3a32e3286bded56a7b32c9b4fd1c2d8ed68baf73", func := "bracken/brackenlaw10.ScriptDoes", spec := "scriptDoes", unfollowed := true, recurses := true, plainKeys := false, apart := false }
def ScriptDoesSaid : Prop := scriptDoesRow.holds Try.pinned (OpenSpec.ofChange scriptDoesSpec)

/-- ITS FALSE NEIGHBOUR: 'it returns false'. Refute it at one input. -/
def scriptDoesWrong : ChangeSpec := { name := "scriptDoes", fn := fun _ => fun
  | [d1, d2, d3, d4, d5, d6] => { results := [.lit (.bool false)], args := [d1, d2, d3, d4, d5, d6] }
  | _ => none }
def ScriptDoesWrongFalsely : Prop := scriptDoesRow.holds Try.pinned (OpenSpec.ofChange scriptDoesWrong)

/-- 'brackenlaw10.ScriptOrder': WHATEVER THE INPUT: true; the input reads as it did. -/
def scriptOrderSpec : ChangeSpec := { name := "scriptOrder", fn := fun _ => fun
  | [d1, d2, d3, d4, d5, d6] => { results := [.lit (.bool true)], args := [d1, d2, d3, d4, d5, d6] }
  | _ => none }
def scriptOrderRow : OpenClaim := { program := "ytbabdabdohljcaa", sum := "3faaf58d3f2988d6d5b7e6cb3a32e3286bded56a7b32c9b4fd1c2d8ed68baf73", func := "bracken/brackenlaw10.ScriptOrder", spec := "scriptOrder", unfollowed := true, recurses := true, plainKeys := false, apart := false }
def ScriptOrderSaid : Prop := scriptOrderRow.holds Try.pinned (OpenSpec.ofChange scriptOrderSpec)

/-- ITS FALSE NEIGHBOUR: 'it returns false'. Refute it at one input. -/
def scriptOrderWrong : ChangeSpec := { name := "scriptOrder", fn := fun _ => fun
  | [d1, d2, d3, d4, d5, d6] => { results := [.lit (.bool false)], args := [d1, d2, d3, d4, d5, d6] }
  | _ => none }
def ScriptOrderWrongFalsely : Prop := scriptOrderRow.holds Try.pinned (OpenSpec.ofChange scriptOrderWrong)

/- THE SECOND FORM. 'bulk': how many values and letters a reading holds, each counted each time it is reached (what is shared counts as often as it is met; a slice's spare places count too). A statement '..UptoSaid' is the law's where the arguments, and the package variables that the reading takes, are together of bulk at most 1048576: NARROWER than '..Said'. Prove '..Said' where nothing that the law and all that it calls make is longer than what came in: it says more and counts as full. Else prove '..UptoSaid'. A law counts once. -/
mutual
def uptoBulk {H : Type} : DataW H → Nat
  | .lit (.string bytes) => bytes.length + 1
  | .lit _ => 1
  | .nil => 1
  | .ptr d => uptoBulk d + 1
  | .slice elems spare => uptoBulkAll elems + uptoBulkAll spare + 1
  | .agg parts => uptoBulkAll parts + 1
  | .iface _ d => uptoBulk d + 1
  | .map entries => uptoBulkEntries entries + 1
  | .held _ => 1
def uptoBulkAll {H : Type} : List (DataW H) → Nat
  | [] => 0
  | d :: r => uptoBulk d + uptoBulkAll r
def uptoBulkEntries {H : Type} : List (Lit × DataW H) → Nat
  | [] => 0
  | x :: r => uptoBulkEntry x + uptoBulkEntries r
def uptoBulkEntry {H : Type} : Lit × DataW H → Nat
  | (.string bytes, d) => bytes.length + uptoBulk d + 1
  | (_, d) => uptoBulk d + 1
 end
def uptoSmall : (H : Type) → List (DataW H) → Bool := fun _ ds => decide (uptoBulkAll ds ≤ 1048576)
def OpenSpec.upto (s : _root_.Go.ChangeSpec) : _root_.Go.OpenSpec := { _root_.Go.OpenSpec.ofChange s with cond := some uptoSmall }

/-- 'brackenlaw10.ScriptDoes', WHERE WHAT IT READS IS OF BULK AT MOST 1048576: true; the input reads as it did. -/
def scriptDoesUptoRow : OpenClaim := { program := "ytbabdabdohljcaa", sum := "3faaf58d3f2988d6d5b7e6cb3a32e3286bded56a7b32c9b4fd1c2d8ed68baf73", func := "bracken/brackenlaw10.ScriptDoes", spec := "scriptDoes", unfollowed := true, recurses := true, plainKeys := false, apart := false, narrowed := true }
def ScriptDoesUptoSaid : Prop := scriptDoesUptoRow.holds Try.pinned (OpenSpec.upto scriptDoesSpec)

/-- 'brackenlaw10.ScriptOrder', WHERE WHAT IT READS IS OF BULK AT MOST 1048576: true; the input reads as it did. -/
def scriptOrderUptoRow : OpenClaim := { program := "ytbabdabdohljcaa", sum := "3faaf58d3f2988d6d5b7e6cb3a32e3286bded56a7b32c9b4fd1c2d8ed68baf73", func := "bracken/brackenlaw10.ScriptOrder", spec := "scriptOrder", unfollowed := true, recurses := true, plainKeys := false, apart := false, narrowed := true }
def ScriptOrderUptoSaid : Prop := scriptOrderUptoRow.holds Try.pinned (OpenSpec.upto scriptOrderSpec)

end Rows
end Go.Proofs.Ytbabdabdohljcaa
