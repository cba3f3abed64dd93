/-
  No cell of these rows narrows 'for every input' (looked for: loops, veiled, ifaces, maps, wideKeys, modest, calm, conditions, laid).
  DERIVED. THE GIVEN ROWS OF THIS SEAT. 4 by the template 'for every input the law returns true; each argument reads behind the call as it read before'; 0 by the template 'total and deterministic' (their statements: YtocpeiocgppkfaaTotals.lean).
  GIVEN WITH THE SEED: the statements are not yours to turn. If you find one false, say at which input.
  Laid BY PROGRAM, IN A SANDBOX (cutbox-rows.mjs): the forced cells as the released guide's own fill.sh prints them over the translation c02db9e407c0859c… (all of the seat's roots in one cut). By AI agents, Wed Nov 11 2026. No macro, syntax, notation, axiom, sorry.
-/
import Derived.Test.YtocpeiocgppkfaaChecked
import GoSem.Claim
import GoSem.ClaimJoined
import GoSem.ClaimMapViews
import Derived.JoinedTies
import Derived.KernelRfl
namespace Go.Proofs.Ytocpeiocgppkfaa
/- THE CELL 'sum', in the pinned program and in every row, IS THE sha256 OF THE DUMP (.gsa) THAT YtocpeiocgppkfaaProg.lean LOADS. Nothing in Lean hashes anything: it is a label: what it is worth is what the hold of that sum in a sandbox is worth. -/
noncomputable def Try.pinned : Pinned := { name := "ytocpeiocgppkfaa", sum := "c02db9e407c0859cbd149c5dcaf332c4252464e034be5ec3cf26c7a819022a03", checked := Try.checked }
namespace Rows
def none {H : Type} : Left H := { results := [], args := [] }

/-- 'pilasterlaw26.TxlogStates': WHATEVER THE INPUT: true; the input reads as it did. -/
def txlogStatesSpec : ChangeSpec := { name := "txlogStates", fn := fun _ => fun
  | [d1, d2, d3] => { results := [.lit (.bool true)], args := [d1, d2, d3] }
  | _ => none }
def txlogStatesRow : OpenClaim := { program := "ytocpeiocgppkfaa", sum := "c02db9e407c0859cbd149c5dcaf332c4252464e034be5ec3cf26c7a819022a03", func := "pilaster/pilasterlaw26.TxlogStates", spec := "txlogStates", apart := false }
def TxlogStatesSaid : Prop := txlogStatesRow.holds Try.pinned (OpenSpec.ofChange txlogStatesSpec)

/-- ITS FALSE NEIGHBOUR: 'it returns false'. Refute it at one input. -/
def txlogStatesWrong : ChangeSpec := { name := "txlogStates", fn := fun _ => fun
  | [d1, d2, d3] => { results := [.lit (.bool false)], args := [d1, d2, d3] }
  | _ => none }
def TxlogStatesWrongFalsely : Prop := txlogStatesRow.holds Try.pinned (OpenSpec.ofChange txlogStatesWrong)

/-- 'pilasterlaw26.TxlogStays': WHATEVER THE INPUT: true; the input reads as it did. -/
def txlogStaysSpec : ChangeSpec := { name := "txlogStays", fn := fun _ => fun
  | [d] => { results := [.lit (.bool true)], args := [d] }
  | _ => none }
def txlogStaysRow : OpenClaim := { program := "ytocpeiocgppkfaa", sum := "c02db9e407c0859cbd149c5dcaf332c4252464e034be5ec3cf26c7a819022a03", func := "pilaster/pilasterlaw26.TxlogStays", spec := "txlogStays", apart := false }
def TxlogStaysSaid : Prop := txlogStaysRow.holds Try.pinned (OpenSpec.ofChange txlogStaysSpec)

/-- ITS FALSE NEIGHBOUR: 'it returns false'. Refute it at one input. -/
def txlogStaysWrong : ChangeSpec := { name := "txlogStays", fn := fun _ => fun
  | [d] => { results := [.lit (.bool false)], args := [d] }
  | _ => none }
def TxlogStaysWrongFalsely : Prop := txlogStaysRow.holds Try.pinned (OpenSpec.ofChange txlogStaysWrong)

/-- 'pilasterlaw26.TxlogBytes': WHATEVER THE INPUT: true; the input reads as it did. -/
def txlogBytesSpec : ChangeSpec := { name := "txlogBytes", fn := fun _ => fun
  | [d1, d2] => { results := [.lit (.bool true)], args := [d1, d2] }
  | _ => none }
def txlogBytesRow : OpenClaim := { program := "ytocpeiocgppkfaa", sum := "c02db9e407c0859cbd149c5dcaf332c4252464e034be5ec3cf26c7a819022a03", func := "pilaster/pilasterlaw26.TxlogBytes", spec := "txlogBytes", apart := false }
def TxlogBytesSaid : Prop := txlogBytesRow.holds Try.pinned (OpenSpec.ofChange txlogBytesSpec)

/-- ITS FALSE NEIGHBOUR: 'it returns false'. Refute it at one input. -/
def txlogBytesWrong : ChangeSpec := { name := "txlogBytes", fn := fun _ => fun
  | [d1, d2] => { results := [.lit (.bool false)], args := [d1, d2] }
  | _ => none }
def TxlogBytesWrongFalsely : Prop := txlogBytesRow.holds Try.pinned (OpenSpec.ofChange txlogBytesWrong)

/-- 'pilasterlaw26.TxlogCut': WHATEVER THE INPUT: true; the input reads as it did. -/
def txlogCutSpec : ChangeSpec := { name := "txlogCut", fn := fun _ => fun
  | [d1, d2, d3] => { results := [.lit (.bool true)], args := [d1, d2, d3] }
  | _ => none }
def txlogCutRow : OpenClaim := { program := "ytocpeiocgppkfaa", sum := "c02db9e407c0859cbd149c5dcaf332c4252464e034be5ec3cf26c7a819022a03", func := "pilaster/pilasterlaw26.TxlogCut", spec := "txlogCut", apart := false }
def TxlogCutSaid : Prop := txlogCutRow.holds Try.pinned (OpenSpec.ofChange txlogCutSpec)

/-- ITS FALSE NEIGHBOUR: 'it returns false'. Refute it at one input. -/
def txlogCutWrong : ChangeSpec := { name := "txlogCut", fn := fun _ => fun
  | [d1, d2, d3] => { results := [.lit (.bool false)], args := [d1, d2, d3] }
  | _ => none }
def TxlogCutWrongFalsely : Prop := txlogCutRow.holds Try.pinned (OpenSpec.ofChange txlogCutWrong)

/- THE SECOND FORM. 'bulk': how many values and letters a reading holds, each counted each time it is reached (what is shared counts as often as it is met; a slice's spare places count too). A statement '..UptoSaid' is the law's where the arguments, and the package variables that the reading takes, are together of bulk at most 1048576: NARROWER than '..Said'. Prove '..Said' where nothing that the law and all that it calls make is longer than what came in: it says more and counts as full. Else prove '..UptoSaid'. A law counts once. -/
mutual
def uptoBulk {H : Type} : DataW H → Nat
  | .lit (.string bytes) => bytes.length + 1
  | .lit _ => 1
  | .nil => 1
  | .ptr d => uptoBulk d + 1
  | .slice elems spare => uptoBulkAll elems + uptoBulkAll spare + 1
  | .agg parts => uptoBulkAll parts + 1
  | .iface _ d => uptoBulk d + 1
  | .map entries => uptoBulkEntries entries + 1
  | .held _ => 1
def uptoBulkAll {H : Type} : List (DataW H) → Nat
  | [] => 0
  | d :: r => uptoBulk d + uptoBulkAll r
def uptoBulkEntries {H : Type} : List (Lit × DataW H) → Nat
  | [] => 0
  | x :: r => uptoBulkEntry x + uptoBulkEntries r
def uptoBulkEntry {H : Type} : Lit × DataW H → Nat
  | (.string bytes, d) => bytes.length + uptoBulk d + 1
  | (_, d) => uptoBulk d + 1
 end
def uptoSmall : (H : Type) → List (DataW H) → Bool := fun _ ds => decide (uptoBulkAll ds ≤ 1048576)
def OpenSpec.upto (s : _root_.Go.ChangeSpec) : _root_.Go.OpenSpec := { _root_.Go.OpenSpec.ofChange s with cond := some uptoSmall }

/-- 'pilasterlaw26.TxlogStates', WHERE WHAT IT READS IS OF BULK AT MOST 1048576: true; the input reads as it did. -/
def txlogStatesUptoRow : OpenClaim := { program := "ytocpeiocgppkfaa", sum := "c02db9e407c0859cbd149c5dcaf332c4252464e034be5ec3cf26c7a819022a03", func := "pilaster/pilasterlaw26.TxlogStates", spec := "txlogStates", apart := false, narrowed := true }
def TxlogStatesUptoSaid : Prop := txlogStatesUptoRow.holds Try.pinned (OpenSpec.upto txlogStatesSpec)

/-- 'pilasterlaw26.TxlogStays', WHERE WHAT IT READS IS OF BULK AT MOST 1048576: true; the input reads as it did. -/
def txlogStaysUptoRow : OpenClaim := { program := "ytocpeiocgppkfaa", sum := "c02db9e407c0859cbd149c5dcaf332c4252464e034be5ec3cf26c7a819022a03", func := "pilaster/pilasterlaw26.TxlogStays", spec := "txlogStays", apart := false, narrowed := true }
def TxlogStaysUptoSaid : Prop := txlogStaysUptoRow.holds Try.pinned (OpenSpec.upto txlogStaysSpec)

/-- 'pilasterlaw26.TxlogBytes', WHERE WHAT IT READS IS OF BULK AT MOST 1048576: true; the input reads as it did. -/
def txlogBytesUptoRow : OpenClaim := { program := "ytocpeiocgppkfaa", sum := "c02db9e407c0859cbd149c5dcaf332c4252464e034be5ec3cf26c7a819022a03", func := "pilaster/pilasterlaw26.TxlogBytes", spec := "txlogBytes", apart := false, narrowed := true }
def TxlogBytesUptoSaid : Prop := txlogBytesUptoRow.holds Try.pinned (OpenSpec.upto txlogBytesSpec)

/-- 'pilasterlaw26.TxlogCut', WHERE WHAT IT READS IS OF BULK AT MOST 1048576: true; the input reads as it did. -/
def txlogCutUptoRow : OpenClaim := { program := "ytocpeiocgppkfaa", sum := "c02db9e407c0859cbd149c5dcaf332c4252464e034be5ec3cf26c7a819022a03", func := "pilaster/pilasterlaw26.TxlogCut", spec := "txlogCut", apart := false, narrowed := true }
def TxlogCutUptoSaid : Prop := txlogCutUptoRow.holds Try.pinned (OpenSpec.upto txlogCutSpec)

end Rows
end Go.Proofs.Ytocpeiocgppkfaa
