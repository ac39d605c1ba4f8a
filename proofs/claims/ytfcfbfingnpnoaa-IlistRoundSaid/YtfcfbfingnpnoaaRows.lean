/-
  No cell of these rows narrows 'for every input' (looked for: loops, veiled, ifaces, maps, wideKeys, modest, calm, conditions, laid).
  DERIVED. THE GIVEN ROWS OF THIS SEAT. 4 by the template 'for every input the law returns true; each argument reads behind the call as it read before'; 0 by the template 'total and deterministic' (their statements: YtfcfbfingnpnoaaTotals.lean).
  GIVEN WITH THE SEED: the statements are not yours to turn. If you find one false, say at which input.
  Laid BY PROGRAM, IN A SANDBOX (cutbox-rows.mjs): the forced cells as the released guide's own fill.sh prints them over the translation 34c911f9f20cf6ea… (all of the seat's roots in one cut). By AI agents, Wed Nov 11 2026. No macro, syntax, notation, axiom, sorry.
-/
import Derived.Test.YtfcfbfingnpnoaaChecked
import GoSem.Claim
import GoSem.ClaimJoined
import GoSem.ClaimMapViews
import Derived.JoinedTies
import Derived.KernelRfl
namespace Go.Proofs.Ytfcfbfingnpnoaa
/- THE CELL 'sum', in the pinned program and in every row, IS THE sha256 OF THE DUMP (.gsa) THAT YtfcfbfingnpnoaaProg.lean LOADS. Nothing in Lean hashes anything: it is a label: what it is worth is what the hold of that sum in a sandbox is worth. -/
noncomputable def Try.pinned : Pinned := { name := "ytfcfbfingnpnoaa", sum := "34c911f9f20cf6ea885ca73bb6f8db06113e25de9ced20a9896fd2637d5fe60b", checked := Try.checked }
namespace Rows
def none {H : Type} : Left H := { results := [], args := [] }

/-- 'hopperlaw04.IlistNew': WHATEVER THE INPUT: true; the input reads as it did. -/
def ilistNewSpec : ChangeSpec := { name := "ilistNew", fn := fun _ => fun
  | [d1, d2, d3] => { results := [.lit (.bool true)], args := [d1, d2, d3] }
  | _ => none }
def ilistNewRow : OpenClaim := { program := "ytfcfbfingnpnoaa", sum := "34c911f9f20cf6ea885ca73bb6f8db06113e25de9ced20a9896fd2637d5fe60b", func := "hopper/hopperlaw04.IlistNew", spec := "ilistNew", unfollowed := true, recurses := true, apart := false }
def IlistNewSaid : Prop := ilistNewRow.holds Try.pinned (OpenSpec.ofChange ilistNewSpec)

/-- ITS FALSE NEIGHBOUR: 'it returns false'. Refute it at one input. -/
def ilistNewWrong : ChangeSpec := { name := "ilistNew", fn := fun _ => fun
  | [d1, d2, d3] => { results := [.lit (.bool false)], args := [d1, d2, d3] }
  | _ => none }
def IlistNewWrongFalsely : Prop := ilistNewRow.holds Try.pinned (OpenSpec.ofChange ilistNewWrong)

/-- 'hopperlaw04.IlistNobody': WHATEVER THE INPUT: true; the input reads as it did. -/
def ilistNobodySpec : ChangeSpec := { name := "ilistNobody", fn := fun _ => fun
  | [d1, d2] => { results := [.lit (.bool true)], args := [d1, d2] }
  | _ => none }
def ilistNobodyRow : OpenClaim := { program := "ytfcfbfingnpnoaa", sum := "34c911f9f20cf6ea885ca73bb6f8db06113e25de9ced20a9896fd2637d5fe60b", func := "hopper/hopperlaw04.IlistNobody", spec := "ilistNobody", unfollowed := true, recurses := true, apart := false }
def IlistNobodySaid : Prop := ilistNobodyRow.holds Try.pinned (OpenSpec.ofChange ilistNobodySpec)

/-- ITS FALSE NEIGHBOUR: 'it returns false'. Refute it at one input. -/
def ilistNobodyWrong : ChangeSpec := { name := "ilistNobody", fn := fun _ => fun
  | [d1, d2] => { results := [.lit (.bool false)], args := [d1, d2] }
  | _ => none }
def IlistNobodyWrongFalsely : Prop := ilistNobodyRow.holds Try.pinned (OpenSpec.ofChange ilistNobodyWrong)

/-- 'hopperlaw04.IlistActs': WHATEVER THE INPUT: true; the input reads as it did. -/
def ilistActsSpec : ChangeSpec := { name := "ilistActs", fn := fun _ => fun
  | [d1, d2] => { results := [.lit (.bool true)], args := [d1, d2] }
  | _ => none }
def ilistActsRow : OpenClaim := { program := "ytfcfbfingnpnoaa", sum := "34c911f9f20cf6ea885ca73bb6f8db06113e25de9ced20a9896fd2637d5fe60b", func := "hopper/hopperlaw04.IlistActs", spec := "ilistActs", unfollowed := true, recurses := true, apart := false }
def IlistActsSaid : Prop := ilistActsRow.holds Try.pinned (OpenSpec.ofChange ilistActsSpec)

/-- ITS FALSE NEIGHBOUR: 'it returns false'. Refute it at one input. -/
def ilistActsWrong : ChangeSpec := { name := "ilistActs", fn := fun _ => fun
  | [d1, d2] => { results := [.lit (.bool false)], args := [d1, d2] }
  | _ => none }
def IlistActsWrongFalsely : Prop := ilistActsRow.holds Try.pinned (OpenSpec.ofChange ilistActsWrong)

/-- 'hopperlaw04.IlistRound': WHATEVER THE INPUT: true; the input reads as it did. -/
def ilistRoundSpec : ChangeSpec := { name := "ilistRound", fn := fun _ => fun
  | [d1, d2] => { results := [.lit (.bool true)], args := [d1, d2] }
  | _ => none }
def ilistRoundRow : OpenClaim := { program := "ytfcfbfingnpnoaa", sum := "34c911f9f20cf6ea885ca73bb6f8db06113e25de9ced20a9896fd2637d5fe60b", func := "hopper/hopperlaw04.IlistRound", spec := "ilistRound", unfollowed := true, recurses := true, apart := false }
def IlistRoundSaid : Prop := ilistRoundRow.holds Try.pinned (OpenSpec.ofChange ilistRoundSpec)

/-- ITS FALSE NEIGHBOUR: 'it returns false'. Refute it at one input. -/
def ilistRoundWrong : ChangeSpec := { name := "ilistRound", fn := fun _ => fun
  | [d1, d2] => { results := [.lit (.bool false)], args := [d1, d2] }
  | _ => none }
def IlistRoundWrongFalsely : Prop := ilistRoundRow.holds Try.pinned (OpenSpec.ofChange ilistRoundWrong)

/- THE SECOND FORM. 'bulk': how many values and letters a reading holds, each counted each time it is reached (what is shared counts as often as it is met; a slice's spare places count too). A statement '..UptoSaid' is the law's where the arguments, and the package variables that the reading takes, are together of bulk at most 1048576: NARROWER than '..Said'. Prove '..Said' where nothing that the law and all that it calls make is longer than what came in: it says more and counts as full. Else prove '..UptoSaid'. A law counts once. -/
mutual
def uptoBulk {H : Type} : DataW H → Nat
  | .lit (.string bytes) => bytes.length + 1
  | .lit _ => 1
  | .nil => 1
  | .ptr d => uptoBulk d + 1
  | .slice elems spare => uptoBulkAll elems + uptoBulkAll spare + 1
  | .agg parts => uptoBulkAll parts + 1
  | .iface _ d => uptoBulk d + 1
  | .map entries => uptoBulkEntries entries + 1
  | .held _ => 1
def uptoBulkAll {H : Type} : List (DataW H) → Nat
  | [] => 0
  | d :: r => uptoBulk d + uptoBulkAll r
def uptoBulkEntries {H : Type} : List (Lit × DataW H) → Nat
  | [] => 0
  | x :: r => uptoBulkEntry x + uptoBulkEntries r
def uptoBulkEntry {H : Type} : Lit × DataW H → Nat
  | (.string bytes, d) => bytes.length + uptoBulk d + 1
  | (_, d) => uptoBulk d + 1
 end
def uptoSmall : (H : Type) → List (DataW H) → Bool := fun _ ds => decide (uptoBulkAll ds ≤ 1048576)
def OpenSpec.upto (s : _root_.Go.ChangeSpec) : _root_.Go.OpenSpec := { _root_.Go.OpenSpec.ofChange s with cond := some uptoSmall }

/-- 'hopperlaw04.IlistNew', WHERE WHAT IT READS IS OF BULK AT MOST 1048576: true; the input reads as it did. -/
def ilistNewUptoRow : OpenClaim := { program := "ytfcfbfingnpnoaa", sum := "34c911f9f20cf6ea885ca73bb6f8db06113e25de9ced20a9896fd2637d5fe60b", func := "hopper/hopperlaw04.IlistNew", spec := "ilistNew", unfollowed := true, recurses := true, apart := false, narrowed := true }
def IlistNewUptoSaid : Prop := ilistNewUptoRow.holds Try.pinned (OpenSpec.upto ilistNewSpec)

/-- 'hopperlaw04.IlistNobody', WHERE WHAT IT READS IS OF BULK AT MOST 1048576: true; the input reads as it did. -/
def ilistNobodyUptoRow : OpenClaim := { program := "ytfcfbfingnpnoaa", sum := "34c911f9f20cf6ea885ca73bb6f8db06113e25de9ced20a9896fd2637d5fe60b", func := "hopper/hopperlaw04.IlistNobody", spec := "ilistNobody", unfollowed := true, recurses := true, apart := false, narrowed := true }
def IlistNobodyUptoSaid : Prop := ilistNobodyUptoRow.holds Try.pinned (OpenSpec.upto ilistNobodySpec)

/-- 'hopperlaw04.IlistActs', WHERE WHAT IT READS IS OF BULK AT MOST 1048576: true; the input reads as it did. -/
def ilistActsUptoRow : OpenClaim := { program := "ytfcfbfingnpnoaa", sum := "34c911f9f20cf6ea885ca73bb6f8db06113e25de9ced20a9896fd2637d5fe60b", func := "hopper/hopperlaw04.IlistActs", spec := "ilistActs", unfollowed := true, recurses := true, apart := false, narrowed := true }
def IlistActsUptoSaid : Prop := ilistActsUptoRow.holds Try.pinned (OpenSpec.upto ilistActsSpec)

/-- 'hopperlaw04.IlistRound', WHERE WHAT IT READS IS OF BULK AT MOST 1048576: true; the input reads as it did. -/
def ilistRoundUptoRow : OpenClaim := { program := "ytfcfbfingnpnoaa", sum := "34c911f9f20cf6ea885ca73bb6f8db06113e25de9ced20a9896fd2637d5fe60b", func := "hopper/hopperlaw04.IlistRound", spec := "ilistRound", unfollowed := true, recurses := true, apart := false, narrowed := true }
def IlistRoundUptoSaid : Prop := ilistRoundUptoRow.holds Try.pinned (OpenSpec.upto ilistRoundSpec)

end Rows
end Go.Proofs.Ytfcfbfingnpnoaa
