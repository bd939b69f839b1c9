/-
  No cell of these rows narrows 'for every input' (looked for: loops, veiled, ifaces, maps, wideKeys, modest, calm, conditions, laid).
  DERIVED. THE GIVEN ROWS OF THIS SEAT. 6 by the template 'for every input the law returns true; each argument reads behind the call as it read before'; 0 by the template 'total and deterministic' (their statements: YtccficljaomhhaaTotals.lean).
  GIVEN WITH THE SEED: the statements are not yours to turn. If you find one false, say at which input.
  Laid BY PROGRAM, IN A SANDBOX (cutbox-rows.mjs): the forced cells as the released guide's own fill.sh prints them over the translation 15a1cd73dc83afd8… (all of the seat's roots in one cut). By AI agents, Wed Nov 11 2026. No macro, syntax, notation, axiom, sorry.
-/
import Derived.Test.YtccficljaomhhaaChecked
import GoSem.Claim
import GoSem.ClaimJoined
import GoSem.ClaimMapViews
import Derived.JoinedTies
import Derived.KernelRfl
namespace Go.Proofs.Ytccficljaomhhaa
/- THE CELL 'sum', in the pinned program and in every row, IS THE sha256 OF THE DUMP (.gsa) THAT YtccficljaomhhaaProg.lean LOADS. Nothing in Lean hashes anything: it is a label: what it is worth is what the hold of that sum in a sandbox is worth. -/
noncomputable def Try.pinned : Pinned := { name := "ytccficljaomhhaa", sum := "15a1cd73dc83afd8028c4d2e6ef63afc45cdae00d8229bb3656f959430e413ab", checked := Try.checked }
namespace Rows
def none {H : Type} : Left H := { results := [], args := [] }

/-- 'psephoslaw04.WireBytes': WHATEVER THE INPUT: true; the input reads as it did. -/
def wireBytesSpec : ChangeSpec := { name := "wireBytes", fn := fun _ => fun
  | [d] => { results := [.lit (.bool true)], args := [d] }
  | _ => none }
def wireBytesRow : OpenClaim := { program := "ytccficljaomhhaa", sum := "15a1cd73dc83afd8028c4d2e6ef63afc45cdae00d8229bb3656f959430e413ab", func := "psephos/psephoslaw04.WireBytes", spec := "wireBytes", apart := false }
def WireBytesSaid : Prop := wireBytesRow.holds Try.pinned (OpenSpec.ofChange wireBytesSpec)

/-- ITS FALSE NEIGHBOUR: 'it returns false'. Refute it at one input. -/
def wireBytesWrong : ChangeSpec := { name := "wireBytes", fn := fun _ => fun
  | [d] => { results := [.lit (.bool false)], args := [d] }
  | _ => none }
def WireBytesWrongFalsely : Prop := wireBytesRow.holds Try.pinned (OpenSpec.ofChange wireBytesWrong)

/-- 'psephoslaw04.WireTwo': WHATEVER THE INPUT: true; the input reads as it did. -/
def wireTwoSpec : ChangeSpec := { name := "wireTwo", fn := fun _ => fun
  | [d1, d2] => { results := [.lit (.bool true)], args := [d1, d2] }
  | _ => none }
def wireTwoRow : OpenClaim := { program := "ytccficljaomhhaa", sum := "15a1cd73dc83afd8028c4d2e6ef63afc45cdae00d8229bb3656f959430e413ab", func := "psephos/psephoslaw04.WireTwo", spec := "wireTwo", apart := false }
def WireTwoSaid : Prop := wireTwoRow.holds Try.pinned (OpenSpec.ofChange wireTwoSpec)

/-- ITS FALSE NEIGHBOUR: 'it returns false'. Refute it at one input. -/
def wireTwoWrong : ChangeSpec := { name := "wireTwo", fn := fun _ => fun
  | [d1, d2] => { results := [.lit (.bool false)], args := [d1, d2] }
  | _ => none }
def WireTwoWrongFalsely : Prop := wireTwoRow.holds Try.pinned (OpenSpec.ofChange wireTwoWrong)

/-- 'psephoslaw04.WireBare': WHATEVER THE INPUT: true; the input reads as it did. -/
def wireBareSpec : ChangeSpec := { name := "wireBare", fn := fun _ => fun
  | [d] => { results := [.lit (.bool true)], args := [d] }
  | _ => none }
def wireBareRow : OpenClaim := { program := "ytccficljaomhhaa", sum := "15a1cd73dc83afd8028c4d2e6ef63afc45cdae00d8229bb3656f959430e413ab", func := "psephos/psephoslaw04.WireBare", spec := "wireBare", apart := false }
def WireBareSaid : Prop := wireBareRow.holds Try.pinned (OpenSpec.ofChange wireBareSpec)

/-- ITS FALSE NEIGHBOUR: 'it returns false'. Refute it at one input. -/
def wireBareWrong : ChangeSpec := { name := "wireBare", fn := fun _ => fun
  | [d] => { results := [.lit (.bool false)], args := [d] }
  | _ => none }
def WireBareWrongFalsely : Prop := wireBareRow.holds Try.pinned (OpenSpec.ofChange wireBareWrong)

/-- 'psephoslaw04.WireTicks': WHATEVER THE INPUT: true; the input reads as it did. -/
def wireTicksSpec : ChangeSpec := { name := "wireTicks", fn := fun _ => fun
  | [d] => { results := [.lit (.bool true)], args := [d] }
  | _ => none }
def wireTicksRow : OpenClaim := { program := "ytccficljaomhhaa", sum := "15a1cd73dc83afd8028c4d2e6ef63afc45cdae00d8229bb3656f959430e413ab", func := "psephos/psephoslaw04.WireTicks", spec := "wireTicks", apart := false }
def WireTicksSaid : Prop := wireTicksRow.holds Try.pinned (OpenSpec.ofChange wireTicksSpec)

/-- ITS FALSE NEIGHBOUR: 'it returns false'. Refute it at one input. -/
def wireTicksWrong : ChangeSpec := { name := "wireTicks", fn := fun _ => fun
  | [d] => { results := [.lit (.bool false)], args := [d] }
  | _ => none }
def WireTicksWrongFalsely : Prop := wireTicksRow.holds Try.pinned (OpenSpec.ofChange wireTicksWrong)

/-- 'psephoslaw04.WireBack': WHATEVER THE INPUT: true; the input reads as it did. -/
def wireBackSpec : ChangeSpec := { name := "wireBack", fn := fun _ => fun
  | [d] => { results := [.lit (.bool true)], args := [d] }
  | _ => none }
def wireBackRow : OpenClaim := { program := "ytccficljaomhhaa", sum := "15a1cd73dc83afd8028c4d2e6ef63afc45cdae00d8229bb3656f959430e413ab", func := "psephos/psephoslaw04.WireBack", spec := "wireBack", apart := false }
def WireBackSaid : Prop := wireBackRow.holds Try.pinned (OpenSpec.ofChange wireBackSpec)

/-- ITS FALSE NEIGHBOUR: 'it returns false'. Refute it at one input. -/
def wireBackWrong : ChangeSpec := { name := "wireBack", fn := fun _ => fun
  | [d] => { results := [.lit (.bool false)], args := [d] }
  | _ => none }
def WireBackWrongFalsely : Prop := wireBackRow.holds Try.pinned (OpenSpec.ofChange wireBackWrong)

/-- 'psephoslaw20.CanonDiffer': WHATEVER THE INPUT: true; the input reads as it did. -/
def canonDifferSpec : ChangeSpec := { name := "canonDiffer", fn := fun _ => fun
  | [d1, d2, d3, d4] => { results := [.lit (.bool true)], args := [d1, d2, d3, d4] }
  | _ => none }
def canonDifferRow : OpenClaim := { program := "ytccficljaomhhaa", sum := "15a1cd73dc83afd8028c4d2e6ef63afc45cdae00d8229bb3656f959430e413ab", func := "psephos/psephoslaw20.CanonDiffer", spec := "canonDiffer", unfollowed := true, recurses := true, apart := false }
def CanonDifferSaid : Prop := canonDifferRow.holds Try.pinned (OpenSpec.ofChange canonDifferSpec)

/-- ITS FALSE NEIGHBOUR: 'it returns false'. Refute it at one input. -/
def canonDifferWrong : ChangeSpec := { name := "canonDiffer", fn := fun _ => fun
  | [d1, d2, d3, d4] => { results := [.lit (.bool false)], args := [d1, d2, d3, d4] }
  | _ => none }
def CanonDifferWrongFalsely : Prop := canonDifferRow.holds Try.pinned (OpenSpec.ofChange canonDifferWrong)

/- THE SECOND FORM. 'bulk': how many values and letters a reading holds, each counted each time it is reached (what is shared counts as often as it is met; a slice's spare places count too). A statement '..UptoSaid' is the law's where the arguments, and the package variables that the reading takes, are together of bulk at most 1048576: NARROWER than '..Said'. Prove '..Said' where nothing that the law and all that it calls make is longer than what came in: it says more and counts as full. Else prove '..UptoSaid'. A law counts once. -/
mutual
def uptoBulk {H : Type} : DataW H → Nat
  | .lit (.string bytes) => bytes.length + 1
  | .lit _ => 1
  | .nil => 1
  | .ptr d => uptoBulk d + 1
  | .slice elems spare => uptoBulkAll elems + uptoBulkAll spare + 1
  | .agg parts => uptoBulkAll parts + 1
  | .iface _ d => uptoBulk d + 1
  | .map entries => uptoBulkEntries entries + 1
  | .held _ => 1
def uptoBulkAll {H : Type} : List (DataW H) → Nat
  | [] => 0
  | d :: r => uptoBulk d + uptoBulkAll r
def uptoBulkEntries {H : Type} : List (Lit × DataW H) → Nat
  | [] => 0
  | x :: r => uptoBulkEntry x + uptoBulkEntries r
def uptoBulkEntry {H : Type} : Lit × DataW H → Nat
  | (.string bytes, d) => bytes.length + uptoBulk d + 1
  | (_, d) => uptoBulk d + 1
 end
def uptoSmall : (H : Type) → List (DataW H) → Bool := fun _ ds => decide (uptoBulkAll ds ≤ 1048576)
def OpenSpec.upto (s : _root_.Go.ChangeSpec) : _root_.Go.OpenSpec := { _root_.Go.OpenSpec.ofChange s with cond := some uptoSmall }

/-- 'psephoslaw04.WireBytes', WHERE WHAT IT READS IS OF BULK AT MOST 1048576: true; the input reads as it did. -/
def wireBytesUptoRow : OpenClaim := { program := "ytccficljaomhhaa", sum := "15a1cd73dc83afd8028c4d2e6ef63afc45cdae00d8229bb3656f959430e413ab", func := "psephos/psephoslaw04.WireBytes", spec := "wireBytes", apart := false, narrowed := true }
def WireBytesUptoSaid : Prop := wireBytesUptoRow.holds Try.pinned (OpenSpec.upto wireBytesSpec)

/-- 'psephoslaw04.WireTwo', WHERE WHAT IT READS IS OF BULK AT MOST 1048576: true; the input reads as it did. -/
def wireTwoUptoRow : OpenClaim := { program := "ytccficljaomhhaa", sum := "15a1cd73dc83afd8028c4d2e6ef63afc45cdae00d8229bb3656f959430e413ab", func := "psephos/psephoslaw04.WireTwo", spec := "wireTwo", apart := false, narrowed := true }
def WireTwoUptoSaid : Prop := wireTwoUptoRow.holds Try.pinned (OpenSpec.upto wireTwoSpec)

/-- 'psephoslaw04.WireBare', WHERE WHAT IT READS IS OF BULK AT MOST 1048576: true; the input reads as it did. -/
def wireBareUptoRow : OpenClaim := { program := "ytccficljaomhhaa", sum := "15a1cd73dc83afd8028c4d2e6ef63afc45cdae00d8229bb3656f959430e413ab", func := "psephos/psephoslaw04.WireBare", spec := "wireBare", apart := false, narrowed := true }
def WireBareUptoSaid : Prop := wireBareUptoRow.holds Try.pinned (OpenSpec.upto wireBareSpec)

/-- 'psephoslaw04.WireTicks', WHERE WHAT IT READS IS OF BULK AT MOST 1048576: true; the input reads as it did. -/
def wireTicksUptoRow : OpenClaim := { program := "ytccficljaomhhaa", sum := "15a1cd73dc83afd8028c4d2e6ef63afc45cdae00d8229bb3656f959430e413ab", func := "psephos/psephoslaw04.WireTicks", spec := "wireTicks", apart := false, narrowed := true }
def WireTicksUptoSaid : Prop := wireTicksUptoRow.holds Try.pinned (OpenSpec.upto wireTicksSpec)

/-- 'psephoslaw04.WireBack', WHERE WHAT IT READS IS OF BULK AT MOST 1048576: true; the input reads as it did. -/
def wireBackUptoRow : OpenClaim := { program := "ytccficljaomhhaa", sum := "15a1cd73dc83afd8028c4d2e6ef63afc45cdae00d8229bb3656f959430e413ab", func := "psephos/psephoslaw04.WireBack", spec := "wireBack", apart := false, narrowed := true }
def WireBackUptoSaid : Prop := wireBackUptoRow.holds Try.pinned (OpenSpec.upto wireBackSpec)

/-- 'psephoslaw20.CanonDiffer', WHERE WHAT IT READS IS OF BULK AT MOST 1048576: true; the input reads as it did. -/
def canonDifferUptoRow : OpenClaim := { program := "ytccficljaomhhaa", sum := "15a1cd73dc83afd8028c4d2e6ef63afc45cdae00d8229bb3656f959430e413ab", func := "psephos/psephoslaw20.CanonDiffer", spec := "canonDiffer", unfollowed := true, recurses := true, apart := false, narrowed := true }
def CanonDifferUptoSaid : Prop := canonDifferUptoRow.holds Try.pinned (OpenSpec.upto canonDifferSpec)

end Rows
end Go.Proofs.Ytccficljaomhhaa
