/-
  No cell of these rows narrows 'for every input' (looked for: loops, veiled, ifaces, maps, wideKeys, modest, calm, conditions, laid).
  DERIVED. THE GIVEN ROWS OF THIS SEAT. 7 by the template 'for every input the law returns true; each argument reads behind the call as it read before'; 0 by the template 'total and deterministic' (their statements: YtnppimhlfcjghaaGreatTotals.lean).
  GIVEN WITH THE SEED: the statements are not yours to turn. If you find one false, say at which input.
  Laid BY PROGRAM, IN A SANDBOX (cutbox-rows.mjs): the forced cells as the released guide's own fill.sh prints them over the translation ce098dd57cb77d37… (all of the seat's roots in one cut). By AI agents, Wed Nov 11 2026. No macro, syntax, notation, axiom, sorry.
-/
import Derived.Test.YtnppimhlfcjghaaGreatChecked
import GoSem.Claim
import GoSem.ClaimJoined
import GoSem.ClaimMapViews
import Derived.JoinedTies
import Derived.KernelRfl
namespace Go.Proofs.YtnppimhlfcjghaaGreat
/- THE CELL 'sum', in the pinned program and in every row, IS THE sha256 OF THE DUMP (.gsa) THAT YtnppimhlfcjghaaGreatProg.lean LOADS. Nothing in Lean hashes anything: it is a label: what it is worth is what the hold of that sum in a sandbox is worth. -/
noncomputable def Tryz.pinned : Pinned := { name := "ytnppimhlfcjghaagreat", sum := "ce098dd57cb77d37ccef348a4e5f26dd90fd27d3e8bc32beb4898438acb8fb3d", checked := Tryz.checked }
namespace Rows
def none {H : Type} : Left H := { results := [], args := [] }

/-- 'psephoslaw20.CanonOf': WHATEVER THE INPUT: true; the input reads as it did. -/
def canonOfSpec : ChangeSpec := { name := "canonOf", fn := fun _ => fun
  | [d1, d2, d3, d4] => { results := [.lit (.bool true)], args := [d1, d2, d3, d4] }
  | _ => none }
def canonOfRow : OpenClaim := { program := "ytnppimhlfcjghaagreat", sum := "ce098dd57cb77d37ccef348a4e5f26dd90fd27d3e8bc32beb4898438acb8fb3d", func := "psephos/psephoslaw20.CanonOf", spec := "canonOf", unfollowed := true, recurses := true, apart := false }
def CanonOfSaid : Prop := canonOfRow.holds Tryz.pinned (OpenSpec.ofChange canonOfSpec)

/-- ITS FALSE NEIGHBOUR: 'it returns false'. Refute it at one input. -/
def canonOfWrong : ChangeSpec := { name := "canonOf", fn := fun _ => fun
  | [d1, d2, d3, d4] => { results := [.lit (.bool false)], args := [d1, d2, d3, d4] }
  | _ => none }
def CanonOfWrongFalsely : Prop := canonOfRow.holds Tryz.pinned (OpenSpec.ofChange canonOfWrong)

/-- 'psephoslaw20.CanonTwo': WHATEVER THE INPUT: true; the input reads as it did. -/
def canonTwoSpec : ChangeSpec := { name := "canonTwo", fn := fun _ => fun
  | [d1, d2, d3, d4] => { results := [.lit (.bool true)], args := [d1, d2, d3, d4] }
  | _ => none }
def canonTwoRow : OpenClaim := { program := "ytnppimhlfcjghaagreat", sum := "ce098dd57cb77d37ccef348a4e5f26dd90fd27d3e8bc32beb4898438acb8fb3d", func := "psephos/psephoslaw20.CanonTwo", spec := "canonTwo", unfollowed := true, recurses := true, apart := false }
def CanonTwoSaid : Prop := canonTwoRow.holds Tryz.pinned (OpenSpec.ofChange canonTwoSpec)

/-- ITS FALSE NEIGHBOUR: 'it returns false'. Refute it at one input. -/
def canonTwoWrong : ChangeSpec := { name := "canonTwo", fn := fun _ => fun
  | [d1, d2, d3, d4] => { results := [.lit (.bool false)], args := [d1, d2, d3, d4] }
  | _ => none }
def CanonTwoWrongFalsely : Prop := canonTwoRow.holds Tryz.pinned (OpenSpec.ofChange canonTwoWrong)

/-- 'psephoslaw20.CanonHead': WHATEVER THE INPUT: true; the input reads as it did. -/
def canonHeadSpec : ChangeSpec := { name := "canonHead", fn := fun _ => fun
  | [d1, d2, d3, d4, d5] => { results := [.lit (.bool true)], args := [d1, d2, d3, d4, d5] }
  | _ => none }
def canonHeadRow : OpenClaim := { program := "ytnppimhlfcjghaagreat", sum := "ce098dd57cb77d37ccef348a4e5f26dd90fd27d3e8bc32beb4898438acb8fb3d", func := "psephos/psephoslaw20.CanonHead", spec := "canonHead", unfollowed := true, recurses := true, apart := false }
def CanonHeadSaid : Prop := canonHeadRow.holds Tryz.pinned (OpenSpec.ofChange canonHeadSpec)

/-- ITS FALSE NEIGHBOUR: 'it returns false'. Refute it at one input. -/
def canonHeadWrong : ChangeSpec := { name := "canonHead", fn := fun _ => fun
  | [d1, d2, d3, d4, d5] => { results := [.lit (.bool false)], args := [d1, d2, d3, d4, d5] }
  | _ => none }
def CanonHeadWrongFalsely : Prop := canonHeadRow.holds Tryz.pinned (OpenSpec.ofChange canonHeadWrong)

/-- 'psephoslaw20.CanonLong': WHATEVER THE INPUT: true; the input reads as it did. -/
def canonLongSpec : ChangeSpec := { name := "canonLong", fn := fun _ => fun
  | [d1, d2, d3] => { results := [.lit (.bool true)], args := [d1, d2, d3] }
  | _ => none }
def canonLongRow : OpenClaim := { program := "ytnppimhlfcjghaagreat", sum := "ce098dd57cb77d37ccef348a4e5f26dd90fd27d3e8bc32beb4898438acb8fb3d", func := "psephos/psephoslaw20.CanonLong", spec := "canonLong", unfollowed := true, recurses := true, apart := false }
def CanonLongSaid : Prop := canonLongRow.holds Tryz.pinned (OpenSpec.ofChange canonLongSpec)

/-- ITS FALSE NEIGHBOUR: 'it returns false'. Refute it at one input. -/
def canonLongWrong : ChangeSpec := { name := "canonLong", fn := fun _ => fun
  | [d1, d2, d3] => { results := [.lit (.bool false)], args := [d1, d2, d3] }
  | _ => none }
def CanonLongWrongFalsely : Prop := canonLongRow.holds Tryz.pinned (OpenSpec.ofChange canonLongWrong)

/-- 'psephoslaw15.SpecUp': WHATEVER THE INPUT: true; the input reads as it did. -/
def specUpSpec : ChangeSpec := { name := "specUp", fn := fun _ => fun
  | [d1, d2, d3] => { results := [.lit (.bool true)], args := [d1, d2, d3] }
  | _ => none }
def specUpRow : OpenClaim := { program := "ytnppimhlfcjghaagreat", sum := "ce098dd57cb77d37ccef348a4e5f26dd90fd27d3e8bc32beb4898438acb8fb3d", func := "psephos/psephoslaw15.SpecUp", spec := "specUp", unfollowed := true, recurses := true, apart := false }
def SpecUpSaid : Prop := specUpRow.holds Tryz.pinned (OpenSpec.ofChange specUpSpec)

/-- ITS FALSE NEIGHBOUR: 'it returns false'. Refute it at one input. -/
def specUpWrong : ChangeSpec := { name := "specUp", fn := fun _ => fun
  | [d1, d2, d3] => { results := [.lit (.bool false)], args := [d1, d2, d3] }
  | _ => none }
def SpecUpWrongFalsely : Prop := specUpRow.holds Tryz.pinned (OpenSpec.ofChange specUpWrong)

/-- 'psephoslaw15.SpecTies': WHATEVER THE INPUT: true; the input reads as it did. -/
def specTiesSpec : ChangeSpec := { name := "specTies", fn := fun _ => fun
  | [d1, d2, d3] => { results := [.lit (.bool true)], args := [d1, d2, d3] }
  | _ => none }
def specTiesRow : OpenClaim := { program := "ytnppimhlfcjghaagreat", sum := "ce098dd57cb77d37ccef348a4e5f26dd90fd27d3e8bc32beb4898438acb8fb3d", func := "psephos/psephoslaw15.SpecTies", spec := "specTies", unfollowed := true, recurses := true, apart := false }
def SpecTiesSaid : Prop := specTiesRow.holds Tryz.pinned (OpenSpec.ofChange specTiesSpec)

/-- ITS FALSE NEIGHBOUR: 'it returns false'. Refute it at one input. -/
def specTiesWrong : ChangeSpec := { name := "specTies", fn := fun _ => fun
  | [d1, d2, d3] => { results := [.lit (.bool false)], args := [d1, d2, d3] }
  | _ => none }
def SpecTiesWrongFalsely : Prop := specTiesRow.holds Tryz.pinned (OpenSpec.ofChange specTiesWrong)

/-- 'psephoslaw15.SpecLine': WHATEVER THE INPUT: true; the input reads as it did. -/
def specLineSpec : ChangeSpec := { name := "specLine", fn := fun _ => fun
  | [d1, d2, d3] => { results := [.lit (.bool true)], args := [d1, d2, d3] }
  | _ => none }
def specLineRow : OpenClaim := { program := "ytnppimhlfcjghaagreat", sum := "ce098dd57cb77d37ccef348a4e5f26dd90fd27d3e8bc32beb4898438acb8fb3d", func := "psephos/psephoslaw15.SpecLine", spec := "specLine", unfollowed := true, recurses := true, apart := false }
def SpecLineSaid : Prop := specLineRow.holds Tryz.pinned (OpenSpec.ofChange specLineSpec)

/-- ITS FALSE NEIGHBOUR: 'it returns false'. Refute it at one input. -/
def specLineWrong : ChangeSpec := { name := "specLine", fn := fun _ => fun
  | [d1, d2, d3] => { results := [.lit (.bool false)], args := [d1, d2, d3] }
  | _ => none }
def SpecLineWrongFalsely : Prop := specLineRow.holds Tryz.pinned (OpenSpec.ofChange specLineWrong)

/- THE SECOND FORM. 'bulk': how many values and letters a reading holds, each counted each time it is reached (what is shared counts as often as it is met; a slice's spare places count too). A statement '..UptoSaid' is the law's where the arguments, and the package variables that the reading takes, are together of bulk at most 1048576: NARROWER than '..Said'. Prove '..Said' where nothing that the law and all that it calls make is longer than what came in: it says more and counts as full. Else prove '..UptoSaid'. A law counts once. -/
mutual
def uptoBulk {H : Type} : DataW H → Nat
  | .lit (.string bytes) => bytes.length + 1
  | .lit _ => 1
  | .nil => 1
  | .ptr d => uptoBulk d + 1
  | .slice elems spare => uptoBulkAll elems + uptoBulkAll spare + 1
  | .agg parts => uptoBulkAll parts + 1
  | .iface _ d => uptoBulk d + 1
  | .map entries => uptoBulkEntries entries + 1
  | .held _ => 1
def uptoBulkAll {H : Type} : List (DataW H) → Nat
  | [] => 0
  | d :: r => uptoBulk d + uptoBulkAll r
def uptoBulkEntries {H : Type} : List (Lit × DataW H) → Nat
  | [] => 0
  | x :: r => uptoBulkEntry x + uptoBulkEntries r
def uptoBulkEntry {H : Type} : Lit × DataW H → Nat
  | (.string bytes, d) => bytes.length + uptoBulk d + 1
  | (_, d) => uptoBulk d + 1
 end
def uptoSmall : (H : Type) → List (DataW H) → Bool := fun _ ds => decide (uptoBulkAll ds ≤ 1048576)
def OpenSpec.upto (s : _root_.Go.ChangeSpec) : _root_.Go.OpenSpec := { _root_.Go.OpenSpec.ofChange s with cond := some uptoSmall }

/-- 'psephoslaw20.CanonOf', WHERE WHAT IT READS IS OF BULK AT MOST 1048576: true; the input reads as it did. -/
def canonOfUptoRow : OpenClaim := { program := "ytnppimhlfcjghaagreat", sum := "ce098dd57cb77d37ccef348a4e5f26dd90fd27d3e8bc32beb4898438acb8fb3d", func := "psephos/psephoslaw20.CanonOf", spec := "canonOf", unfollowed := true, recurses := true, apart := false, narrowed := true }
def CanonOfUptoSaid : Prop := canonOfUptoRow.holds Tryz.pinned (OpenSpec.upto canonOfSpec)

/-- 'psephoslaw20.CanonTwo', WHERE WHAT IT READS IS OF BULK AT MOST 1048576: true; the input reads as it did. -/
def canonTwoUptoRow : OpenClaim := { program := "ytnppimhlfcjghaagreat", sum := "ce098dd57cb77d37ccef348a4e5f26dd90fd27d3e8bc32beb4898438acb8fb3d", func := "psephos/psephoslaw20.CanonTwo", spec := "canonTwo", unfollowed := true, recurses := true, apart := false, narrowed := true }
def CanonTwoUptoSaid : Prop := canonTwoUptoRow.holds Tryz.pinned (OpenSpec.upto canonTwoSpec)

/-- 'psephoslaw20.CanonHead', WHERE WHAT IT READS IS OF BULK AT MOST 1048576: true; the input reads as it did. -/
def canonHeadUptoRow : OpenClaim := { program := "ytnppimhlfcjghaagreat", sum := "ce098dd57cb77d37ccef348a4e5f26dd90fd27d3e8bc32beb4898438acb8fb3d", func := "psephos/psephoslaw20.CanonHead", spec := "canonHead", unfollowed := true, recurses := true, apart := false, narrowed := true }
def CanonHeadUptoSaid : Prop := canonHeadUptoRow.holds Tryz.pinned (OpenSpec.upto canonHeadSpec)

/-- 'psephoslaw20.CanonLong', WHERE WHAT IT READS IS OF BULK AT MOST 1048576: true; the input reads as it did. -/
def canonLongUptoRow : OpenClaim := { program := "ytnppimhlfcjghaagreat", sum := "ce098dd57cb77d37ccef348a4e5f26dd90fd27d3e8bc32beb4898438acb8fb3d", func := "psephos/psephoslaw20.CanonLong", spec := "canonLong", unfollowed := true, recurses := true, apart := false, narrowed := true }
def CanonLongUptoSaid : Prop := canonLongUptoRow.holds Tryz.pinned (OpenSpec.upto canonLongSpec)

/-- 'psephoslaw15.SpecUp', WHERE WHAT IT READS IS OF BULK AT MOST 1048576: true; the input reads as it did. -/
def specUpUptoRow : OpenClaim := { program := "ytnppimhlfcjghaagreat", sum := "ce098dd57cb77d37ccef348a4e5f26dd90fd27d3e8bc32beb4898438acb8fb3d", func := "psephos/psephoslaw15.SpecUp", spec := "specUp", unfollowed := true, recurses := true, apart := false, narrowed := true }
def SpecUpUptoSaid : Prop := specUpUptoRow.holds Tryz.pinned (OpenSpec.upto specUpSpec)

/-- 'psephoslaw15.SpecTies', WHERE WHAT IT READS IS OF BULK AT MOST 1048576: true; the input reads as it did. -/
def specTiesUptoRow : OpenClaim := { program := "ytnppimhlfcjghaagreat", sum := "ce098dd57cb77d37ccef348a4e5f26dd90fd27d3e8bc32beb4898438acb8fb3d", func := "psephos/psephoslaw15.SpecTies", spec := "specTies", unfollowed := true, recurses := true, apart := false, narrowed := true }
def SpecTiesUptoSaid : Prop := specTiesUptoRow.holds Tryz.pinned (OpenSpec.upto specTiesSpec)

/-- 'psephoslaw15.SpecLine', WHERE WHAT IT READS IS OF BULK AT MOST 1048576: true; the input reads as it did. -/
def specLineUptoRow : OpenClaim := { program := "ytnppimhlfcjghaagreat", sum := "ce098dd57cb77d37ccef348a4e5f26dd90fd27d3e8bc32beb4898438acb8fb3d", func := "psephos/psephoslaw15.SpecLine", spec := "specLine", unfollowed := true, recurses := true, apart := false, narrowed := true }
def SpecLineUptoSaid : Prop := specLineUptoRow.holds Tryz.pinned (OpenSpec.upto specLineSpec)

end Rows
end Go.Proofs.YtnppimhlfcjghaaGreat
