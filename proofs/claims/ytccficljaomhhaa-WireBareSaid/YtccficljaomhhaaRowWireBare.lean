/- The statement WireBare holds: for every input the law returns true, and each argument reads behind the call as it read before. No condition. -/
import Derived.Test.YtccficljaomhhaaRows
import Derived.Test.YtccficljaomhhaaL04Bare
import Derived.Test.YtccficljaomhhaaOpen2
import Derived.WalkKit
import Derived.ProofKit
import Derived.OpenShut
import Derived.ShutString
import Derived.ChangeOld
import Derived.Below
import Derived.SizedLaws
namespace Go.Proofs.Ytccficljaomhhaa.wireBare
open Go.ChangeShapes Go.WideShapes Go.ChangeAt Go.RowKit
open Go.ChangeMaps (open_string shut_string)
set_option linter.unusedVariables false
theorem own : ownKnob Try.prog.godebug = none := by kernel_rfl
theorem laidOut : laidOutB Try.prog = true := by kernel_rfl
set_option maxRecDepth 100000 in
theorem lifted (os : Os) (started : os.Started) (H : Type) (enc : TypeId × Value → H) :
    ReturnsInHanded {} Try.checked os 5 .any (Rows.wireBareSpec.pre6 enc Try.prog Try.f5 Rows.wireBareRow.domain false) (Rows.wireBareSpec.post enc Try.prog Try.f5 false true false false) := by
  refine returnsInHanded_of_change_sized (C := Try.checked) own started (by kernel_rfl) Try.func5
    (ChangeSpec.witness6 (enc := enc) (C := Try.checked) false ⟨#[], #[.agg #[.int .i64 0, .int .i64 0, .int .u64 0, .int .u64 0, .int .i64 0, .slice none 0 0, .slice none 0 0, .int .i64 0, .int .u64 0, .int .i64 0, .int .u64 0, .int .i64 0, .int .u64 0, .slice none 0 0, .int .i64 0, .int .u64 0, .int .i64 0, .int .u64 0, .int .i64 0, .int .u64 0, .slice none 0 0, .int .i64 0, .int .u64 0, .int .i64 0, .int .u64 0, .int .i64 0, .int .u64 0, .slice none 0 0]], []⟩ 8 (by kernel_rfl) (by kernel_rfl) (by kernel_rfl) (by kernel_rfl)) ?_
  intro W base args ds gs before hval0 hW hcnd hsz0 _
  have hval : ∀ (j : Nat) t v, Try.f5.params[j]? = some t → args[j]? = some v → Value.okWide Try.prog W .any base t v := hval0
  have hW' := hW
  obtain ⟨p, q, hA0, hV, rfl, hfz, hnd⟩ := hW
  have hA : DataW.TrodAll enc Try.prog W 0 (fun _ => true) true Try.f5.params.toList args.toList ds p := hA0
  rw [Try.params5] at hA hval
  obtain ⟨v0, vs0, d0, ds0, p0, q0, hargs, rfl, rfl, h0, r0⟩ := trodAll_cons hA
  obtain ⟨rfl, rfl, rfl⟩ := trodAll_nil r0
  obtain rfl : args = #[v0] := by cases args; simp_all
  obtain ⟨rfl, rfl⟩ := trodVars_none hV
  have k0 := h0
  have lt0 : ∀ x ∈ p0, x.block < W.heap.size := by obtain ⟨m, hm⟩ := k0; exact DataW.trod_lt m _ _ _ hm
  obtain ⟨fuel0, hf0⟩ := h0
  obtain ⟨e0, hK0, hwf0⟩ := trod_ev hf0
  obtain ⟨A1, c1, A2, c2, A3, c3, A4, c4, A5, c5, hR0, hcs0⟩ := hK0.open_
  obtain ⟨cs0, rfl, _⟩ := okWide_struct Try.underlying38 (hval 0 38 v0 rfl rfl)
  obtain rfl : cs0 = #[.int .i64 e0.kind, .int .i64 e0.slot, .int .u64 e0.block.root, .int .u64 e0.block.parent, .int .i64 e0.block.slot, .slice A1 e0.block.votes.length c1, .slice A2 e0.block.proofs.length c2, .int .i64 e0.vote.slot, .int .u64 e0.vote.head, .int .i64 e0.vote.src.e, .int .u64 e0.vote.src.r, .int .i64 e0.vote.tgt.e, .int .u64 e0.vote.tgt.r, .slice A3 e0.vote.who.length c3, .int .i64 e0.proof.a.slot, .int .u64 e0.proof.a.head, .int .i64 e0.proof.a.src.e, .int .u64 e0.proof.a.src.r, .int .i64 e0.proof.a.tgt.e, .int .u64 e0.proof.a.tgt.r, .slice A4 e0.proof.a.who.length c4, .int .i64 e0.proof.b.slot, .int .u64 e0.proof.b.head, .int .i64 e0.proof.b.src.e, .int .u64 e0.proof.b.src.r, .int .i64 e0.proof.b.tgt.e, .int .u64 e0.proof.b.tgt.r, .slice A5 e0.proof.b.who.length c5] := by cases cs0; simpa [Value.cells] using hcs0
  clear hA0 hval0 hsz0
  refine (WireBare_calls W e0 A1 c1 A2 c2 A3 c3 A4 c4 A5 c5 hR0 hwf0).mono fun e W' ⟨he, bel⟩ => ?_
  subst he
  exact ⟨_, rfl, _, _, _, [], _, [], hW', trodAll_mk1 (shut_bool Try.underlying4 _), (trodAll_cons_mk (Below.trod laidOut (by kernel_rfl) (of_decide_eq_true (by kernel_rfl)) k0 bel lt0) trodAll_mk0), rfl, bel.frame _, fun h => by cases h⟩
theorem over : Rows.wireBareRow.holds Try.pinned (OpenSpec.ofChange Rows.wireBareSpec) :=
  OpenClaim.holds_of_wide 5 Try.f5 rfl rfl rfl rfl rfl rfl rfl ⟨rfl, rfl, rfl, rfl, rfl⟩ rfl rfl rfl rfl rfl (by kernel_rfl) Try.func5 (by kernel_rfl)
    (of_decide_eq_true (by kernel_rfl)) (by unfold Func.isWrapper; first | (rw [if_pos (by decide +kernel)]; kernel_rfl) | (rw [if_neg (by decide +kernel)]; exact ⟨rfl, rfl⟩))
    (fun os started H enc _ => lifted os started H enc)
theorem proved : Rows.WireBareSaid := over
#print axioms proved
end Go.Proofs.Ytccficljaomhhaa.wireBare
namespace Go.Proofs.Ytccficljaomhhaa
theorem wireBare_holds : Rows.WireBareSaid := wireBare.proved
end Go.Proofs.Ytccficljaomhhaa
