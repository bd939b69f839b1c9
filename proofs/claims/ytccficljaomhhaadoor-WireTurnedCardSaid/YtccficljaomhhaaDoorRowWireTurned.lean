/- The card of WireTurned holds: for every input the law returns true, and each argument reads behind the call as it read before; errors.errorType begins as the program's text lays it, and that is tied to the text. -/
import Derived.Test.YtccficljaomhhaaDoorRows
import Derived.Test.YtccficljaomhhaaDoorL04Turned
import Derived.Test.YtccficljaomhhaaDoorOpen2
import Derived.Test.YtccficljaomhhaaDoorCards
import Derived.Test.YtccficljaomhhaaDoorTie
import Derived.WalkKit
import Derived.LaidLaws
import Derived.LaidHandle
import Derived.ChangeVars
import Derived.ChangeSame
import Derived.Stop.Joined
import Derived.SevenTiedAt
import Derived.JoinedOf
import Derived.RowKitTokens
import Derived.ProofKit
import Derived.OpenShut
import Derived.ShutString
import Derived.ChangeOld
import Derived.Below
import Derived.SizedLaws
namespace Go.Proofs.YtccficljaomhhaaDoor.wireTurned
open Go.ChangeShapes Go.WideShapes Go.ChangeAt Go.RowKit
open Go.ChangeMaps (open_string shut_string)
set_option linter.unusedVariables false
theorem own : ownKnob Tryd.prog.godebug = none := by kernel_rfl
theorem laidOut : laidOutB Tryd.prog = true := by kernel_rfl
theorem et : Tryd.prog.globalNamed "errors.errorType" = some 0 := by kernel_rfl
theorem rt : (Tryd.prog.cutTypes.find? (·.1 == "internal/reflectlite.rtype")).map (·.2) = some 96 := by kernel_rfl
theorem tsize : Tryd.prog.types.size = 139 := by kernel_rfl
theorem oneRow : ((List.range 139).filter fun t => Tryd.prog.rowNamed t [101, 114, 114, 111, 114]) = [45] := by kernel_rfl
/-- What the condition gives a walk: the variable's one cell. -/
theorem handle_of_laid {W : World} (h : laidMetH Tryd.prog [("errors.errorType", Rows.laid_errors_errorType)] W) : GV W := by
  have h' : laidMet Tryd.prog [] W ∧ handlesMet Tryd.prog [("errors.errorType", Rows.laid_errors_errorType)] W := h
  obtain ⟨name, u, ty, e1, e2, e3, e4, e5⟩ := h'.2 _ (List.mem_singleton.2 rfl)
  have en : name = [101, 114, 114, 111, 114] := (Option.some.inj e1).symm
  subst en
  obtain rfl := Option.some.inj (rt.symm.trans e2)
  have hm : ty ∈ (List.range 139).filter fun t => Tryd.prog.rowNamed t [101, 114, 114, 111, 114] := List.mem_filter.2 ⟨List.mem_range.2 (by rw [← tsize]; exact e3), e4⟩
  rw [oneRow] at hm
  obtain rfl := List.mem_singleton.1 hm
  have hh : typeHandle Tryd.prog 45 = .pointer (some ⟨1, 45, none⟩) := by kernel_rfl
  rw [hh] at e5
  show W.cell? _ = _
  simpa using World.var?_cell et e5 0
/-- A world that meets the condition. -/
noncomputable def laidWorld (os : Os) : World :=
  let w0 := World.holding Tryd.prog os ⟨#[], #[], []⟩
  { w0 with heap := w0.heap.modify 0 fun
      | .cells _ t frozen => .cells #[.iface 96 (.agg #[.pointer (some ⟨1, 45, none⟩)])] t frozen
      | o => o }
theorem laidWorld_met (os : Os) (args : Array Value) : laidMetH Tryd.prog [("errors.errorType", Rows.laid_errors_errorType)] ((laidWorld os).forCall (fun _ _ => 0) ⟨#[], args, []⟩).memory :=
  laidMetH_of_parts (laidMet_nil _ _) (by kernel_rfl)
set_option maxRecDepth 100000 in
theorem lifted (os : Os) (started : os.Started) (H : Type) (enc : TypeId × Value → H) :
    ReturnsInHanded {} Tryd.checked os 3 .any (fun w args => (Rows.wireTurnedSpec.pre enc Tryd.prog Tryd.f3 [] false w args ∧ laidMetH Tryd.prog [("errors.errorType", Rows.laid_errors_errorType)] w) ∧ sizedMet enc Tryd.prog Tryd.f3 (OpenSpec.ofChange Rows.wireTurnedSpec) false w args) (Rows.wireTurnedSpec.post enc Tryd.prog Tryd.f3 false true false false) := by
  refine returnsInHanded_of_change_and (C := Tryd.checked) (X := fun w _ => laidMetH Tryd.prog [("errors.errorType", Rows.laid_errors_errorType)] w) (fun _ _ _ hh h => h.of_heap hh) own started (by kernel_rfl) Tryd.func3
    (ChangeSpec.witness_at (enc := enc) (C := Tryd.checked) (os := os) (X := fun w _ => laidMetH Tryd.prog [("errors.errorType", Rows.laid_errors_errorType)] w) false (laidWorld os) #[.slice none 0 0, .int .u16 0, .int .u8 0, .slice none 0 0] 8 rfl (by kernel_rfl) (by kernel_rfl) (by kernel_rfl) (by kernel_rfl) (by kernel_rfl) (laidWorld_met os _)) ?_
  intro W base args ds gs before hval0 hW hcnd hsz0 hL _
  have hg := handle_of_laid hL
  have hval : ∀ (j : Nat) t v, Tryd.f3.params[j]? = some t → args[j]? = some v → Value.okWide Tryd.prog W .any base t v := hval0
  have hW' := hW
  obtain ⟨p, q, hA0, hV, rfl, hfz, hnd⟩ := hW
  have hA : DataW.TrodAll enc Tryd.prog W 0 (fun _ => true) true Tryd.f3.params.toList args.toList ds p := hA0
  rw [Tryd.params3] at hA hval
  obtain ⟨v0, vs0, d0, ds0, p0, q0, hargs, rfl, rfl, h0, r0⟩ := trodAll_cons hA
  obtain ⟨v1, vs1, d1, ds1, p1, q1, rfl, rfl, rfl, h1, r1⟩ := trodAll_cons r0
  obtain ⟨v2, vs2, d2, ds2, p2, q2, rfl, rfl, rfl, h2, r2⟩ := trodAll_cons r1
  obtain ⟨v3, vs3, d3, ds3, p3, q3, rfl, rfl, rfl, h3, r3⟩ := trodAll_cons r2
  obtain ⟨rfl, rfl, rfl⟩ := trodAll_nil r3
  obtain rfl : args = #[v0, v1, v2, v3] := by cases args; simp_all
  obtain ⟨rfl, rfl⟩ := trodVars_none hV
  obtain ⟨a0, len0, cap0, rfl⟩ := okWide_slice Tryd.underlying22 (hval 0 22 v0 rfl rfl)
  have k0 := h0
  have lt0 : ∀ x ∈ p0, x.block < W.heap.size := by obtain ⟨m, hm⟩ := k0; exact DataW.trod_lt m _ _ _ hm
  obtain ⟨fuel0, hf0⟩ := h0
  obtain ⟨A0, n0, c0, es0, hcs0, hl0, hfit0, hx0, hwf0⟩ := trod_evs hf0
  simp only [Value.cells] at hcs0
  obtain ⟨rfl, rfl, rfl⟩ : a0 = A0 ∧ len0 = n0 ∧ cap0 = c0 := by simpa using hcs0
  subst hl0
  obtain ⟨a1, rfl, rfl, rfl, w1⟩ := open_int Tryd.underlying23 (hval 1 23 v1 rfl rfl) h1
  obtain ⟨a2, rfl, rfl, rfl, w2⟩ := open_int Tryd.underlying5 (hval 2 5 v2 rfl rfl) h2
  obtain ⟨a3, len3, cap3, rfl⟩ := okWide_slice Tryd.underlying24 (hval 3 24 v3 rfl rfl)
  have k3 := h3
  have lt3 : ∀ x ∈ p3, x.block < W.heap.size := by obtain ⟨m, hm⟩ := k3; exact DataW.trod_lt m _ _ _ hm
  obtain ⟨fuel3, hf3⟩ := h3
  obtain ⟨A3, n3, c3, es3, hcs3, hl3, hfit3, hx3, hwf3⟩ := trod_u8s hf3
  simp only [Value.cells] at hcs3
  obtain ⟨rfl, rfl, rfl⟩ : a3 = A3 ∧ len3 = n3 ∧ cap3 = c3 := by simpa using hcs3
  subst hl3
  clear hA0 hval0 hsz0
  refine (WireTurned_calls W a0 cap0 es0 a1 a2 a3 cap3 es3 hg hx0 hfit0.2 hwf0 w1 w2 hx3 hfit3 hwf3).mono fun e W' ⟨he, bel⟩ => ?_
  subst he
  exact ⟨_, rfl, _, _, _, [], _, [], hW', trodAll_mk1 (shut_bool Tryd.underlying4 _), (trodAll_cons_mk (Below.trod laidOut (by kernel_rfl) (of_decide_eq_true (by kernel_rfl)) k0 bel lt0) (trodAll_cons_mk (shut_int Tryd.underlying23 w1) (trodAll_cons_mk (shut_int Tryd.underlying5 w2) (trodAll_cons_mk (Below.trod laidOut (by kernel_rfl) (of_decide_eq_true (by kernel_rfl)) k3 bel lt3) trodAll_mk0)))), rfl, bel.frame _, fun h => by cases h⟩
theorem over : Rows.wireTurnedRow.holds Tryd.pinned (OpenSpec.ofChange Rows.wireTurnedSpec) :=
  OpenClaim.holds_of_wide 3 Tryd.f3 rfl rfl rfl rfl rfl rfl rfl ⟨rfl, rfl, rfl, rfl, rfl⟩ rfl rfl rfl rfl rfl (by kernel_rfl) Tryd.func3 (by kernel_rfl)
    (of_decide_eq_true (by kernel_rfl)) (by unfold Func.isWrapper; first | (rw [if_pos (by decide +kernel)]; kernel_rfl) | (rw [if_neg (by decide +kernel)]; exact ⟨rfl, rfl⟩))
    (fun os started H enc _ => lifted os started H enc)
theorem wants (j : Nat) (t : TypeId) (ht : (#[22, 23, 5, 24] : Array TypeId)[j]? = some t) : Tryd.prog.wantsStandIn t = false := by
  match j with
  | 0 =>
    obtain rfl : 22 = t := by simpa using ht
    exact (show Tryd.prog.wantsStandIn 22 = false by kernel_rfl)
  | 1 =>
    obtain rfl : 23 = t := by simpa using ht
    exact (show Tryd.prog.wantsStandIn 23 = false by kernel_rfl)
  | 2 =>
    obtain rfl : 5 = t := by simpa using ht
    exact (show Tryd.prog.wantsStandIn 5 = false by kernel_rfl)
  | 3 =>
    obtain rfl : 24 = t := by simpa using ht
    exact (show Tryd.prog.wantsStandIn 24 = false by kernel_rfl)
  | j + 4 => simp at ht
theorem row_tie : Rows.wireTurnedRow.laidByTextAt .later Tryd.pinned [.handle] true :=
  OpenClaim.laidByTextAt_later rfl rfl tie (by kernel_rfl)
theorem proved : Rows.WireTurnedCardSaid :=
  Claim7.holds_tied_plain_at .later [] [.handle] true (true, "6fab5b4bc25ec56e6fbce952ce59c6c278181ab96037864fd844f637fb1a09a4") true
    over (fun _ h => by cases h) (by kernel_rfl) (fun _ h => by cases h) row_tie rfl ⟨rfl, rfl⟩ (by kernel_rfl) rfl
    (fun f fn hf hfn => by
      obtain rfl : f = 3 := Option.some.inj ((show Tryd.prog.funcNamed "psephos/psephoslaw04.WireTurned" = some 3 by kernel_rfl).symm.trans hf) |>.symm
      obtain rfl : fn = Tryd.f3 := (Option.some.inj (Tryd.func3.symm.trans hfn)).symm
      exact ⟨by kernel_rfl, fun j t ht => by
        rw [Tryd.params3] at ht
        exact wants j t ht⟩)
    (by kernel_rfl)
#print axioms proved
end Go.Proofs.YtccficljaomhhaaDoor.wireTurned
namespace Go.Proofs.YtccficljaomhhaaDoor
theorem wireTurned_holds : Rows.WireTurnedCardSaid := wireTurned.proved
end Go.Proofs.YtccficljaomhhaaDoor
