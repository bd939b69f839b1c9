import Derived.Test.YtnppimhlfcjghaaGreatPMake
import Derived.Test.YtnppimhlfcjghaaGreatPPmOn
import Derived.Test.YtnppimhlfcjghaaGreatPPmTicks
import Derived.Test.YtnppimhlfcjghaaGreatPPmVotes
set_option linter.all false
set_option linter.unusedVariables false
set_option linter.unusedSimpArgs false
namespace Go.Proofs.YtnppimhlfcjghaaGreat
open Go.RowKit
set_option maxRecDepth 100000
def LawRun (w : World) (S1 S2 sb : Nat) (A : Option Addr) (es : List Ev) (s : St) (ch : Value) (W : World) : Prop :=
 RunAt w.heap.size S1 S2 sb A es s ch W ∧ s.inv ∧ s.on ∧ Below w.heap.size w W
theorem LawRun.start {w w4 w5 : World} {p : Places} {c : Cf} {k vk : Nat} {A : Option Addr} {es : List Ev} (hok : c.ok) (h4 : Below w.heap.size w w4) (hS : StoreAt w4 p (St.of c) k vk (.slice none 0 0)) (hp : ∀ i ∈ p.all, w.heap.size ≤ i) (hw : ∀ e ∈ es, e.wf) (he : Evs (fun b => w4.heap.size ≤ b ∧ b < w5.heap.size) w5 A es) (h5 : Below w4.heap.size w4 w5) : LawRun w w4.heap.size w5.heap.size p.sb A es (St.of c) (.slice none 0 0) w5 :=
 ⟨⟨⟨p, k, vk, rfl, hS.below h5, fun i hi => ⟨hp i hi, .inl (hS.lt (ok_of hok) i hi)⟩⟩, ok_of hok, he, hw, h4.size, h5.size, Nat.le_refl _⟩, inv_of hok, on_of hok, below_then h4 h4.size h5⟩
theorem LawRun.below {w W W' : World} {S1 S2 sb : Nat} {A : Option Addr} {es : List Ev} {s : St} {ch : Value} (h : LawRun w S1 S2 sb A es s ch W) (hb : Below W.heap.size W W') : LawRun w S1 S2 sb A es s ch W' :=
 ⟨h.1.below hb, h.2.1, h.2.2.1, below_then h.2.2.2 h.2.2.2.size hb⟩
theorem LawRun.step {w W W' : World} {S1 S2 sb : Nat} {A : Option Addr} {es : List Ev} {s : St} {ch ch' : Value} (h : LawRun w S1 S2 sb A es s ch W) {e : Ev} (hw : e.wf) (hR : RunAt w.heap.size S1 S2 sb A es (applyS s e).1.1 ch' W') (hx : Ext (fun i => w.heap.size ≤ i ∧ (i < S1 ∨ S2 ≤ i)) W W') : LawRun w S1 S2 sb A es (applyS s e).1.1 ch' W' :=
 ⟨hR, (inv_apply h.1.ok h.2.1 hw).1, on_apply h.1.ok h.2.2.1 hw, h.2.2.2.trans (hx.below h.2.2.2.size (fun i hi hf => by omega))⟩
theorem LawRun.turn {w W W' : World} {S1 S2 sb b : Nat} {A : Option Addr} {es : List Ev} {s : St} {ch : Value} {cs : Array Value} {t : TypeId} (h : LawRun w S1 S2 sb A es s ch W) (hq : W.heap[b]? = some (.cells cs t (0, 0))) (ht : t ≠ 4) (hb : S2 ≤ b) (hn : ∀ (p : Places) (k vk : Nat), p.sb = sb → StoreAt W p s k vk ch → b ∉ p.all) (hx : Ext (fun i => i = b) W W') : LawRun w S1 S2 sb A es s ch W' := by
 obtain ⟨⟨⟨p, k, vk, h1, hS, hp⟩, ok, row, wf, hbb⟩, hi, ho, hbw⟩ := h
 have hne := hn p k vk h1 hS
 refine ⟨⟨⟨p, k, vk, h1, hS.turn hx (fun i hi e => hne ((show i = b from e) ▸ hi)) (keep_cells hq hx ht), hp⟩, ok, row.mono (fun _ x => x) (fun i hi hlt => hx.block i hlt (fun e => by have e' : i = b := e; omega)), wf, hbb.1, hbb.2.1, by have := hx.size; omega⟩, hi, ho, below_ext hbw hx (Nat.le_refl _) (by omega)⟩
end Go.Proofs.YtnppimhlfcjghaaGreat
