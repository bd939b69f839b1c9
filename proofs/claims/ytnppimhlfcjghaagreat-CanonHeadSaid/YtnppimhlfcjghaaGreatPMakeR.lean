import Derived.Test.YtnppimhlfcjghaaGreatPMakeE
import Derived.Test.YtnppimhlfcjghaaGreatPApply
set_option linter.all false
set_option linter.unusedVariables false
set_option linter.unusedSimpArgs false
namespace Go.Proofs.YtnppimhlfcjghaaGreat
open Go.RowKit
set_option maxRecDepth 100000
structure MkRun (w : World) (mb : Nat) (p : Places) (s : St) (k vk : Nat) (ch : Value) (ns : List Int) (An : Option Addr) (kn : Nat) (bl : List Int) (bv : Value) (es : List Ev) (gcs : List Value) (A : Option Addr) (co : Nat) (W : World) : Prop where
 mm : MkAt W mb w.heap.size p.sb ns An kn bl bv
 st : StoreAt W p s k vk ch
 ok : s.ok
 pb : ∀ i ∈ p.all, w.heap.size ≤ i
 pm : mb ∉ p.all
 pv : ∀ g, bv.ownBlock = some g → g ∉ p.all
 po : ∀ g, (Value.slice A es.length co).ownBlock = some g → g ∉ p.all
 ro : W.ownsRow w.heap.size 57 28 (.slice A es.length co) es.length gcs
 rk : ∀ j x, es[j]? = some x → EvO w.heap.size W x ((gcs.drop (j * 28)).take 28)
 wf : ∀ e ∈ es, e.wf
 bel : Below w.heap.size w W
section
variable {w W W' : World} {mb k vk kn co : Nat} {p : Places} {s : St} {ch bv : Value} {ns bl : List Int} {An A : Option Addr} {es : List Ev} {gcs : List Value}
theorem MkRun.below (h : MkRun w mb p s k vk ch ns An kn bl bv es gcs A co W) (hb : Below W.heap.size W W') : MkRun w mb p s k vk ch ns An kn bl bv es gcs A co W' :=
 ⟨h.mm.below hb, h.st.below hb, h.ok, h.pb, h.pm, h.pv, h.po, own_below h.ro hb, fun j x hx => (h.rk j x hx).keep (Keeps.of_below hb), h.wf, below_then h.bel h.bel.size hb⟩
theorem MkRun.event (h : MkRun w mb p s k vk ch ns An kn bl bv es gcs A co W) :
    Calls Tryz.prog 35 #[.pointer (some ⟨mb, 0, none⟩)] W fun e W' => ∃ (ev : Ev) (A1 : Option Addr) (c1 : Nat) (A2 : Option Addr) (c2 : Nat) (A3 : Option Addr) (c3 : Nat) (A4 : Option Addr) (c4 : Nat) (A5 : Option Addr) (c5 : Nat) (ns' : List Int) (An' : Option Addr) (kn' : Nat), e = .returned (.agg #[.int .i64 ev.kind, .int .i64 ev.slot, .int .u64 ev.block.root, .int .u64 ev.block.parent, .int .i64 ev.block.slot, .slice A1 ev.block.votes.length c1, .slice A2 ev.block.proofs.length c2, .int .i64 ev.vote.slot, .int .u64 ev.vote.head, .int .i64 ev.vote.src.e, .int .u64 ev.vote.src.r, .int .i64 ev.vote.tgt.e, .int .u64 ev.vote.tgt.r, .slice A3 ev.vote.who.length c3, .int .i64 ev.proof.a.slot, .int .u64 ev.proof.a.head, .int .i64 ev.proof.a.src.e, .int .u64 ev.proof.a.src.r, .int .i64 ev.proof.a.tgt.e, .int .u64 ev.proof.a.tgt.r, .slice A4 ev.proof.a.who.length c4, .int .i64 ev.proof.b.slot, .int .u64 ev.proof.b.head, .int .i64 ev.proof.b.src.e, .int .u64 ev.proof.b.src.r, .int .i64 ev.proof.b.tgt.e, .int .u64 ev.proof.b.tgt.r, .slice A5 ev.proof.b.who.length c5]) ∧ ev.wf ∧ EvO W.heap.size W' ev [.int .i64 ev.kind, .int .i64 ev.slot, .int .u64 ev.block.root, .int .u64 ev.block.parent, .int .i64 ev.block.slot, .slice A1 ev.block.votes.length c1, .slice A2 ev.block.proofs.length c2, .int .i64 ev.vote.slot, .int .u64 ev.vote.head, .int .i64 ev.vote.src.e, .int .u64 ev.vote.src.r, .int .i64 ev.vote.tgt.e, .int .u64 ev.vote.tgt.r, .slice A3 ev.vote.who.length c3, .int .i64 ev.proof.a.slot, .int .u64 ev.proof.a.head, .int .i64 ev.proof.a.src.e, .int .u64 ev.proof.a.src.r, .int .i64 ev.proof.a.tgt.e, .int .u64 ev.proof.a.tgt.r, .slice A4 ev.proof.a.who.length c4, .int .i64 ev.proof.b.slot, .int .u64 ev.proof.b.head, .int .i64 ev.proof.b.src.e, .int .u64 ev.proof.b.src.r, .int .i64 ev.proof.b.tgt.e, .int .u64 ev.proof.b.tgt.r, .slice A5 ev.proof.b.who.length c5] ∧ MkRun w mb p s k vk ch ns' An' kn' bl bv es gcs A co W' := by
 refine (event_calls h.mm h.st h.ok (h.st.lt h.ok) h.pm).mono ?_
 rintro e W' ⟨ev, A1, c1, A2, c2, A3, c3, A4, c4, A5, c5, ns', An', kn', rfl, hw, ho, hM, hx⟩
 have kk : ∀ T : TypeId, T ≠ 103 → Keep T W W' := fun T hT => Keep.of_ext hx h.mm.blk hT
 have hk : Keeps W W' := ⟨kk _ (by decide), kk _ (by decide), kk _ (by decide)⟩
 exact ⟨ev, A1, c1, A2, c2, A3, c3, A4, c4, A5, c5, ns', An', kn', rfl, hw, ho, hM, h.st.turn hx (fun i hi e => h.pm ((show i = mb from e) ▸ hi)) (keep_cells h.mm.blk hx (by decide)), h.ok, h.pb, h.pm, h.pv, h.po, (kk _ (by decide)).own h.ro, fun j x hj => (h.rk j x hj).keep hk, h.wf, below_ext h.bel hx (Nat.le_refl _) h.mm.mb⟩
theorem MkRun.apply (h : MkRun w mb p s k vk ch ns An kn bl bv es gcs A co W) {ev : Ev} (hw : ev.wf) {bs : Nat} {A1 : Option Addr} {c1 : Nat} {A2 : Option Addr} {c2 : Nat} {A3 : Option Addr} {c3 : Nat} {A4 : Option Addr} {c4 : Nat} {A5 : Option Addr} {c5 : Nat} (he : EvO bs W ev [.int .i64 ev.kind, .int .i64 ev.slot, .int .u64 ev.block.root, .int .u64 ev.block.parent, .int .i64 ev.block.slot, .slice A1 ev.block.votes.length c1, .slice A2 ev.block.proofs.length c2, .int .i64 ev.vote.slot, .int .u64 ev.vote.head, .int .i64 ev.vote.src.e, .int .u64 ev.vote.src.r, .int .i64 ev.vote.tgt.e, .int .u64 ev.vote.tgt.r, .slice A3 ev.vote.who.length c3, .int .i64 ev.proof.a.slot, .int .u64 ev.proof.a.head, .int .i64 ev.proof.a.src.e, .int .u64 ev.proof.a.src.r, .int .i64 ev.proof.a.tgt.e, .int .u64 ev.proof.a.tgt.r, .slice A4 ev.proof.a.who.length c4, .int .i64 ev.proof.b.slot, .int .u64 ev.proof.b.head, .int .i64 ev.proof.b.src.e, .int .u64 ev.proof.b.src.r, .int .i64 ev.proof.b.tgt.e, .int .u64 ev.proof.b.tgt.r, .slice A5 ev.proof.b.who.length c5]) (hbs : ∀ i ∈ p.all, i < bs) :
    Calls Tryz.prog 14 #[.pointer (some ⟨p.sb, 0, none⟩), .agg #[.int .i64 ev.kind, .int .i64 ev.slot, .int .u64 ev.block.root, .int .u64 ev.block.parent, .int .i64 ev.block.slot, .slice A1 ev.block.votes.length c1, .slice A2 ev.block.proofs.length c2, .int .i64 ev.vote.slot, .int .u64 ev.vote.head, .int .i64 ev.vote.src.e, .int .u64 ev.vote.src.r, .int .i64 ev.vote.tgt.e, .int .u64 ev.vote.tgt.r, .slice A3 ev.vote.who.length c3, .int .i64 ev.proof.a.slot, .int .u64 ev.proof.a.head, .int .i64 ev.proof.a.src.e, .int .u64 ev.proof.a.src.r, .int .i64 ev.proof.a.tgt.e, .int .u64 ev.proof.a.tgt.r, .slice A4 ev.proof.a.who.length c4, .int .i64 ev.proof.b.slot, .int .u64 ev.proof.b.head, .int .i64 ev.proof.b.src.e, .int .u64 ev.proof.b.src.r, .int .i64 ev.proof.b.tgt.e, .int .u64 ev.proof.b.tgt.r, .slice A5 ev.proof.b.who.length c5]] W fun en W' => ∃ (p' : Places) (ch' : Value), en = .returned (.tuple #[ch', errV (applyS s ev).2]) ∧ p'.sb = p.sb ∧ MkRun w mb p' (applyS s ev).1.1 k vk ch' ns An kn bl bv es gcs A co W' ∧ KeepN W W' := by
 refine (Apply_calls h.st h.ok ev A1 c1 A2 c2 A3 c3 A4 c4 A5 c5 hw (he.r.mono (fun i hi => ⟨fun hh => by have := hbs i (p.mem hh); omega, hi.2⟩) (fun _ _ _ => rfl))).mono ?_
 rintro en W' ⟨nb', ch', rfl, hnb, hA, hx⟩
 have hsz := h.bel.size
 have hall : ∀ i ∈ ({ p with nb := nb', w0 := W } : Places).all, i ∈ p.all ∨ W.heap.size ≤ i := fun i hi => by
  simp only [Places.all, List.mem_cons, List.not_mem_nil, or_false] at hi ⊢
  rcases hi with e | e | e | e | e | e | e
  ·exact .inl (by simp [e])
  ·exact .inl (by simp [e])
  ·rcases hnb with h' | h'
   ·exact .inl (by simp [e, h'])
   ·exact .inr (by omega)
  ·exact .inl (by simp [e])
  ·exact .inl (by simp [e])
  ·exact .inl (by simp [e])
  ·exact .inl (by simp [e])
 refine ⟨{ p with nb := nb', w0 := W }, ch', rfl, rfl, ⟨h.mm.apply hA.kb hx (fun i hi hf => ?_), hA.st, ok_apply h.ok hw, fun i hi => ?_, fun hi => ?_, fun g hg hi => ?_, fun g hg hi => ?_, (hA.kb.keep (by decide)).own h.ro, fun j x hj => (h.rk j x hj).keep hA.kb.keeps, h.wf, ?_⟩, hA.kb⟩
 ·rcases hf with hf | hf
  ·have := h.pb i (p.mem hf); omega
  ·omega
 ·rcases hall i hi with h' | h'
  ·exact h.pb i h'
  ·omega
 ·rcases hall mb hi with h' | h'
  ·exact h.pm h'
  ·have := blk_lt h.mm.blk; omega
 ·rcases hall g hi with h' | h'
  ·exact h.pv g hg h'
  ·have := own_lt h.mm.rb g hg; omega
 ·rcases hall g hi with h' | h'
  ·exact h.po g hg h'
  ·have := own_lt h.ro g hg; omega
 ·exact h.bel.trans (hx.below h.bel.size (fun i hi hf => by
     rcases hf with hf | hf
     ·have := h.pb i (p.mem hf); omega
     ·omega))
theorem MkRun.push (h : MkRun w mb p s k vk ch ns An kn bl bv es gcs A co W) {r : Int} {A' : Option Addr} {c' : Nat} (hr : inU r) (hl : bl.length + 1 ≤ 1000000) (ho : W'.ownsRow w.heap.size 23 1 (.slice A' (bl.length + 1) c') (bl.length + 1) (bl.map (Value.int .u64) ++ [.int .u64 r])) (hg : W.grownBy W' bv.ownBlock)
    (hn : (Value.slice A' (bl.length + 1) c').ownBlock = bv.ownBlock ∨ (Value.slice A' (bl.length + 1) c').ownBlock = some W.heap.size) : MkRun w mb p s k vk ch ns An kn (bl ++ [r]) (.slice A' (bl.length + 1) c') es gcs A co (W'.setCell ⟨mb, 2, none⟩ (.slice A' (bl.length + 1) c')) := by
 have hx : Ext (fun i => some i = bv.ownBlock) W W' := (Ext.refl _ _).grown hg (fun b hb => .inl hb.symm)
 have hx2 : Ext (fun i => i = mb) W' (W'.setCell ⟨mb, 2, none⟩ (.slice A' (bl.length + 1) c')) := (Ext.refl _ _).set1
 have hq := blk_ext h.mm.blk hx (fun e => own_type_ne h.mm.rb h.mm.blk (by decide) e)
 have hbm := h.mm.mb
 have kk : ∀ T : TypeId, T ≠ 103 → 23 ≠ T → Keep T W (W'.setCell ⟨mb, 2, none⟩ (.slice A' (bl.length + 1) c')) := fun T h1 h2 => (Keep.grown h.mm.rb h2 hg).trans (Keep.of_ext hx2 hq h1)
 have hrow : (W'.setCell ⟨mb, 2, none⟩ (.slice A' (bl.length + 1) c')).ownsRow w.heap.size 23 1 (.slice A' (bl.length + 1) c') (bl ++ [r]).length ((bl ++ [r]).map (Value.int .u64)) := by
  have := (Keep.of_ext hx2 hq (by decide)).own ho
  simpa using this
 refine ⟨⟨blk_set hq 2 _, (h.mm.rn.keep hx (fun i hi e => by have := own_base h.mm.rb i e.symm; omega)).keep hx2 (fun i hi e => by have e' : i = mb := e; omega), hrow, by simp, by simp; omega, h.mm.nr, h.mm.nl, fun x hx => ?_, hbm⟩, (h.st.turn hx (fun i hi e => h.pv i e.symm hi) (KeepB.of_ext hx (fun b cs hb e => own_type_ne h.mm.rb hb (by decide) e))).turn hx2 (fun i hi e => h.pm ((show i = mb from e) ▸ hi)) (keep_cells hq hx2 (by decide)), h.ok, h.pb, h.pm, fun g hg' hi => ?_, h.po, (kk _ (by decide) (by decide)).own h.ro, fun j x hj => (h.rk j x hj).keep ⟨kk _ (by decide) (by decide), kk _ (by decide) (by decide), kk _ (by decide) (by decide)⟩, h.wf, ?_⟩
 ·rcases List.mem_append.1 hx with h1 | h1
  ·exact h.mm.br x h1
  ·rw [List.mem_singleton] at h1
   rw [h1]
   exact hr
 ·rcases hn with e | e
  ·exact h.pv g (e ▸ hg') hi
  ·rw [e] at hg'
   injection hg' with hg'
   have := h.st.lt h.ok g hi
   omega
 ·exact below_ext (h.bel.trans (hx.below h.bel.size (fun i hi e => by have := own_base h.mm.rb i e.symm; omega))) hx2 (Nat.le_refl _) hbm
theorem MkRun.snoc (h : MkRun w mb p s k vk ch ns An kn bl bv es gcs A co W) {ev : Ev} {cs : List Value} {A' : Option Addr} {c' : Nat} (he : EvO w.heap.size W ev cs) (hw : ev.wf) (hc : cs.length = 28) (ho : W'.ownsRow w.heap.size 57 28 (.slice A' (es.length + 1) c') (es.length + 1) (gcs ++ cs)) (hg : W.grownBy W' (Value.slice A es.length co).ownBlock)
    (hn : (Value.slice A' (es.length + 1) c').ownBlock = (Value.slice A es.length co).ownBlock ∨ (Value.slice A' (es.length + 1) c').ownBlock = some W.heap.size) : MkRun w mb p s k vk ch ns An kn bl bv (es ++ [ev]) (gcs ++ cs) A' c' W' := by
 have hx : Ext (fun i => some i = (Value.slice A es.length co).ownBlock) W W' := (Ext.refl _ _).grown hg (fun b hb => .inl hb.symm)
 have hbm := h.mm.mb
 have kk : ∀ T : TypeId, 57 ≠ T → Keep T W W' := fun T h2 => Keep.grown h.ro h2 hg
 have hk : Keeps W W' := ⟨kk _ (by decide), kk _ (by decide), kk _ (by decide)⟩
 have hle : (es ++ [ev]).length = es.length + 1 := by simp
 have hgl := h.ro.1
 refine ⟨⟨(kk _ (by decide)) _ _ h.mm.blk, h.mm.rn.keep hx (fun i hi e => by have := own_base h.ro i e.symm; omega), (kk _ (by decide)).own h.mm.rb, h.mm.b0, h.mm.b1, h.mm.nr, h.mm.nl, h.mm.br, hbm⟩, h.st.turn hx (fun i hi e => h.po i e.symm hi) (KeepB.of_ext hx (fun b cs hb e => own_type_ne h.ro hb (by decide) e)), h.ok, h.pb, h.pm, h.pv, fun g hg' hi => ?_, by rw [hle]; exact ho, fun j x hj => ?_, fun x hx => ?_, h.bel.trans (hx.below h.bel.size (fun i hi e => by have := own_base h.ro i e.symm; omega))⟩
 ·rw [hle] at hg'
  rcases hn with e | e
  ·exact h.po g (e ▸ hg') hi
  ·rw [e] at hg'
   injection hg' with hg'
   have := h.st.lt h.ok g hi
   omega
 ·rcases Nat.lt_or_ge j es.length with hj' | hj'
  ·rw [List.getElem?_append_left hj'] at hj
   have h1 : j * 28 + 28 ≤ gcs.length := by rw [hgl]; omega
   rw [List.drop_append_of_le_length (by omega), List.take_append_of_le_length (by rw [List.length_drop]; omega)]
   exact (h.rk j x hj).keep hk
  ·rw [List.getElem?_append_right hj'] at hj
   have h0 : j - es.length < 1 := (List.getElem?_eq_some_iff.1 hj).1
   obtain rfl : j = es.length := by omega
   rw [Nat.sub_self] at hj
   obtain rfl : ev = x := by simpa using hj
   rw [← hgl, List.drop_left, ← hc, List.take_length]
   exact he.keep hk
 ·rcases List.mem_append.1 hx with h1 | h1
  ·exact h.wf x h1
  ·rw [List.mem_singleton] at h1
   rw [h1]
   exact hw
end
theorem MkRun.push_keep {w W W' : World} {mb k vk kn co : Nat} {p : Places} {s : St} {ch bv v : Value} {ns bl : List Int} {An A : Option Addr} {es : List Ev} {gcs : List Value} (h : MkRun w mb p s k vk ch ns An kn bl bv es gcs A co W) (hg : W.grownBy W' bv.ownBlock) {T : TypeId} (h1 : T ≠ 103) (h2 : 23 ≠ T) : Keep T W (W'.setCell ⟨mb, 2, none⟩ v) := by
 have hx : Ext (fun i => some i = bv.ownBlock) W W' := (Ext.refl _ _).grown hg (fun b hb => .inl hb.symm)
 have hq := blk_ext h.mm.blk hx (fun e => own_type_ne h.mm.rb h.mm.blk (by decide) e)
 exact (Keep.grown h.mm.rb h2 hg).trans (Keep.of_ext ((Ext.refl _ _).set1) hq h1)
theorem EvO.weak {B B' : Nat} {w : World} {e : Ev} {cs : List Value} (h : EvO B w e cs) (hb : B' ≤ B) : EvO B' w e cs := by
 obtain ⟨cb, cv, cp, rfl, h1, h2, h3⟩ := h
 exact ⟨cb, cv, cp, rfl, h1.weak hb, h2.weak hb, h3.weak hb⟩
def MkLoop (w : World) (mb sb : Nat) (es : List Ev) (A : Option Addr) (co : Nat) (W : World) : Prop :=
 ∃ (gcs : List Value) (p : Places) (s : St) (k vk : Nat) (ch : Value) (ns : List Int) (An : Option Addr) (kn : Nat) (bl : List Int) (bv : Value), p.sb = sb ∧ bl.length ≤ es.length + 1 ∧ MkRun w mb p s k vk ch ns An kn bl bv es gcs A co W
def lenS : Value → Nat
 | .slice _ n _ => n
 | _ => 0
def RetMake (w : World) (e : Ending) (w' : World) : Prop :=
 ∃ (es : List Ev) (A : Option Addr) (c : Nat), e = .returned (.slice A es.length c) ∧ (∀ e ∈ es, e.wf) ∧ es.length ≤ 120 ∧ Evs (fun b => w.heap.size ≤ b ∧ b < w'.heap.size) w' A es ∧ Below w.heap.size w w'
theorem MkRun.ret {w W : World} {mb k vk kn co : Nat} {p : Places} {s : St} {ch bv : Value} {ns bl : List Int} {An A : Option Addr} {es : List Ev} {gcs : List Value} (h : MkRun w mb p s k vk ch ns An kn bl bv es gcs A co W) (hl : es.length ≤ 120) : RetMake w (.returned (.slice A es.length co)) W := by
 have hE : Evs (fun b => w.heap.size ≤ b) W A es := Lie.mono (Lie.of_own h.ro (by decide) rfl h.rk (fun _ x _ => x) : Lie (fun b => w.heap.size ≤ b) (EvO w.heap.size W) 28 W A es) (fun _ _ _ x => x.k) (fun _ x => x) (fun _ _ _ => rfl)
 exact ⟨es, A, co, rfl, h.wf, hl, hE.lt, h.bel⟩
end Go.Proofs.YtnppimhlfcjghaaGreat
