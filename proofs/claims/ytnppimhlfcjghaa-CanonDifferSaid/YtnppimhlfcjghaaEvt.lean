/- Events as plain data, and how they lie in memory. No program in it. -/
import Derived.Test.YtnppimhlfcjghaaBase
import Derived.Test.YtnppimhlfcjghaaOps
namespace Go.Proofs.Ytnppimhlfcjghaa
open Go.RowKit
structure Pt where
  e : Int
  r : Int
  deriving DecidableEq
structure Vt where
  slot : Int
  head : Int
  src : Pt
  tgt : Pt
  who : List Int
  deriving DecidableEq
structure Pf where
  a : Vt
  b : Vt
  deriving DecidableEq
structure Bk where
  root : Int
  parent : Int
  slot : Int
  votes : List Vt
  proofs : List Pf
  deriving DecidableEq
structure Ev where
  kind : Int
  slot : Int
  block : Bk
  vote : Vt
  proof : Pf
  deriving DecidableEq
def Pt.zero : Pt := ⟨0, 0⟩
def Vt.zero : Vt := ⟨0, 0, Pt.zero, Pt.zero, []⟩
def Pf.zero : Pf := ⟨Vt.zero, Vt.zero⟩
def Bk.zero : Bk := ⟨0, 0, 0, [], []⟩
def Ev.zero : Ev := ⟨0, 0, Bk.zero, Vt.zero, Pf.zero⟩
/-- The numbers fit their kinds. -/
def inI (x : Int) : Prop := -9223372036854775808 ≤ x ∧ x ≤ 9223372036854775807
def inU (x : Int) : Prop := 0 ≤ x ∧ x ≤ 18446744073709551615
def Pt.wf (p : Pt) : Prop := inI p.e ∧ inU p.r
def Vt.wf (v : Vt) : Prop := inI v.slot ∧ inU v.head ∧ v.src.wf ∧ v.tgt.wf ∧ ∀ x ∈ v.who, inI x
def Pf.wf (p : Pf) : Prop := p.a.wf ∧ p.b.wf
def Bk.wf (b : Bk) : Prop := inU b.root ∧ inU b.parent ∧ inI b.slot ∧ (∀ v ∈ b.votes, v.wf) ∧ ∀ p ∈ b.proofs, p.wf
def Ev.wf (e : Ev) : Prop := inI e.kind ∧ inI e.slot ∧ e.block.wf ∧ e.vote.wf ∧ e.proof.wf

/-! ## Cells -/
def ptC (p : Pt) : List Value := [.int .i64 p.e, .int .u64 p.r]
def vtC (v : Vt) (A : Option Addr) (c : Nat) : List Value := [.int .i64 v.slot, .int .u64 v.head, .int .i64 v.src.e, .int .u64 v.src.r, .int .i64 v.tgt.e, .int .u64 v.tgt.r, .slice A v.who.length c]
/-- A slice's length and capacity. -/
def Fits (n c : Nat) : Prop := n ≤ c ∧ n ≤ maxLen
def VtK (ok : Nat → Prop) (w : World) (v : Vt) (cs : List Value) : Prop := ∃ A c, cs = vtC v A c ∧ Fits v.who.length c ∧ Ints ok .i64 w A v.who
def PfK (ok : Nat → Prop) (w : World) (p : Pf) (cs : List Value) : Prop := ∃ ca cb, cs = ca ++ cb ∧ VtK ok w p.a ca ∧ VtK ok w p.b cb
def bkC (b : Bk) (A : Option Addr) (c : Nat) (A2 : Option Addr) (c2 : Nat) : List Value := [.int .u64 b.root, .int .u64 b.parent, .int .i64 b.slot, .slice A b.votes.length c, .slice A2 b.proofs.length c2]
def Vts (ok : Nat → Prop) (w : World) (A : Option Addr) (vs : List Vt) : Prop := Lie ok (VtK ok w) 7 w A vs
def Pfs (ok : Nat → Prop) (w : World) (A : Option Addr) (ps : List Pf) : Prop := Lie ok (PfK ok w) 14 w A ps
def BkK (ok : Nat → Prop) (w : World) (b : Bk) (cs : List Value) : Prop := ∃ A c A2 c2, cs = bkC b A c A2 c2 ∧ Fits b.votes.length c ∧ Fits b.proofs.length c2 ∧ Vts ok w A b.votes ∧ Pfs ok w A2 b.proofs
def EvK (ok : Nat → Prop) (w : World) (e : Ev) (cs : List Value) : Prop := ∃ cb cv cp, cs = .int .i64 e.kind :: .int .i64 e.slot :: (cb ++ (cv ++ cp)) ∧ BkK ok w e.block cb ∧ VtK ok w e.vote cv ∧ PfK ok w e.proof cp
def Evs (ok : Nat → Prop) (w : World) (A : Option Addr) (es : List Ev) : Prop := Lie ok (EvK ok w) 28 w A es

section
variable {ok ok' : Nat → Prop} {w w' : World}
theorem VtK.mono {v : Vt} {cs : List Value} (h : VtK ok w v cs) (ho : ∀ b, ok b → ok' b) (hw : ∀ b, ok b → b < w.heap.size → w'.heap[b]? = w.heap[b]?) : VtK ok' w' v cs := by
  obtain ⟨A, c, rfl, hf, hi⟩ := h
  exact ⟨A, c, rfl, hf, Lie.mono hi (fun _ _ _ x => x) ho hw⟩
theorem PfK.mono {p : Pf} {cs : List Value} (h : PfK ok w p cs) (ho : ∀ b, ok b → ok' b) (hw : ∀ b, ok b → b < w.heap.size → w'.heap[b]? = w.heap[b]?) : PfK ok' w' p cs := by
  obtain ⟨ca, cb, rfl, h1, h2⟩ := h
  exact ⟨ca, cb, rfl, h1.mono ho hw, h2.mono ho hw⟩
theorem Vts.mono {A : Option Addr} {vs : List Vt} (h : Vts ok w A vs) (ho : ∀ b, ok b → ok' b) (hw : ∀ b, ok b → b < w.heap.size → w'.heap[b]? = w.heap[b]?) : Vts ok' w' A vs :=
  Lie.mono h (fun _ _ _ x => x.mono ho hw) ho hw
theorem Pfs.mono {A : Option Addr} {vs : List Pf} (h : Pfs ok w A vs) (ho : ∀ b, ok b → ok' b) (hw : ∀ b, ok b → b < w.heap.size → w'.heap[b]? = w.heap[b]?) : Pfs ok' w' A vs :=
  Lie.mono h (fun _ _ _ x => x.mono ho hw) ho hw
theorem BkK.mono {b : Bk} {cs : List Value} (h : BkK ok w b cs) (ho : ∀ b, ok b → ok' b) (hw : ∀ b, ok b → b < w.heap.size → w'.heap[b]? = w.heap[b]?) : BkK ok' w' b cs := by
  obtain ⟨A, c, A2, c2, rfl, h1, h2, h3, h4⟩ := h
  exact ⟨A, c, A2, c2, rfl, h1, h2, h3.mono ho hw, h4.mono ho hw⟩
theorem EvK.mono {e : Ev} {cs : List Value} (h : EvK ok w e cs) (ho : ∀ b, ok b → ok' b) (hw : ∀ b, ok b → b < w.heap.size → w'.heap[b]? = w.heap[b]?) : EvK ok' w' e cs := by
  obtain ⟨cb, cv, cp, rfl, h1, h2, h3⟩ := h
  exact ⟨cb, cv, cp, rfl, h1.mono ho hw, h2.mono ho hw, h3.mono ho hw⟩
theorem Evs.mono {A : Option Addr} {es : List Ev} (h : Evs ok w A es) (ho : ∀ b, ok b → ok' b) (hw : ∀ b, ok b → b < w.heap.size → w'.heap[b]? = w.heap[b]?) : Evs ok' w' A es :=
  Lie.mono h (fun _ _ _ x => x.mono ho hw) ho hw
/-- A vote's seven cells, from an offset on. -/
def VtAt (w : World) (b o : Nat) (v : Vt) (A : Option Addr) (c : Nat) : Prop :=
  w.cell? ⟨b, o, none⟩ = some (.int .i64 v.slot) ∧ w.cell? ⟨b, o + 1, none⟩ = some (.int .u64 v.head) ∧ w.cell? ⟨b, o + 2, none⟩ = some (.int .i64 v.src.e) ∧ w.cell? ⟨b, o + 3, none⟩ = some (.int .u64 v.src.r) ∧
  w.cell? ⟨b, o + 4, none⟩ = some (.int .i64 v.tgt.e) ∧ w.cell? ⟨b, o + 5, none⟩ = some (.int .u64 v.tgt.r) ∧ w.cell? ⟨b, o + 6, none⟩ = some (.slice A v.who.length c)
theorem VtAt.below {b o : Nat} {v : Vt} {A : Option Addr} {c : Nat} (h : VtAt w b o v A c) (hb : Below w.heap.size w w') : VtAt w' b o v A c := by
  obtain ⟨h0, h1, h2, h3, h4, h5, h6⟩ := h
  exact ⟨cell_below h0 hb, cell_below h1 hb, cell_below h2 hb, cell_below h3 hb, cell_below h4 hb, cell_below h5 hb, cell_below h6 hb⟩
theorem VtAt.ext {F : Nat → Prop} {b o : Nat} {v : Vt} {A : Option Addr} {c : Nat} (h : VtAt w b o v A c) (hb : Ext F w w') (hF : ¬ F b) : VtAt w' b o v A c := by
  obtain ⟨h0, h1, h2, h3, h4, h5, h6⟩ := h
  exact ⟨cell_ext h0 hb hF, cell_ext h1 hb hF, cell_ext h2 hb hF, cell_ext h3 hb hF, cell_ext h4 hb hF, cell_ext h5 hb hF, cell_ext h6 hb hF⟩
theorem VtK.at_ {v : Vt} {cs : List Value} (h : VtK ok w v cs) {b o : Nat} (hu : ∀ i u, cs[i]? = some u → w.cell? ⟨b, o + i, none⟩ = some u) : ∃ A c, Fits v.who.length c ∧ Ints ok .i64 w A v.who ∧ VtAt w b o v A c := by
  obtain ⟨A, c, rfl, hf, hi⟩ := h
  exact ⟨A, c, hf, hi, hu 0 _ rfl, hu 1 _ rfl, hu 2 _ rfl, hu 3 _ rfl, hu 4 _ rfl, hu 5 _ rfl, hu 6 _ rfl⟩
theorem Vts.get {A : Option Addr} {vs : List Vt} (h : Vts ok w A vs) {k : Nat} {v : Vt} (hk : vs[k]? = some v) : ∃ b o, A = some ⟨b, o, none⟩ ∧ ok b ∧ ∃ A' c', Fits v.who.length c' ∧ Ints ok .i64 w A' v.who ∧ VtAt w b (o + k * 7) v A' c' := by
  obtain ⟨b, o, cs, rfl, hb, hK, _, hu⟩ := Lie.get h hk
  exact ⟨b, o, rfl, hb, hK.at_ (fun i u hi => by rw [Nat.add_assoc]; exact hu i u hi)⟩
theorem Pfs.get {A : Option Addr} {vs : List Pf} (h : Pfs ok w A vs) {k : Nat} {v : Pf} (hk : vs[k]? = some v) : ∃ b o, A = some ⟨b, o, none⟩ ∧ ok b ∧
    ∃ A1 c1 A2 c2, Fits v.a.who.length c1 ∧ Ints ok .i64 w A1 v.a.who ∧ VtAt w b (o + k * 14) v.a A1 c1 ∧ Fits v.b.who.length c2 ∧ Ints ok .i64 w A2 v.b.who ∧ VtAt w b (o + k * 14 + 7) v.b A2 c2 := by
  obtain ⟨b, o, cs, rfl, hb, ⟨ca, cb, rfl, h1, h2⟩, _, hu⟩ := Lie.get h hk
  obtain ⟨A1, c1, f1, i1, a1⟩ := h1.at_ (b := b) (o := o + k * 14) (fun i u hi => by
    rw [Nat.add_assoc]; exact hu i u (by rw [List.getElem?_append_left (List.getElem?_eq_some_iff.1 hi).1]; exact hi))
  have hl : ca.length = 7 := by obtain ⟨A, c, rfl, _⟩ := h1; rfl
  obtain ⟨A2, c2, f2, i2, a2⟩ := h2.at_ (b := b) (o := o + k * 14 + 7) (fun i u hi => by
    rw [show o + k * 14 + 7 + i = o + (k * 14 + (7 + i)) from by omega]; exact hu (7 + i) u (by rw [List.getElem?_append_right (by omega), hl]; simpa using hi))
  exact ⟨b, o, rfl, hb, A1, c1, A2, c2, f1, i1, a1, f2, i2, a2⟩
/-- An event's twenty-eight cells. -/
def EvAt (w : World) (b o : Nat) (e : Ev) (A1 : Option Addr) (c1 : Nat) (A2 : Option Addr) (c2 : Nat) (A3 : Option Addr) (c3 : Nat) (A4 : Option Addr) (c4 : Nat) (A5 : Option Addr) (c5 : Nat) : Prop :=
  (w.cell? ⟨b, o, none⟩ = some (.int .i64 e.kind) ∧ w.cell? ⟨b, o + 1, none⟩ = some (.int .i64 e.slot) ∧ w.cell? ⟨b, o + 2, none⟩ = some (.int .u64 e.block.root) ∧ w.cell? ⟨b, o + 3, none⟩ = some (.int .u64 e.block.parent) ∧
    w.cell? ⟨b, o + 4, none⟩ = some (.int .i64 e.block.slot) ∧ w.cell? ⟨b, o + 5, none⟩ = some (.slice A1 e.block.votes.length c1) ∧ w.cell? ⟨b, o + 6, none⟩ = some (.slice A2 e.block.proofs.length c2)) ∧
  VtAt w b (o + 7) e.vote A3 c3 ∧ VtAt w b (o + 14) e.proof.a A4 c4 ∧ VtAt w b (o + 21) e.proof.b A5 c5
theorem EvAt.below {b o : Nat} {e : Ev} {A1 A2 A3 A4 A5 : Option Addr} {c1 c2 c3 c4 c5 : Nat} (h : EvAt w b o e A1 c1 A2 c2 A3 c3 A4 c4 A5 c5) (hb : Below w.heap.size w w') : EvAt w' b o e A1 c1 A2 c2 A3 c3 A4 c4 A5 c5 := by
  obtain ⟨⟨h0, h1, h2, h3, h4, h5, h6⟩, h7, h8, h9⟩ := h
  exact ⟨⟨cell_below h0 hb, cell_below h1 hb, cell_below h2 hb, cell_below h3 hb, cell_below h4 hb, cell_below h5 hb, cell_below h6 hb⟩, h7.below hb, h8.below hb, h9.below hb⟩
theorem EvAt.ext {F : Nat → Prop} {b o : Nat} {e : Ev} {A1 A2 A3 A4 A5 : Option Addr} {c1 c2 c3 c4 c5 : Nat} (h : EvAt w b o e A1 c1 A2 c2 A3 c3 A4 c4 A5 c5) (hb : Ext F w w') (hF : ¬ F b) : EvAt w' b o e A1 c1 A2 c2 A3 c3 A4 c4 A5 c5 := by
  obtain ⟨⟨h0, h1, h2, h3, h4, h5, h6⟩, h7, h8, h9⟩ := h
  exact ⟨⟨cell_ext h0 hb hF, cell_ext h1 hb hF, cell_ext h2 hb hF, cell_ext h3 hb hF, cell_ext h4 hb hF, cell_ext h5 hb hF, cell_ext h6 hb hF⟩, h7.ext hb hF, h8.ext hb hF, h9.ext hb hF⟩
/-- What an event's slices hold. -/
structure EvR (ok : Nat → Prop) (w : World) (e : Ev) (A1 : Option Addr) (c1 : Nat) (A2 : Option Addr) (c2 : Nat) (A3 : Option Addr) (c3 : Nat) (A4 : Option Addr) (c4 : Nat) (A5 : Option Addr) (c5 : Nat) : Prop where
  f1 : Fits e.block.votes.length c1
  f2 : Fits e.block.proofs.length c2
  f3 : Fits e.vote.who.length c3
  f4 : Fits e.proof.a.who.length c4
  f5 : Fits e.proof.b.who.length c5
  r1 : Vts ok w A1 e.block.votes
  r2 : Pfs ok w A2 e.block.proofs
  r3 : Ints ok .i64 w A3 e.vote.who
  r4 : Ints ok .i64 w A4 e.proof.a.who
  r5 : Ints ok .i64 w A5 e.proof.b.who
theorem EvR.mono {e : Ev} {A1 A2 A3 A4 A5 : Option Addr} {c1 c2 c3 c4 c5 : Nat} (h : EvR ok w e A1 c1 A2 c2 A3 c3 A4 c4 A5 c5) (ho : ∀ b, ok b → ok' b) (hw : ∀ b, ok b → b < w.heap.size → w'.heap[b]? = w.heap[b]?) : EvR ok' w' e A1 c1 A2 c2 A3 c3 A4 c4 A5 c5 :=
  ⟨h.f1, h.f2, h.f3, h.f4, h.f5, h.r1.mono ho hw, h.r2.mono ho hw, Lie.mono h.r3 (fun _ _ _ x => x) ho hw, Lie.mono h.r4 (fun _ _ _ x => x) ho hw, Lie.mono h.r5 (fun _ _ _ x => x) ho hw⟩
theorem EvR.below {e : Ev} {A1 A2 A3 A4 A5 : Option Addr} {c1 c2 c3 c4 c5 : Nat} (h : EvR ok w e A1 c1 A2 c2 A3 c3 A4 c4 A5 c5) (hb : Below w.heap.size w w') : EvR ok w' e A1 c1 A2 c2 A3 c3 A4 c4 A5 c5 := h.mono (fun _ x => x) (fun b _ => hb.block b)
theorem EvR.any {e : Ev} {A1 A2 A3 A4 A5 : Option Addr} {c1 c2 c3 c4 c5 : Nat} (h : EvR ok w e A1 c1 A2 c2 A3 c3 A4 c4 A5 c5) : EvR anyB w e A1 c1 A2 c2 A3 c3 A4 c4 A5 c5 := h.mono (fun _ _ => trivial) (fun _ _ _ => rfl)
theorem EvK.open_ {e : Ev} {cs : List Value} (h : EvK ok w e cs) : ∃ A1 c1 A2 c2 A3 c3 A4 c4 A5 c5, EvR ok w e A1 c1 A2 c2 A3 c3 A4 c4 A5 c5 ∧ cs = [.int .i64 e.kind, .int .i64 e.slot, .int .u64 e.block.root, .int .u64 e.block.parent, .int .i64 e.block.slot, .slice A1 e.block.votes.length c1, .slice A2 e.block.proofs.length c2, .int .i64 e.vote.slot, .int .u64 e.vote.head, .int .i64 e.vote.src.e, .int .u64 e.vote.src.r, .int .i64 e.vote.tgt.e, .int .u64 e.vote.tgt.r, .slice A3 e.vote.who.length c3, .int .i64 e.proof.a.slot, .int .u64 e.proof.a.head, .int .i64 e.proof.a.src.e, .int .u64 e.proof.a.src.r, .int .i64 e.proof.a.tgt.e, .int .u64 e.proof.a.tgt.r, .slice A4 e.proof.a.who.length c4, .int .i64 e.proof.b.slot, .int .u64 e.proof.b.head, .int .i64 e.proof.b.src.e, .int .u64 e.proof.b.src.r, .int .i64 e.proof.b.tgt.e, .int .u64 e.proof.b.tgt.r, .slice A5 e.proof.b.who.length c5] := by
  obtain ⟨cb, cv, cp, rfl, ⟨A1, c1, A2, c2, rfl, f1, f2, r1, r2⟩, ⟨A3, c3, rfl, f3, r3⟩, ⟨ca, cb, rfl, ⟨A4, c4, rfl, f4, r4⟩, ⟨A5, c5, rfl, f5, r5⟩⟩⟩ := h
  exact ⟨A1, c1, A2, c2, A3, c3, A4, c4, A5, c5, ⟨f1, f2, f3, f4, f5, r1, r2, r3, r4, r5⟩, rfl⟩
theorem EvK.shut {e : Ev} {A1 A2 A3 A4 A5 : Option Addr} {c1 c2 c3 c4 c5 : Nat} (h : EvR ok w e A1 c1 A2 c2 A3 c3 A4 c4 A5 c5) : EvK ok w e [.int .i64 e.kind, .int .i64 e.slot, .int .u64 e.block.root, .int .u64 e.block.parent, .int .i64 e.block.slot, .slice A1 e.block.votes.length c1, .slice A2 e.block.proofs.length c2, .int .i64 e.vote.slot, .int .u64 e.vote.head, .int .i64 e.vote.src.e, .int .u64 e.vote.src.r, .int .i64 e.vote.tgt.e, .int .u64 e.vote.tgt.r, .slice A3 e.vote.who.length c3, .int .i64 e.proof.a.slot, .int .u64 e.proof.a.head, .int .i64 e.proof.a.src.e, .int .u64 e.proof.a.src.r, .int .i64 e.proof.a.tgt.e, .int .u64 e.proof.a.tgt.r, .slice A4 e.proof.a.who.length c4, .int .i64 e.proof.b.slot, .int .u64 e.proof.b.head, .int .i64 e.proof.b.src.e, .int .u64 e.proof.b.src.r, .int .i64 e.proof.b.tgt.e, .int .u64 e.proof.b.tgt.r, .slice A5 e.proof.b.who.length c5] :=
  ⟨_, _, _, rfl, ⟨A1, c1, A2, c2, rfl, h.f1, h.f2, h.r1, h.r2⟩, ⟨A3, c3, rfl, h.f3, h.r3⟩, ⟨_, _, rfl, ⟨A4, c4, rfl, h.f4, h.r4⟩, ⟨A5, c5, rfl, h.f5, h.r5⟩⟩⟩
theorem EvAt.of_cells {e : Ev} {A1 A2 A3 A4 A5 : Option Addr} {c1 c2 c3 c4 c5 : Nat} {b o : Nat} (hu : ∀ i u, ([.int .i64 e.kind, .int .i64 e.slot, .int .u64 e.block.root, .int .u64 e.block.parent, .int .i64 e.block.slot, .slice A1 e.block.votes.length c1, .slice A2 e.block.proofs.length c2, .int .i64 e.vote.slot, .int .u64 e.vote.head, .int .i64 e.vote.src.e, .int .u64 e.vote.src.r, .int .i64 e.vote.tgt.e, .int .u64 e.vote.tgt.r, .slice A3 e.vote.who.length c3, .int .i64 e.proof.a.slot, .int .u64 e.proof.a.head, .int .i64 e.proof.a.src.e, .int .u64 e.proof.a.src.r, .int .i64 e.proof.a.tgt.e, .int .u64 e.proof.a.tgt.r, .slice A4 e.proof.a.who.length c4, .int .i64 e.proof.b.slot, .int .u64 e.proof.b.head, .int .i64 e.proof.b.src.e, .int .u64 e.proof.b.src.r, .int .i64 e.proof.b.tgt.e, .int .u64 e.proof.b.tgt.r, .slice A5 e.proof.b.who.length c5] : List Value)[i]? = some u → w.cell? ⟨b, o + i, none⟩ = some u) : EvAt w b o e A1 c1 A2 c2 A3 c3 A4 c4 A5 c5 :=
  ⟨⟨hu 0 _ rfl, hu 1 _ rfl, hu 2 _ rfl, hu 3 _ rfl, hu 4 _ rfl, hu 5 _ rfl, hu 6 _ rfl⟩, ⟨hu 7 _ rfl, hu 8 _ rfl, hu 9 _ rfl, hu 10 _ rfl, hu 11 _ rfl, hu 12 _ rfl, hu 13 _ rfl⟩,
   ⟨hu 14 _ rfl, hu 15 _ rfl, hu 16 _ rfl, hu 17 _ rfl, hu 18 _ rfl, hu 19 _ rfl, hu 20 _ rfl⟩, ⟨hu 21 _ rfl, hu 22 _ rfl, hu 23 _ rfl, hu 24 _ rfl, hu 25 _ rfl, hu 26 _ rfl, hu 27 _ rfl⟩⟩
theorem EvAt.blk {e : Ev} {A1 A2 A3 A4 A5 : Option Addr} {c1 c2 c3 c4 c5 : Nat} {b : Nat} {t : TypeId} {f : Nat × Nat} (h : w.heap[b]? = some (.cells #[.int .i64 e.kind, .int .i64 e.slot, .int .u64 e.block.root, .int .u64 e.block.parent, .int .i64 e.block.slot, .slice A1 e.block.votes.length c1, .slice A2 e.block.proofs.length c2, .int .i64 e.vote.slot, .int .u64 e.vote.head, .int .i64 e.vote.src.e, .int .u64 e.vote.src.r, .int .i64 e.vote.tgt.e, .int .u64 e.vote.tgt.r, .slice A3 e.vote.who.length c3, .int .i64 e.proof.a.slot, .int .u64 e.proof.a.head, .int .i64 e.proof.a.src.e, .int .u64 e.proof.a.src.r, .int .i64 e.proof.a.tgt.e, .int .u64 e.proof.a.tgt.r, .slice A4 e.proof.a.who.length c4, .int .i64 e.proof.b.slot, .int .u64 e.proof.b.head, .int .i64 e.proof.b.src.e, .int .u64 e.proof.b.src.r, .int .i64 e.proof.b.tgt.e, .int .u64 e.proof.b.tgt.r, .slice A5 e.proof.b.who.length c5] t f)) : EvAt w b 0 e A1 c1 A2 c2 A3 c3 A4 c4 A5 c5 :=
  EvAt.of_cells (fun i u hi => by rw [blk_cell h]; simpa using hi)
theorem Evs.get {A : Option Addr} {es : List Ev} (h : Evs ok w A es) {k : Nat} {e : Ev} (hk : es[k]? = some e) : ∃ b o, A = some ⟨b, o, none⟩ ∧ ok b ∧ ∃ A1 c1 A2 c2 A3 c3 A4 c4 A5 c5, EvR ok w e A1 c1 A2 c2 A3 c3 A4 c4 A5 c5 ∧ w.rangeAt b (o + k * 28) [.int .i64 e.kind, .int .i64 e.slot, .int .u64 e.block.root, .int .u64 e.block.parent, .int .i64 e.block.slot, .slice A1 e.block.votes.length c1, .slice A2 e.block.proofs.length c2, .int .i64 e.vote.slot, .int .u64 e.vote.head, .int .i64 e.vote.src.e, .int .u64 e.vote.src.r, .int .i64 e.vote.tgt.e, .int .u64 e.vote.tgt.r, .slice A3 e.vote.who.length c3, .int .i64 e.proof.a.slot, .int .u64 e.proof.a.head, .int .i64 e.proof.a.src.e, .int .u64 e.proof.a.src.r, .int .i64 e.proof.a.tgt.e, .int .u64 e.proof.a.tgt.r, .slice A4 e.proof.a.who.length c4, .int .i64 e.proof.b.slot, .int .u64 e.proof.b.head, .int .i64 e.proof.b.src.e, .int .u64 e.proof.b.src.r, .int .i64 e.proof.b.tgt.e, .int .u64 e.proof.b.tgt.r, .slice A5 e.proof.b.who.length c5] := by
  obtain ⟨b, o, cs, rfl, hb, hK, _, hu⟩ := Lie.get h hk
  obtain ⟨A1, c1, A2, c2, A3, c3, A4, c4, A5, c5, hr, rfl⟩ := hK.open_
  exact ⟨b, o, rfl, hb, A1, c1, A2, c2, A3, c3, A4, c4, A5, c5, hr, fun i u hi => by rw [Nat.add_assoc]; exact hu i u hi⟩
theorem VtK.lt {v : Vt} {cs : List Value} (h : VtK ok w v cs) : VtK (fun b => ok b ∧ b < w.heap.size) w v cs := by
  obtain ⟨A, c, rfl, hf, hi⟩ := h
  exact ⟨A, c, rfl, hf, Lie.lt hi (by decide)⟩
theorem PfK.lt {p : Pf} {cs : List Value} (h : PfK ok w p cs) : PfK (fun b => ok b ∧ b < w.heap.size) w p cs := by
  obtain ⟨ca, cb, rfl, h1, h2⟩ := h
  exact ⟨ca, cb, rfl, h1.lt, h2.lt⟩
theorem Vts.lt {A : Option Addr} {vs : List Vt} (h : Vts ok w A vs) : Vts (fun b => ok b ∧ b < w.heap.size) w A vs := Lie.mono (Lie.lt h (by decide)) (fun _ _ _ x => x.lt) (fun _ x => x) (fun _ _ _ => rfl)
theorem Pfs.lt {A : Option Addr} {vs : List Pf} (h : Pfs ok w A vs) : Pfs (fun b => ok b ∧ b < w.heap.size) w A vs := Lie.mono (Lie.lt h (by decide)) (fun _ _ _ x => x.lt) (fun _ x => x) (fun _ _ _ => rfl)
theorem BkK.lt {b : Bk} {cs : List Value} (h : BkK ok w b cs) : BkK (fun b => ok b ∧ b < w.heap.size) w b cs := by
  obtain ⟨A, c, A2, c2, rfl, h1, h2, h3, h4⟩ := h
  exact ⟨A, c, A2, c2, rfl, h1, h2, h3.lt, h4.lt⟩
theorem EvK.lt {e : Ev} {cs : List Value} (h : EvK ok w e cs) : EvK (fun b => ok b ∧ b < w.heap.size) w e cs := by
  obtain ⟨cb, cv, cp, rfl, h1, h2, h3⟩ := h
  exact ⟨cb, cv, cp, rfl, h1.lt, h2.lt, h3.lt⟩
theorem Evs.lt {A : Option Addr} {es : List Ev} (h : Evs ok w A es) : Evs (fun b => ok b ∧ b < w.heap.size) w A es := Lie.mono (Lie.lt h (by decide)) (fun _ _ _ x => x.lt) (fun _ x => x) (fun _ _ _ => rfl)
theorem VtK.one {v : Vt} {cs : List Value} (h : VtK ok w v cs) : ∀ u ∈ cs, u.oneCell' = true := by
  obtain ⟨A, c, rfl, _⟩ := h
  simp [vtC, Value.oneCell']
theorem EvK.one {e : Ev} {cs : List Value} (h : EvK ok w e cs) : ∀ u ∈ cs, u.oneCell' = true := by
  obtain ⟨cb, cv, cp, rfl, ⟨A1, c1, A2, c2, rfl, _⟩, h2, ⟨ca, cb, rfl, h3, h4⟩⟩ := h
  have h2 := h2.one
  have h3 := h3.one
  have h4 := h4.one
  intro u hu
  simp only [List.mem_cons, List.mem_append, bkC, List.not_mem_nil, or_false] at hu
  rcases hu with rfl | rfl | (rfl | rfl | rfl | rfl | rfl) | hu | hu | hu
  · rfl
  · rfl
  · rfl
  · rfl
  · rfl
  · rfl
  · rfl
  · exact h2 u hu
  · exact h3 u hu
  · exact h4 u hu
theorem VtK.any {v : Vt} {cs : List Value} (h : VtK ok w v cs) : VtK anyB w v cs := h.mono (fun _ _ => trivial) (fun _ _ _ => rfl)
theorem PfK.any {v : Pf} {cs : List Value} (h : PfK ok w v cs) : PfK anyB w v cs := h.mono (fun _ _ => trivial) (fun _ _ _ => rfl)
theorem BkK.any {v : Bk} {cs : List Value} (h : BkK ok w v cs) : BkK anyB w v cs := h.mono (fun _ _ => trivial) (fun _ _ _ => rfl)
theorem EvK.any {v : Ev} {cs : List Value} (h : EvK ok w v cs) : EvK anyB w v cs := h.mono (fun _ _ => trivial) (fun _ _ _ => rfl)
theorem Vts.any {A : Option Addr} {vs : List Vt} (h : Vts ok w A vs) : Vts anyB w A vs := h.mono (fun _ _ => trivial) (fun _ _ _ => rfl)
theorem Pfs.any {A : Option Addr} {vs : List Pf} (h : Pfs ok w A vs) : Pfs anyB w A vs := h.mono (fun _ _ => trivial) (fun _ _ _ => rfl)
theorem Evs.any {A : Option Addr} {es : List Ev} (h : Evs ok w A es) : Evs anyB w A es := h.mono (fun _ _ => trivial) (fun _ _ _ => rfl)
theorem VtK.below {v : Vt} {cs : List Value} (h : VtK ok w v cs) (hb : Below w.heap.size w w') : VtK ok w' v cs := h.mono (fun _ x => x) (fun b _ => hb.block b)
theorem PfK.below {p : Pf} {cs : List Value} (h : PfK ok w p cs) (hb : Below w.heap.size w w') : PfK ok w' p cs := h.mono (fun _ x => x) (fun b _ => hb.block b)
theorem Vts.below {A : Option Addr} {vs : List Vt} (h : Vts ok w A vs) (hb : Below w.heap.size w w') : Vts ok w' A vs := h.mono (fun _ x => x) (fun b _ => hb.block b)
theorem Pfs.below {A : Option Addr} {vs : List Pf} (h : Pfs ok w A vs) (hb : Below w.heap.size w w') : Pfs ok w' A vs := h.mono (fun _ x => x) (fun b _ => hb.block b)
theorem BkK.below {b : Bk} {cs : List Value} (h : BkK ok w b cs) (hb : Below w.heap.size w w') : BkK ok w' b cs := h.mono (fun _ x => x) (fun b _ => hb.block b)
theorem EvK.below {e : Ev} {cs : List Value} (h : EvK ok w e cs) (hb : Below w.heap.size w w') : EvK ok w' e cs := h.mono (fun _ x => x) (fun b _ => hb.block b)
theorem Evs.below {A : Option Addr} {es : List Ev} (h : Evs ok w A es) (hb : Below w.heap.size w w') : Evs ok w' A es := h.mono (fun _ x => x) (fun b _ => hb.block b)
end
end Go.Proofs.Ytnppimhlfcjghaa
