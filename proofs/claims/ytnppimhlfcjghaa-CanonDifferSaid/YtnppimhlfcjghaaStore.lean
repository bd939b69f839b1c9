/- The store in memory. -/
import Derived.Test.YtnppimhlfcjghaaAdv
import Derived.Test.YtnppimhlfcjghaaTree
import Derived.Test.YtnppimhlfcjghaaLatest
namespace Go.Proofs.Ytnppimhlfcjghaa
open Go.RowKit
set_option maxRecDepth 100000
/-- Where a store lies: itself, its tree, the tree's map, its votes, its ledgers, what is gone, its balances. -/
structure Places where
  sb : Nat
  tb : Nat
  nb : Nat
  vb : Nat
  lb : Nat
  gb : Nat
  bb : Nat
def Places.all (p : Places) : List Nat := [p.sb, p.tb, p.nb, p.vb, p.lb, p.gb, p.bb]
def Places.has (p : Places) (i : Nat) : Prop := i = p.sb ∨ i = p.tb ∨ i = p.nb ∨ i = p.vb ∨ i = p.lb ∨ i = p.gb
def stC (p : Places) (s : St) (k vk : Nat) (ch : Value) : List Value :=
  [.slice (some ⟨p.bb, 0, none⟩) s.c.bal.length k, .int .i64 s.c.slots, .int .i64 s.c.boost, .pointer (some ⟨p.tb, 0, none⟩), .slice (some ⟨p.vb, 0, none⟩) s.votes.length vk, .int .i64 s.slot, .int .u64 s.boosted,
    .int .i64 s.just.e, .int .u64 s.just.r, .int .i64 s.fin.e, .int .u64 s.fin.r, .map (some p.lb), .map (some p.gb), ch]
/-- A ledger's value. -/
def LsK (w : World) (l : Ls) (v : Value) : Prop := ∃ A k A2 k2, v = .agg #[.bool l.j.b0, .bool l.j.b1, .bool l.j.b2, .bool l.j.b3, .int .i64 l.j.prev.e, .int .u64 l.j.prev.r, .int .i64 l.j.cur.e, .int .u64 l.j.cur.r, .int .i64 l.j.fin.e, .int .u64 l.j.fin.r, .int .i64 l.epoch, .slice A l.before.length k, .slice A2 l.now.length k2] ∧ LsR w l A A2
theorem LsK.below {w w' : World} {l : Ls} {v : Value} (h : LsK w l v) (hb : Below w.heap.size w w') : LsK w' l v := by
  obtain ⟨A, k, A2, k2, rfl, hr⟩ := h
  exact ⟨A, k, A2, k2, rfl, hr.below hb⟩
/-- Blocks of bools stay. -/
def KeepB (w w' : World) : Prop := ∀ (b : Nat) (cs : Array Value), w.heap[b]? = some (.cells cs 4 (0, 0)) → w'.heap[b]? = some (.cells cs 4 (0, 0))
theorem KeepB.refl (w : World) : KeepB w w := fun _ _ h => h
theorem KeepB.trans {a b c : World} (h : KeepB a b) (k : KeepB b c) : KeepB a c := fun i cs hi => k i cs (h i cs hi)
theorem KeepB.of_below {w w' : World} (h : Below w.heap.size w w') : KeepB w w' := fun _ _ hi => blk_below hi h
theorem KeepB.of_ext {w w' : World} {F : Nat → Prop} (h : Ext F w w') (hF : ∀ b cs, w.heap[b]? = some (.cells cs 4 (0, 0)) → ¬ F b) : KeepB w w' := fun b cs hi => blk_ext hi h (hF b cs hi)
theorem BoolsR.keep {w w' : World} {A : Option Addr} {xs : List Bool} (h : BoolsR w A xs) (hb : KeepB w w') : BoolsR w' A xs := by
  obtain ⟨b, cs, rfl, h1, h2⟩ := h
  exact ⟨b, cs, rfl, hb b cs h1, h2⟩
theorem LsK.keep {w w' : World} {l : Ls} {v : Value} (h : LsK w l v) (hb : KeepB w w') : LsK w' l v := by
  obtain ⟨A, k, A2, k2, rfl, hr⟩ := h
  exact ⟨A, k, A2, k2, rfl, ⟨hr.b.keep hb, hr.n.keep hb⟩⟩
def LedAt (w : World) (lb : Nat) (ls : List (Int × Ls)) : Prop := ∃ kvs, MapAt w lb kvs ∧ Rel2 (LsK w) ls kvs
theorem LedAt.below {w w' : World} {lb : Nat} {ls : List (Int × Ls)} (h : LedAt w lb ls) (hb : Below w.heap.size w w') : LedAt w' lb ls := by
  obtain ⟨kvs, h1, h2⟩ := h
  exact ⟨kvs, h1.below hb, h2.mono (fun _ _ h => h.below hb)⟩
theorem LedAt.ext {w w' : World} {lb : Nat} {ls : List (Int × Ls)} {F : Nat → Prop} (h : LedAt w lb ls) (hb : Ext F w w') (hF : ¬ F lb) (hk : KeepB w w') : LedAt w' lb ls := by
  obtain ⟨kvs, h1, h2⟩ := h
  exact ⟨kvs, h1.ext hb hF, h2.mono (fun _ _ h => h.keep hk)⟩
def goneKV (g : List (Int × Bool)) : List (Int × Value) := g.map fun p => (p.1, .bool p.2)
structure StoreAt (w : World) (p : Places) (s : St) (k vk : Nat) (ch : Value) : Prop where
  blk : w.heap[p.sb]? = some (.cells (stC p s k vk ch).toArray 52 (0, 0))
  bal : Ints (fun b => b = p.bb) .u64 w (some ⟨p.bb, 0, none⟩) s.c.bal
  tree : TreeAt w p.tb p.nb s.tree
  votes : VotesAt w p.vb s.votes
  led : LedAt w p.lb s.ledgers
  gone : MapAt w p.gb (goneKV s.gone)
  nd : p.all.Nodup
theorem StoreAt.below {w w' : World} {p : Places} {s : St} {k vk : Nat} {ch : Value} (h : StoreAt w p s k vk ch) (hb : Below w.heap.size w w') : StoreAt w' p s k vk ch :=
  ⟨blk_below h.blk hb, h.bal.below hb, h.tree.below hb, h.votes.below hb, h.led.below hb, h.gone.below hb, h.nd⟩
end Go.Proofs.Ytnppimhlfcjghaa
