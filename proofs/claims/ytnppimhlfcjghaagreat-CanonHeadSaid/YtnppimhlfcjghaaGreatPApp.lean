import Derived.Test.YtnppimhlfcjghaaGreatPAdv
import Derived.Test.YtnppimhlfcjghaaGreatPStoreOf
import Derived.Test.YtnppimhlfcjghaaGreatPOpsK
set_option linter.all false
set_option linter.unusedVariables false
set_option linter.unusedSimpArgs false
namespace Go.Proofs.YtnppimhlfcjghaaGreat
open Go.RowKit
set_option maxRecDepth 100000
def chgC (c : Chg) : List Value := [.int .i64 c.kind, .int .u64 c.root, .int .u64 c.parent, .int .i64 c.who, .int .u64 c.frm, .bool c.had]
def KeepN (w w' : World) : Prop := ∀ (b : Nat) (cs : Array Value) (t : TypeId), t ≠ 140 → t ≠ 43 → t ≠ 120 → t ≠ 114 → w.heap[b]? = some (.cells cs t (0, 0)) → w'.heap[b]? = some (.cells cs t (0, 0))
theorem KeepN.refl (w : World) : KeepN w w := fun _ _ _ _ _ _ _ h => h
theorem KeepN.trans {a b c : World} (h : KeepN a b) (k : KeepN b c) : KeepN a c := fun i cs t h1 h2 h3 h4 hi => k i cs t h1 h2 h3 h4 (h i cs t h1 h2 h3 h4 hi)
theorem KeepN.of_below {w w' : World} (h : Below w.heap.size w w') : KeepN w w' := fun _ _ _ _ _ _ _ hi => blk_below hi h
theorem KeepN.bools {w w' : World} (h : KeepN w w') : KeepB w w' := fun b cs hi => h b cs _ (by decide) (by decide) (by decide) (by decide) hi
theorem keepN_cells {w w' : World} {b : Nat} {cs : Array Value} {t : TypeId} (h : w.heap[b]? = some (.cells cs t (0, 0))) (hx : Ext (fun i => i = b) w w') (ht : t = 140 ∨ t = 43 ∨ t = 120 ∨ t = 114) : KeepN w w' := fun i ds t' h1 h2 h3 h4 hi =>
 blk_ext hi hx (fun e => by
  have e' : i = b := e
  subst e'
  rw [h] at hi
  injection hi with hi
  injection hi with _ e2 _
  subst e2
  rcases ht with ht | ht | ht | ht
  ·exact h1 ht
  ·exact h2 ht
  ·exact h3 ht
  ·exact h4 ht)
theorem keepN_map {w w' : World} {mb : Nat} {kvs : List (Int × Value)} (hm : MapAt w mb kvs) (hx : Ext (fun i => i = mb) w w') : KeepN w w' := fun i ds t' h1 h2 h3 h4 hi =>
 blk_ext hi hx (fun e => by
  have e' : i = mb := e
  subst e'
  obtain ⟨es, clk, a, _⟩ := hm
  rw [hi] at a
  cases a)
def Places.old (p : Places) : List Nat := [p.sb, p.tb, p.vb, p.lb, p.gb, p.bb]
structure ApAt (w : World) (base : Nat) (p : Places) (x : SC) (k vk : Nat) (ch : Value) : Prop where
 st : StoreAt w p x.1 k vk ch
 chs : w.ownsRow base 140 6 ch x.2.length (x.2.flatMap chgC)
 hi : ∀ i ∈ p.old, i < base
 hb : base ≤ w.heap.size
 kb : KeepN p.w0 w
def Places.foot (p : Places) (base : Nat) (i : Nat) : Prop := p.has i ∨ base ≤ i
def Places.free (p : Places) (base : Nat) (i : Nat) : Prop := ¬ p.foot base i
structure LsU (l : Ls) : Prop where
 p : inU l.j.prev.r
 c : inU l.j.cur.r
 f : inU l.j.fin.r
structure St.ok (s : St) : Prop where
 c : s.c.ok
 t : s.tree.ok
 vl : s.votes.length = s.c.bal.length
 sl0 : 0 ≤ s.slot
 sl1 : s.slot ≤ 1099511627776
 bo : inU s.boosted
 je : 0 ≤ s.just.e ∧ s.just.e ≤ 1099511627776
 jr : inU s.just.r
 fe : 0 ≤ s.fin.e ∧ s.fin.e ≤ 1099511627776
 fr : inU s.fin.r
 ve : ∀ x ∈ s.votes, (0 ≤ x.epoch ∧ x.epoch ≤ 1099511627776) ∧ inU x.root
 led : ∀ r l, lk s.ledgers r = some l → LsOk s.c.bal.length l
 has : ∀ r, s.tree.has r = true → (lk s.ledgers r).isSome = true
 gn : ∀ r b, (r, b) ∈ s.gone → b = true
 lu : ∀ r ∈ keys s.ledgers, inU r
 ln : (keys s.ledgers).Nodup
 lr : ∀ r l, lk s.ledgers r = some l → LsU l
theorem Places.mem (p : Places) {i : Nat} (h : p.has i) : i ∈ p.all := by
 simp only [Places.all, Places.has, List.mem_cons, List.not_mem_nil, or_false] at h ⊢
 rcases h with h | h | h | h | h | h <;> simp [h]
theorem Ints.keep {ok : Nat → Prop} {k : IntKind} {w w' : World} {A : Option Addr} {xs : List Int} {F : Nat → Prop} (h : Ints ok k w A xs) (hx : Ext F w w') (hF : ∀ i, ok i → ¬ F i) : Ints ok k w' A xs :=
 Lie.mono h (fun _ _ _ x => x) (fun _ x => x) (fun b hb hlt => hx.block b hlt (hF b hb))
theorem StoreAt.turn {w w' : World} {p : Places} {s : St} {k vk : Nat} {ch : Value} {F : Nat → Prop} (h : StoreAt w p s k vk ch) (hx : Ext F w w') (hF : ∀ i ∈ p.all, ¬ F i) (hk : KeepB w w') : StoreAt w' p s k vk ch := by
 have m : ∀ i, i ∈ p.all → ¬ F i := hF
 simp only [Places.all, List.mem_cons, List.not_mem_nil, or_false] at m
 exact ⟨blk_ext h.blk hx (m _ (by simp)), h.bal.keep hx (fun i e => m i (by simp [e])), h.tree.ext hx (m _ (by simp)) (m _ (by simp)), h.votes.ext hx (m _ (by simp)), h.led.ext hx (m _ (by simp)) hk, h.gone.ext hx (m _ (by simp)), h.nd⟩
theorem StoreAt.ne {w : World} {p : Places} {s : St} {k vk : Nat} {ch : Value} (h : StoreAt w p s k vk ch) : (p.sb ≠ p.tb ∧ p.sb ≠ p.nb ∧ p.sb ≠ p.vb ∧ p.sb ≠ p.lb ∧ p.sb ≠ p.gb ∧ p.sb ≠ p.bb) ∧ (p.tb ≠ p.nb ∧ p.tb ≠ p.vb ∧ p.tb ≠ p.lb ∧ p.tb ≠ p.gb ∧ p.tb ≠ p.bb) ∧
    (p.nb ≠ p.vb ∧ p.nb ≠ p.lb ∧ p.nb ≠ p.gb ∧ p.nb ≠ p.bb) ∧ (p.vb ≠ p.lb ∧ p.vb ≠ p.gb ∧ p.vb ≠ p.bb) ∧ (p.lb ≠ p.gb ∧ p.lb ≠ p.bb) ∧ p.gb ≠ p.bb := by
 have := h.nd
 simp only [Places.all, List.nodup_cons, List.mem_cons, List.not_mem_nil, or_false, not_or, not_false_eq_true, List.nodup_nil, and_true] at this
 exact this
theorem keep_cells {w w' : World} {b : Nat} {cs : Array Value} {t : TypeId} (h : w.heap[b]? = some (.cells cs t (0, 0))) (hx : Ext (fun i => i = b) w w') (hne : t ≠ 4) : KeepB w w' := KeepB.of_ext hx (fun i ds hi e => by
 have e' : i = b := e
 subst e'
 rw [hi] at h
 injection h with h
 injection h with _ e2 _
 exact hne e2.symm)
theorem keep_map' {w w' : World} {mb : Nat} {kvs : List (Int × Value)} (hm : MapAt w mb kvs) (hx : Ext (fun i => i = mb) w w') : KeepB w w' := KeepB.of_ext hx (fun b cs hb e => by
 have e' : b = mb := e
 subst e'
 obtain ⟨es, clk, a, _⟩ := hm
 rw [a] at hb
 cases hb)
theorem StoreAt.cell {w w' : World} {p : Places} {s s' : St} {k vk : Nat} {ch ch' : Value} (h : StoreAt w p s k vk ch) (hx : Ext (fun i => i = p.sb) w w') (hq : w'.heap[p.sb]? = some (.cells (stC p s' k vk ch').toArray 43 (0, 0)))
    (e1 : s'.c = s.c) (e2 : s'.tree = s.tree) (e3 : s'.votes = s.votes) (e4 : s'.ledgers = s.ledgers) (e5 : s'.gone = s.gone) : StoreAt w' p s' k vk ch' := by
 obtain ⟨⟨n1, n2, n3, n4, n5, n6⟩, _⟩ := h.ne
 have hk := keep_cells h.blk hx (by decide)
 refine ⟨hq, ?_, ?_, ?_, ?_, ?_, h.nd⟩
 ·rw [e1]; exact h.bal.keep hx (fun i e e2 => n6 (e2.symm.trans e))
 ·rw [e2]; exact h.tree.ext hx (Ne.symm n1) (Ne.symm n2)
 ·rw [e3]; exact h.votes.ext hx (Ne.symm n3)
 ·rw [e4]; exact h.led.ext hx (Ne.symm n4) hk
 ·rw [e5]; exact h.gone.ext hx (Ne.symm n5)
theorem StoreAt.vote {w w' : World} {p : Places} {s : St} {k vk : Nat} {ch : Value} (h : StoreAt w p s k vk ch) {v' : List En} (hx : Ext (fun i => i = p.vb) w w') (hv : VotesAt w' p.vb v') (hl : v'.length = s.votes.length) : StoreAt w' p { s with votes := v' } k vk ch := by
 obtain ⟨⟨_, _, n1, _, _, _⟩, ⟨_, n2, _, _, _⟩, ⟨n3, _, _, _⟩, ⟨n4, n5, n6⟩, _⟩ := h.ne
 refine ⟨?_, h.bal.keep hx (fun i e e2 => n6 (e2.symm.trans e)), h.tree.ext hx n2 n3, hv, h.led.ext hx (Ne.symm n4) (keep_cells h.votes hx (by decide)), h.gone.ext hx (Ne.symm n5), h.nd⟩
 have := blk_ext h.blk hx n1
 unfold stC at this ⊢
 simp only [hl]
 exact this
theorem own_kind {w : World} {base n : Nat} {e : TypeId} {size : Nat} {v : Value} {xs : List Value} (h : w.ownsRow base e size v n xs) {b : Nat} (hb : v.ownBlock = some b) : ∃ cs, w.heap[b]? = some (.cells cs e (0, 0)) ∧ base ≤ b := by
 rcases h.2 with ⟨rfl, _⟩ | ⟨g, cap, cur, rfl, h1, h2, _⟩
 ·simp [Value.ownBlock] at hb
 ·have : g = b := by simpa [Value.ownBlock] using hb
  subst this
  exact ⟨cur, h2, h1⟩
theorem ApAt.grown {w w3 : World} {base : Nat} {p : Places} {x : SC} {k vk : Nat} {ch : Value} (h : ApAt w base p x k vk ch) (hg : w.grownBy w3 ch.ownBlock) : StoreAt w3 p x.1 k vk ch ∧ Ext (fun i => base ≤ i) w w3 := by
 have hx0 : Ext (fun i => some i = ch.ownBlock) w w3 := (Ext.refl _ w).grown hg (fun b hb => .inl hb.symm)
 have hx : Ext (fun i => base ≤ i) w w3 := (Ext.refl _ w).grown hg (fun b hb => .inl (own_base h.chs b hb))
 refine ⟨h.st.turn hx0 (fun i hi e => ?_) ?_, hx⟩
 ·obtain ⟨ds, hd, hle⟩ := own_kind h.chs e.symm
  have m := h.hi
  simp only [Places.all, List.mem_cons, List.not_mem_nil, or_false] at hi
  simp only [Places.old, List.mem_cons, List.not_mem_nil, or_false] at m
  by_cases hn : i = p.nb
  ·subst hn
   obtain ⟨es, clk, a, _⟩ := h.st.tree.map
   rw [hd] at a
   cases a
  ·have := m i (by rcases hi with e | e | e | e | e | e | e <;> simp_all)
   omega
 intro b cs hb
 rw [hg.block b (blk_lt hb) (fun e => ?_)]
 ·exact hb
 ·obtain ⟨ds, hd, _⟩ := own_kind h.chs e.symm
  rw [hb] at hd
  injection hd with hd
  injection hd with _ e2 _
  exact absurd e2 (by decide)
theorem own_keep {w w3 : World} {base n : Nat} {size : Nat} {ch : Value} {xs : List Value} (h : w.ownsRow base 140 size ch n xs) (hg : w.grownBy w3 ch.ownBlock) : KeepN w w3 := by
 intro b cs t h1 h2 h3 h4 hb
 rw [hg.block b (blk_lt hb) (fun e => ?_)]
 ·exact hb
 ·obtain ⟨ds, hd, _⟩ := own_kind h e.symm
  rw [hb] at hd
  injection hd with hd
  injection hd with _ e2 _
  exact absurd e2 h1
theorem ApAt.here {w : World} {base : Nat} {p : Places} {x : SC} {k vk : Nat} {ch : Value} (h : ApAt w base p x k vk ch) (w1 : World) (hk : KeepN w1 w) : ApAt w base { p with w0 := w1 } x k vk ch :=
 ⟨⟨h.st.blk, h.st.bal, h.st.tree, h.st.votes, h.st.led, h.st.gone, h.st.nd⟩, h.chs, h.hi, h.hb, hk⟩
theorem ApAt.below {w w' : World} {base : Nat} {p : Places} {x : SC} {k vk : Nat} {ch : Value} (h : ApAt w base p x k vk ch) (hb : Below w.heap.size w w') : ApAt w' base p x k vk ch :=
 ⟨h.st.below hb, own_below h.chs hb, h.hi, Nat.le_trans h.hb hb.size, h.kb.trans (KeepN.of_below hb)⟩
theorem ApAt.push {w w3 : World} {base : Nat} {p : Places} {x : SC} {k vk : Nat} {ch : Value} {c : Chg} {A' : Option Addr} {c' : Nat} (h : ApAt w base p x k vk ch) (hg : w.grownBy w3 ch.ownBlock) (hown : w3.ownsRow base 140 6 (.slice A' (x.2.length + 1) c') (x.2.length + 1) (x.2.flatMap chgC ++ chgC c)) :
    ApAt (w3.setCell ⟨p.sb, 13, none⟩ (.slice A' (x.2.length + 1) c')) base p (x.1, x.2 ++ [c]) k vk (.slice A' (x.2.length + 1) c') ∧ Ext (p.foot base) w (w3.setCell ⟨p.sb, 13, none⟩ (.slice A' (x.2.length + 1) c')) := by
 obtain ⟨h3, hx⟩ := h.grown hg
 have hx4 : Ext (fun i => i = p.sb) w3 (w3.setCell ⟨p.sb, 13, none⟩ (.slice A' (x.2.length + 1) c')) := (Ext.refl _ _).set1
 have hsb : p.sb < base := h.hi _ (by simp [Places.old])
 refine ⟨⟨h3.cell hx4 (blk_set h3.blk 13 _) rfl rfl rfl rfl rfl, ?_, h.hi, ?_, (h.kb.trans (own_keep h.chs hg)).trans (keepN_cells h3.blk hx4 (by decide))⟩, ?_⟩
 ·have : w3.ownsRow base 140 6 (.slice A' (x.2.length + 1) c') (x.2 ++ [c]).length ((x.2 ++ [c]).flatMap chgC) := by simpa using hown
  exact own_ext this hx4 (fun b hb e => by
   obtain ⟨ds, hd, hle⟩ := own_kind this hb
   have e' : b = p.sb := e
   omega)
 ·have := hx.size
  have := hx4.size
  have := h.hb
  omega
 ·exact (hx.mono (fun i _ hi => .inr hi)).trans hx4 (fun i _ e => .inl (.inl e))
end Go.Proofs.YtnppimhlfcjghaaGreat
namespace Go.Proofs.YtnppimhlfcjghaaGreat
open Go.RowKit
set_option maxRecDepth 100000
set_option maxHeartbeats 4000000
structure MkAt (w : World) (mb base sb : Nat) (ns : List Int) (A : Option Addr) (kn : Nat) (bl : List Int) (bv : Value) : Prop where
 blk : w.heap[mb]? = some (.cells #[.pointer (some ⟨sb, 0, none⟩), .slice A ns.length kn, bv] 103 (0, 0))
 rn : Ints (fun b => b < base) .u8 w A ns
 rb : w.ownsRow base 23 1 bv bl.length (bl.map (Value.int .u64))
 b0 : 0 < bl.length
 b1 : bl.length ≤ 1000000
 nr : ∀ x ∈ ns, 0 ≤ x ∧ x < 256
 nl : ns.length ≤ kn ∧ ns.length ≤ maxLen
 br : ∀ x ∈ bl, inU x
 mb : base ≤ mb
theorem Ints.tail {ok : Nat → Prop} {k : IntKind} {w : World} {b o : Nat} {xs : List Int} (h : Ints ok k w (some ⟨b, o, none⟩) xs) (hn : 0 < xs.length) : Ints ok k w (some ⟨b, o + 1, none⟩) xs.tail := by
 intro h0
 obtain ⟨b', o', e, hb, hc⟩ := h hn
 injection e with e
 injection e with e1 e2 _
 subst e1 e2
 refine ⟨b, o + 1, rfl, hb, fun j y hy => ?_⟩
 obtain ⟨cs, hK, hl, hu⟩ := hc (j + 1) y (by rw [← List.getElem?_tail]; exact hy)
 refine ⟨cs, hK, hl, fun i u hi => ?_⟩
 have := hu i u hi
 rw [show o + 1 + (j * 1 + i) = o + ((j + 1) * 1 + i) from by omega]
 exact this
theorem MkAt.turn {w : World} {mb base sb : Nat} {ns : List Int} {A : Option Addr} {kn : Nat} {bl : List Int} {bv : Value} (h : MkAt w mb base sb ns A kn bl bv) {ns' : List Int} {A' : Option Addr} {kn' : Nat} (hr : Ints (fun b => b < base) .u8 w A' ns') (hl : ns'.length ≤ kn' ∧ ns'.length ≤ maxLen) (hs : ∀ x ∈ ns', x ∈ ns) :
    MkAt (w.setCell ⟨mb, 1, none⟩ (.slice A' ns'.length kn')) mb base sb ns' A' kn' bl bv ∧ Ext (fun i => i = mb) w (w.setCell ⟨mb, 1, none⟩ (.slice A' ns'.length kn')) := by
 have hx : Ext (fun i => i = mb) w (w.setCell ⟨mb, 1, none⟩ (.slice A' ns'.length kn')) := (Ext.refl _ _).set1
 refine ⟨⟨blk_set h.blk 1 _, hr.keep hx (fun i hi e => by have e' : i = mb := e; have := h.mb; omega), own_ext h.rb hx (fun b hb e => ?_), h.b0, h.b1, fun x hx => h.nr x (hs x hx), hl, h.br, h.mb⟩, hx⟩
 obtain ⟨ds, hd, _⟩ := own_kind h.rb hb
 have e' : b = mb := e
 subst e'
 rw [h.blk] at hd
 injection hd with hd
 injection hd with _ e2 _
 exact absurd e2 (by decide)
def RetNext (w : World) (mb base sb : Nat) (bl : List Int) (bv : Value) (n : Int) (e : Ending) (w' : World) : Prop :=
 ∃ x ns A kn, e = .returned (.int .i64 x) ∧ (0 ≤ x ∧ x < n) ∧ MkAt w' mb base sb ns A kn bl bv ∧ Ext (fun i => i = mb) w w'
theorem next_calls {w : World} {mb base sb : Nat} {ns : List Int} {A : Option Addr} {kn : Nat} {bl : List Int} {bv : Value} (h : MkAt w mb base sb ns A kn bl bv) (n : Int) (hn : 0 < n ∧ n ≤ 1000000) :
    Calls Tryz.prog 56 #[.pointer (some ⟨mb, 0, none⟩), .int .i64 n] w (RetNext w mb base sb bl bv n) := by
 obtain ⟨c0, c1, c2⟩ := cs3 h.blk
 have z1 := blk_frozen h.blk 1
 by_cases h0 : ns.length = 0
 ·go_enter Tryz.func56, Tryz.ntmps56
  go_wp2
  go_ret
  exact ⟨0, ns, A, kn, rfl, ⟨Int.le_refl _, hn.1⟩, h, Ext.refl _ _⟩
 ·obtain ⟨b, o, rfl, hbk, hc⟩ := h.rn.get (j := 0) (by omega)
  have hx := h.nr (ns.getD 0 0) (by rw [List.getD_eq_getElem?_getD, List.getElem?_eq_getElem (by omega)]; exact List.getElem_mem _)
  have HH := Lib.hid h
  rw [Nat.add_zero] at hc
  generalize hxx : ns.getD 0 0 = x at hc hx
  clear h hxx
  go_enter Tryz.func56, Tryz.ntmps56
  have hem : 0 ≤ x % n ∧ x % n < n := ⟨Int.emod_nonneg _ (by omega), Int.emod_lt_of_pos _ hn.1⟩
  have HEm := Lib.hid hem
  clear hem
  go_wp2
  ·go_ret
   have hh := HH.out
   have hl0 : ns.tail = [] := by
    have := hh.nl
    apply List.eq_nil_of_length_eq_zero
    rw [List.length_tail]; omega
   obtain ⟨r1, r2⟩ := hh.turn (ns' := ns.tail) (A' := some ⟨b, o, none⟩) (kn' := 0) (by rw [hl0]; exact Lie.nil) (by rw [hl0]; simp) (fun x hx => List.mem_of_mem_tail hx)
   rw [List.length_tail] at r1 r2
   exact ⟨x % n, ns.tail, _, _, rfl, HEm.out, r1, r2⟩
  ·go_ret
   have hh := HH.out
   obtain ⟨r1, r2⟩ := hh.turn (ns' := ns.tail) (kn' := kn - 1) (hh.rn.tail (by omega)) (by have := hh.nl; rw [List.length_tail]; omega) (fun x hx => List.mem_of_mem_tail hx)
   rw [List.length_tail] at r1 r2
   exact ⟨x % n, ns.tail, _, _, rfl, HEm.out, r1, r2⟩
theorem MkAt.below {w w' : World} {mb base sb : Nat} {ns : List Int} {A : Option Addr} {kn : Nat} {bl : List Int} {bv : Value} (h : MkAt w mb base sb ns A kn bl bv) (hb : Below w.heap.size w w') : MkAt w' mb base sb ns A kn bl bv :=
 ⟨blk_below h.blk hb, h.rn.below hb, own_below h.rb hb, h.b0, h.b1, h.nr, h.nl, h.br, h.mb⟩
theorem MkAt.last {w : World} {mb base sb : Nat} {ns : List Int} {A : Option Addr} {kn : Nat} {bl : List Int} {bv : Value} (h : MkAt w mb base sb ns A kn bl bv) : ∃ g cap, bv = .slice (some ⟨g, 0, none⟩) bl.length cap ∧ ∀ j, j < bl.length → w.cell? ⟨g, j, none⟩ = some (.int .u64 (bl.getD j 0)) ∧ inU (bl.getD j 0) := by
 obtain ⟨hl, h1 | ⟨g, cap, cur, rfl, h1, h2, h3, h4, h5, h6⟩⟩ := h.rb
 ·have := h.b0; omega
 ·refine ⟨g, cap, rfl, fun j hj => ?_⟩
  have hi := Ints.get (Ints.of_own h.rb) hj
  obtain ⟨b', o', e, _, hc⟩ := hi
  injection e with e
  injection e with e1 e2 _
  subst e1 e2
  rw [Nat.zero_add] at hc
  refine ⟨hc, h.br _ ?_⟩
  rw [List.getD_eq_getElem?_getD, List.getElem?_eq_getElem hj]
  exact List.getElem_mem _
def RetBlock (w : World) (mb base sb : Nat) (bl : List Int) (bv : Value) (e : Ending) (w' : World) : Prop :=
 ∃ r ns A kn, e = .returned (.int .u64 r) ∧ inU r ∧ MkAt w' mb base sb ns A kn bl bv ∧ Ext (fun i => i = mb) w w'
theorem block_calls {w : World} {mb base sb : Nat} {ns : List Int} {A : Option Addr} {kn : Nat} {bl : List Int} {bv : Value} (h : MkAt w mb base sb ns A kn bl bv) :
    Calls Tryz.prog 57 #[.pointer (some ⟨mb, 0, none⟩)] w (RetBlock w mb base sb bl bv) := by
 have c8 := next_calls h 8 (by omega)
 go_enter Tryz.func57, Tryz.ntmps57
 go_upto_region 2 with (go_at_call 56; refine c8.mono ?_; rintro e w1 ⟨x, ns1, A1, kn1, rfl, hx, h1, hx1⟩)
 have hD : Below w1.heap.size w1 w1.drew := (Below.refl _ w1).drew
 have HH1 := Lib.hid h1
 obtain ⟨g, cap, hbv, hg⟩ := h1.last
 have HG := Lib.hid hg
 have b0 := h1.b0
 have b1 := h1.b1
 by_cases h5 : x < 5
 ·obtain ⟨hc, hu⟩ := hg (bl.length - 1) (by omega)
  obtain ⟨d0, d1, d2⟩ := cs3 h1.blk
  rw [hbv] at d2
  have hidx : ((bl.length : Int) - 1) = ((bl.length - 1 : Nat) : Int) := by omega
  generalize hr : bl.getD (bl.length - 1) 0 = r at hc hu
  clear h h1 hr hg c8
  go_upto_region 3 with fail
  go_quiet (fail)
  go_wp2
  go_ret
  exact ⟨r, ns1, A1, kn1, rfl, hu, HH1.out.below (below_drewN (Below.refl _ _) _), hx1.drewN _⟩
 ·have KB : ∀ (W : World) (ns' : List Int) (A' : Option Addr) (kn' : Nat), MkAt W mb base sb ns' A' kn' bl bv → W.cell? ⟨mb, 2, none⟩ = some (.slice (some ⟨g, 0, none⟩) bl.length cap) ∧ ∀ j, j < bl.length → W.cell? ⟨g, j, none⟩ = some (.int .u64 (bl.getD j 0)) := fun W ns' A' kn' hM => by
     obtain ⟨d0, d1, d2⟩ := cs3 hM.blk
     rw [hbv] at d2
     refine ⟨d2, fun j hj => ?_⟩
     obtain ⟨g', cap', e, hg'⟩ := hM.last
     rw [hbv] at e
     injection e with e1 e2 e3
     injection e1 with e1
     injection e1 with e1
     rw [e1]
     exact (hg' j hj).1
  have hD1 := h1.below hD
  have cn := next_calls hD1 bl.length (by omega)
  clear h h1 hg c8
  have hD1' := Lib.hid hD1
  clear hD1
  go_upto_region 4 with fail
  go_region_held3 (fun w' => w'.cell? ⟨mb, 2, none⟩ = some (.slice (some ⟨g, 0, none⟩) bl.length cap) ∧ ∀ j, j < bl.length → w'.cell? ⟨g, j, none⟩ = some (.int .u64 (bl.getD j 0))) (first | exact KB _ _ _ _ hD1'.out | exact KB _ _ _ _ (by assumption)) (first | (go_at_call 56; refine cn.mono ?_; rintro e w2 ⟨x2, ns2, A2, kn2, rfl, hx2, h2, hxt2⟩; obtain ⟨m2, rfl⟩ : ∃ m2 : Nat, x2 = m2 := ⟨x2.toNat, by omega⟩; have hm2 : m2 < bl.length := by omega))
  go_wp2
  go_ret
  exact ⟨bl[m2], ns2, A2, kn2, rfl, HH1.out.br _ (List.getElem_mem _), h2, (hx1.drew).trans hxt2 (fun _ _ h => h)⟩
end Go.Proofs.YtnppimhlfcjghaaGreat
