import Derived.Test.YtnppimhlfcjghaaGreatPAdv
import Derived.Test.YtnppimhlfcjghaaGreatPOpsK
set_option linter.all false
set_option linter.unusedVariables false
set_option linter.unusedSimpArgs false
namespace Go.Proofs.YtnppimhlfcjghaaGreat
open Go.RowKit
set_option maxRecDepth 100000
set_option maxHeartbeats 8000000
theorem bools_own {w : World} {base n c : Nat} {A : Option Addr} {xs : List Bool} (h : w.ownsRow base 4 1 (.slice A n c) n (xs.map Value.bool)) (hn : 0 < n) : BoolsR w A xs := by
 rcases h.2 with ⟨_, h0⟩ | ⟨g, cap, cur, he, hb, hh, h1, h2, h3, h4⟩
 ·omega
 ·injection he with e1 e2 e3
  subst e1
  refine ⟨g, cur, rfl, hh, ?_⟩
  have : xs.map Value.bool = cur.toList.take (n * 1) := by rw [h4]
  rw [this]
  exact List.take_prefix _ _
theorem flat_bools {w : World} {A : Option Addr} {xs : List Bool} (h : BoolsR w A xs) : Flat w A (xs.map Value.bool) := by
 intro _
 obtain ⟨b, cs, rfl, h1, h2⟩ := h
 refine ⟨_, rfl, fun j u hu => ?_⟩
 rw [Addr.add_mid, blk_cell h1, Nat.zero_add, ← Array.getElem?_toList]
 obtain ⟨t, ht⟩ := h2
 rw [← ht, List.getElem?_append_left (List.getElem?_eq_some_iff.1 hu).1]
 exact hu
theorem stepL_ok {c : Cf} (hok : c.ok) {f : Int → Int} (hf : ∀ s, inU (f s)) {l : Ls} (h : LsOk c.bal.length l) {e : Int} (h0 : 0 ≤ e) (h1 : e < 1099511627776) (he : l.epoch = e) : LsOk c.bal.length (stepL c f l e) := by
 have hj := h.j
 refine ⟨?_, by simp [stepL]; omega, by simp [stepL]; omega, h.n, by simp [stepL]⟩
 show JsB (pullL c l f)
 unfold pullL
 split
 ·exact hj
 ·obtain ⟨p1, p2, p3⟩ := hj
  unfold nextJ JsB
  refine ⟨p2, ?_, ?_⟩
  ·simp only
   split
   ·simp only [pointL]; omega
   ·split
    ·simp only [pointL]; omega
    ·exact p2
  ·simp only
   split
   ·exact p2
   ·split
    ·exact p2
    ·split
     ·exact p1
     ·split
      ·exact p1
      ·exact p3
theorem BoolsR.ext {w w' : World} {A : Option Addr} {xs : List Bool} {b : Nat} {cs : Array Value} {t : TypeId} {f : Nat × Nat} (h : BoolsR w A xs) (hx : Ext (fun i => i = b) w w') (hq : w.heap[b]? = some (.cells cs t f)) (hne : t ≠ 4) : BoolsR w' A xs := by
 obtain ⟨g, c2, rfl, h1, h2⟩ := h
 refine ⟨g, c2, rfl, blk_ext h1 hx (fun e => ?_), h2⟩
 have e' : g = b := e
 subst e'
 rw [h1] at hq
 injection hq with hq
 injection hq with _ e2 _
 exact hne e2.symm
theorem LsR.ext {w w' : World} {l : Ls} {A A2 : Option Addr} {b : Nat} {cs : Array Value} {t : TypeId} {f : Nat × Nat} (h : LsR w l A A2) (hx : Ext (fun i => i = b) w w') (hq : w.heap[b]? = some (.cells cs t f)) (hne : t ≠ 4) : LsR w' l A A2 := ⟨h.b.ext hx hq hne, h.n.ext hx hq hne⟩
theorem chain13 {X W9 : World} {b : Nat} {cs : Array Value} {t : TypeId} {u0 u1 u2 u3 u4 u5 u6 u7 u8 u9 u10 u11 u12 : Value} (hC : World.setCell (World.setCell (World.setCell (World.setCell (World.setCell (World.setCell (World.setCell (World.setCell (World.setCell (World.setCell (World.setCell (World.setCell (World.setCell X ⟨b, 0, none⟩ u0) ⟨b, 1, none⟩ u1) ⟨b, 2, none⟩ u2) ⟨b, 3, none⟩ u3) ⟨b, 4, none⟩ u4) ⟨b, 5, none⟩ u5) ⟨b, 6, none⟩ u6) ⟨b, 7, none⟩ u7) ⟨b, 8, none⟩ u8) ⟨b, 9, none⟩ u9) ⟨b, 10, none⟩ u10) ⟨b, 11, none⟩ u11) ⟨b, 12, none⟩ u12 = W9) (hq : X.heap[b]? = some (.cells cs t (0, 0))) (hn : cs.size = 13) :
    W9.heap[b]? = some (.cells #[u0, u1, u2, u3, u4, u5, u6, u7, u8, u9, u10, u11, u12] t (0, 0)) ∧ Ext (fun i => i = b) X W9 ∧ W9.heap.size = X.heap.size := by
 have hF := blk_setAll hq [u0, u1, u2, u3, u4, u5, u6, u7, u8, u9, u10, u11, u12] (by simpa using hn.symm)
 obtain ⟨hX, hS⟩ := ext_setCells b [u0, u1, u2, u3, u4, u5, u6, u7, u8, u9, u10, u11, u12] 0 X
 simp only [World.setCells, Nat.zero_add, Nat.reduceAdd] at hF hX hS
 rw [hC] at hF hX hS
 exact ⟨hF, hX, hS⟩
theorem seqI_getD (a : Int) (n j : Nat) (h : j < n) : (seqI a n).getD j 0 = a + j := by
 simp [seqI, List.getD_eq_getElem?_getD, h]
theorem chain13X {wr X W9 : World} {b : Nat} {cs : Array Value} {t : TypeId} {u0 u1 u2 u3 u4 u5 u6 u7 u8 u9 u10 u11 u12 : Value} (hC : World.setCell (World.setCell (World.setCell (World.setCell (World.setCell (World.setCell (World.setCell (World.setCell (World.setCell (World.setCell (World.setCell (World.setCell (World.setCell X ⟨b, 0, none⟩ u0) ⟨b, 1, none⟩ u1) ⟨b, 2, none⟩ u2) ⟨b, 3, none⟩ u3) ⟨b, 4, none⟩ u4) ⟨b, 5, none⟩ u5) ⟨b, 6, none⟩ u6) ⟨b, 7, none⟩ u7) ⟨b, 8, none⟩ u8) ⟨b, 9, none⟩ u9) ⟨b, 10, none⟩ u10) ⟨b, 11, none⟩ u11) ⟨b, 12, none⟩ u12 = W9) (hX : Below wr.heap.size wr X) (hq : wr.heap[b]? = some (.cells cs t (0, 0))) (hn : cs.size = 13) :
    Below wr.heap.size wr X ∧ W9.heap[b]? = some (.cells #[u0, u1, u2, u3, u4, u5, u6, u7, u8, u9, u10, u11, u12] t (0, 0)) ∧ Ext (fun i => i = b) X W9 ∧ W9.heap.size = X.heap.size := ⟨hX, chain13 hC (blk_below hq hX) hn⟩
theorem hw_trans {wr W w2 : World} (h : Below wr.heap.size wr W) (h2 : Below W.heap.size W w2) : Below wr.heap.size wr w2 := h.trans (h2.mono h.size)
theorem blk_alloc (W : World) (o : Obj) : (W.alloc o).heap[W.heap.size]? = some o := heap_new W o
theorem grown_below {w w' : World} (h : w.grownBy w' (Value.slice none 0 0).ownBlock) : Below w.heap.size w w' := (Below.refl _ w).grown h (Nat.le_refl _) (fun k hk => by simp [Value.ownBlock] at hk)
theorem bools_one (xs : List Bool) : ∀ u ∈ xs.map Value.bool, u.oneCell' = true := by
 intro u hu
 obtain ⟨b, _, rfl⟩ := List.mem_map.1 hu
 rfl
theorem blk_extne {w w' : World} {b m : Nat} {cs a : Array Value} {t : TypeId} {f : Nat × Nat} (hm : w.heap[m]? = some (.cells a 4 (0, 0))) (hx : Ext (fun i => i = b) w w') (hq : w.heap[b]? = some (.cells cs t f)) (hne : t ≠ 4) : w'.heap[m]? = some (.cells a 4 (0, 0)) := by
 refine blk_ext hm hx (fun e => ?_)
 have e' : m = b := e
 subst e'
 rw [hm] at hq
 injection hq with hq
 injection hq with _ e2 _
 exact hne e2.symm
theorem adv_leaf {W1 F : World} {c : Cf} {f : Int → Int} {l l' : Ls} {J : Js} {A A6 : Option Addr} {k c6 n N j m B : Nat} (hj : j < N) (hok : c.ok) (hf : ∀ s, inU (f s)) (h0 : 0 ≤ l.epoch) (h1 : l.epoch + j < 1099511627776) (hn : n = c.bal.length) (hJ : pullL c l' f = J) (HL : l' = (seqI l.epoch j).foldl (stepL c f) l) (HOk : LsOk c.bal.length l' ∧ l'.epoch = l.epoch + j) (hnl : l'.now.length = n)
    (F0 : F.heap[B]? = some (.cells #[.slice A n k, .int .i64 c.slots, .int .i64 c.boost] 27 (0, 0)))
    (F1 : F.heap[B + 1]? = some (.cells #[.bool J.b0, .bool J.b1, .bool J.b2, .bool J.b3, .int .i64 J.prev.e, .int .u64 J.prev.r, .int .i64 J.cur.e, .int .u64 J.cur.r, .int .i64 J.fin.e, .int .u64 J.fin.r, .int .i64 (l.epoch + j + 1), .slice A6 n c6, .slice (some ⟨m, 0, none⟩) n n] 99 (0, 0)))
    (FA : BoolsR F A6 l'.now) (FN : F.heap[m]? = some (.cells (Array.replicate n (.bool false)) 4 (0, 0))) (FX : Ext (fun i => i = B + 1) W1 F) :
    ∃ (j2 : Nat) (l2 : Ls) (A1' : Option Addr) (k1' : Nat) (A2' : Option Addr) (k2' : Nat), j2 ≤ N ∧ Value.int .i64 ((j : Int) + 1) = .int .i64 j2 ∧ Hid (l2 = (seqI l.epoch j2).foldl (stepL c f) l) ∧ Hid (LsOk c.bal.length l2 ∧ l2.epoch = l.epoch + j2) ∧
     F.heap[B]? = some (.cells #[.slice A c.bal.length k, .int .i64 c.slots, .int .i64 c.boost] 27 (0, 0)) ∧ F.heap[B + 1]? = some (.cells #[.bool l2.j.b0, .bool l2.j.b1, .bool l2.j.b2, .bool l2.j.b3, .int .i64 l2.j.prev.e, .int .u64 l2.j.prev.r, .int .i64 l2.j.cur.e, .int .u64 l2.j.cur.r, .int .i64 l2.j.fin.e, .int .u64 l2.j.fin.r, .int .i64 l2.epoch, .slice A1' l2.before.length k1', .slice A2' l2.now.length k2'] 99 (0, 0)) ∧ Hid (LsR F l2 A1' A2') ∧ Hid (Ext (fun i => i = B + 1) W1 F) := by
 subst hJ
 refine ⟨j + 1, stepL c f l' (l.epoch + j), A6, c6, some ⟨m, 0, none⟩, n, hj, by simp, ?_, ⟨?_, ?_⟩, ?_, ?_, ⟨FA, ?_⟩, FX⟩
 ·show _ = _
  rw [seqI_succ, List.foldl_append, ← HL]
  rfl
 ·exact stepL_ok hok hf HOk.1 (by omega) (by omega) HOk.2
 ·show l.epoch + j + 1 = _
  omega
 ·rw [F0, hn]
 ·show F.heap[B + 1]? = some (.cells #[.bool (pullL c l' f).b0, .bool (pullL c l' f).b1, .bool (pullL c l' f).b2, .bool (pullL c l' f).b3, .int .i64 (pullL c l' f).prev.e, .int .u64 (pullL c l' f).prev.r, .int .i64 (pullL c l' f).cur.e, .int .u64 (pullL c l' f).cur.r, .int .i64 (pullL c l' f).fin.e, .int .u64 (pullL c l' f).fin.r, .int .i64 (l.epoch + j + 1), .slice A6 l'.now.length c6, .slice (some ⟨m, 0, none⟩) (List.replicate c.bal.length false).length n] 99 (0, 0))
  rw [List.length_replicate, ← hn, hnl]
  exact F1
 ·show BoolsR F _ (List.replicate c.bal.length false)
  rw [← hn]
  exact bools_new FN
theorem Advance_calls (w : World) (c : Cf) (A : Option Addr) (k : Nat) (l : Ls) (A1 : Option Addr) (k1 : Nat) (A2 : Option Addr) (k2 : Nat) (s : Int) (g : Nat) (caps : Array Value) (f : Int → Int) (hok : c.ok) (hb : Ints anyB .u64 w A c.bal) (hl : LsOk c.bal.length l) (hr : LsR w l A1 A2) (h : ChainAt w g caps f) (hs : 0 ≤ s) (hs2 : s ≤ 1099511627776) :
    Calls Tryz.prog 60 #[cfC c A k, .agg #[.bool l.j.b0, .bool l.j.b1, .bool l.j.b2, .bool l.j.b3, .int .i64 l.j.prev.e, .int .u64 l.j.prev.r, .int .i64 l.j.cur.e, .int .u64 l.j.cur.r, .int .i64 l.j.fin.e, .int .u64 l.j.fin.r, .int .i64 l.epoch, .slice A1 l.before.length k1, .slice A2 l.now.length k2], .int .i64 s, .func (.func g) #[] caps] w (RetLs (advanceL c l s f) w.heap.size w) := by
 obtain ⟨q0, q1, q2, hbw, hsz⟩ := alloc3 w (.cells #[.slice A c.bal.length k, .int .i64 c.slots, .int .i64 c.boost] 27) (.cells #[.bool l.j.b0, .bool l.j.b1, .bool l.j.b2, .bool l.j.b3, .int .i64 l.j.prev.e, .int .u64 l.j.prev.r, .int .i64 l.j.cur.e, .int .u64 l.j.cur.r, .int .i64 l.j.fin.e, .int .u64 l.j.fin.r, .int .i64 l.epoch, .slice A1 l.before.length k1, .slice A2 l.now.length k2] 99) (.cells #[.bool Ls.zero.j.b0, .bool Ls.zero.j.b1, .bool Ls.zero.j.b2, .bool Ls.zero.j.b3, .int .i64 Ls.zero.j.prev.e, .int .u64 Ls.zero.j.prev.r, .int .i64 Ls.zero.j.cur.e, .int .u64 Ls.zero.j.cur.r, .int .i64 Ls.zero.j.fin.e, .int .u64 Ls.zero.j.fin.r, .int .i64 Ls.zero.epoch, .slice (none : Option Addr) Ls.zero.before.length 0, .slice (none : Option Addr) Ls.zero.now.length 0] 99)
 simp only [Ls.zero, Js.zero, Pt.zero, List.length_nil] at q0 q1 q2 hbw hsz
 have hb1 := hb.below hbw
 have hr1 := hr.below hbw
 have h1 := h.below hbw
 have HB0 := Lib.hid hb
 have HC0 := Lib.hid h
 clear hb hr h
 have he0 := hl.e0
 have he1 := hl.e1
 have s1 := hok.s1
 have s2 := hok.s2
 have hmx : max 1 c.slots = c.slots := by omega
 have hm : 0 ≤ l.epoch * c.slots ∧ l.epoch * c.slots ≤ 1099511627776 * 64 := ⟨Int.mul_nonneg he0 (by omega), Int.mul_le_mul he1 s2 (by omega) (by omega)⟩
 have cE := fun W => Ends_calls W (l.epoch * c.slots) s c.slots (by unfold inI; omega) (by unfold inI; omega) (by unfold inI; omega)
 have hes : advanceL c l s f = (endsL (l.epoch * c.slots) s c.slots).foldl (stepL c f) l := by unfold advanceL; rw [hmx]
 have hE : endsL (l.epoch * c.slots) s c.slots = seqI l.epoch (min (epochOf s c.slots - l.epoch).toNat 4096) := by
  have : epochOf (l.epoch * c.slots) c.slots = l.epoch := by
   unfold epochOf
   rw [hmx, show max 0 (l.epoch * c.slots) = l.epoch * c.slots from by omega, Int.mul_ediv_cancel _ (by omega)]
  show seqI _ _ = _
  rw [this]
 have hle := epochOf_le s c.slots hs
 rw [hE] at cE hes
 generalize hN : min (epochOf s c.slots - l.epoch).toNat 4096 = N at cE hes
 have hNb : l.epoch + N ≤ 1099511627776 := by omega
 have hN4 : N ≤ 4096 := by omega
 have HES := Lib.hid hes
 have hwm : wrap64 (l.epoch * c.slots) = l.epoch * c.slots := by unfold wrap64; omega
 clear hN hE hes hle
 go_enter Tryz.func60, Tryz.ntmps60
 go_upto_region 1 with fail
 generalize World.alloc (World.alloc (World.alloc w _) _) _ = W0 at q0 q1 q2 hbw hsz hb1 hr1 h1 ⊢
 generalize hB : w.heap.size = B at q0 q1 q2 hbw hsz ⊢
 have HB := Lib.hid hB
 clear hB
 have c1 := blk_cell q0 1
 have l10 := blk_cell q1 10
 have cE1 : c.slots ≤ 1 → ∀ W, Calls Tryz.prog 79 #[.int .i64 (wrap64 l.epoch), .int .i64 s, .int .i64 c.slots] W (RetInts .i64 (seqI l.epoch N) W.heap.size W) := fun h W => by
  have e1 : c.slots = 1 := by omega
  have e2 : wrap64 l.epoch = l.epoch * c.slots := by rw [e1]; unfold wrap64; omega
  rw [e2]; exact cE W
 have hB0 : B + 1 + 1 < W0.heap.size := blk_lt q2
 have HCE := Lib.hid cE
 have HC1 := Lib.hid cE1
 clear cE cE1
 go_cut [20, 21, 22] (fun u v x w' => ∃ Ae ce, u = .slice Ae N ce ∧ v = .int .i64 N ∧ x = .int .i64 0 ∧ Ints (fun b => W0.heap.size ≤ b) .i64 w' Ae (seqI l.epoch N) ∧ Below W0.heap.size W0 w')
 case first =>
  go_wp2_with (first
   | (go_at_call 79; (with_reducible refine (HCE.out _).mono ?_); rintro e W1 ⟨Ae, ce, rfl, hie, hbe⟩; rw [seqI_length])
   | (go_at_call 79; (with_reducible refine (HC1.out (by omega) _).mono ?_); rintro e W1 ⟨Ae, ce, rfl, hie, hbe⟩; rw [seqI_length]))
  all_goals
   go_meet
   case rel => exact ⟨Ae, ce, rfl, rfl, rfl, hie, hbe⟩
 case rest =>
  obtain ⟨Ae, ce, rfl, rfl, rfl, hie, hbe⟩ := hcut
  obtain ⟨W1, rfl⟩ : ∃ W1 : World, W1 = wc := ⟨_, rfl⟩
  have q0 := blk_below q0 hbe
  have q1 := blk_below q1 hbe
  have q2 := blk_below q2 hbe
  have hb1 := hb1.below hbe
  have hr1 := hr1.below hbe
  have h1 := h1.below hbe
  have hbw := hbw.trans (hbe.mono (by omega))
  have hie := Lie.lt hie (by decide)
  clear hbe c1 l10 HCE HC1
  go_wp2_with fail
  go_loopw [10, 22] (fun _ i wr => ∃ (j : Nat) (l' : Ls) (A1' : Option Addr) (k1' : Nat) (A2' : Option Addr) (k2' : Nat), j ≤ N ∧ i = .int .i64 j ∧ Hid (l' = (seqI l.epoch j).foldl (stepL c f) l) ∧ Hid (LsOk c.bal.length l' ∧ l'.epoch = l.epoch + j) ∧
   wr.heap[B]? = some (.cells #[.slice A c.bal.length k, .int .i64 c.slots, .int .i64 c.boost] 27 (0, 0)) ∧ wr.heap[B + 1]? = some (.cells #[.bool l'.j.b0, .bool l'.j.b1, .bool l'.j.b2, .bool l'.j.b3, .int .i64 l'.j.prev.e, .int .u64 l'.j.prev.r, .int .i64 l'.j.cur.e, .int .u64 l'.j.cur.r, .int .i64 l'.j.fin.e, .int .u64 l'.j.fin.r, .int .i64 l'.epoch, .slice A1' l'.before.length k1', .slice A2' l'.now.length k2'] 99 (0, 0)) ∧ Hid (LsR wr l' A1' A2') ∧ Hid (Ext (fun i => i = B + 1) W1 wr)) (fun _ i _ => N - (intOf i).toNat)
  case atStart => exact ⟨0, l, A1, k1, A2, k2, Nat.zero_le _, rfl, rfl, ⟨hl, by simp⟩, q0, q1, hr1, Ext.refl _ _⟩
  case round =>
   obtain ⟨j, l', A1', k1', A2', k2', hj, rfl, HL, HOk, r0, r1, HR, HX⟩ := hrel
   have hBs : B + 1 + 1 < W1.heap.size := blk_lt q2
   by_cases hlt : j < N
   ·have hie' : Ints anyB .i64 wr Ae (seqI l.epoch N) := Lie.mono hie (fun _ _ _ x => x) (fun _ _ => trivial) (fun b hb hb' => HX.out.block b hb' (by have := hb.1; intro e; omega))
    obtain ⟨be, oe, he, _, hce⟩ := Ints.get hie' (j := j) (by rw [seqI_length]; exact hlt)
    rw [seqI_getD _ _ _ hlt] at hce
    subst he
    clear hie'
    have hlt' : (j : Int) < N := by omega
    go_upto_region 4 with fail
    have hbr : Below w.heap.size w wr := by
     rw [HB.out]
     exact hbw.trans (HX.out.below (by omega) (fun i hi e => by omega))
    have hBr : B + 1 < wr.heap.size := blk_lt r1
    have hbn : BoolsR wr A2' l'.now := HR.out.n
    have hnl : l'.now.length = c.bal.length := HOk.out.1.n
    have hl1 := hok.l1
    have hl2 := hok.l2
    have cP : ∀ W, Below wr.heap.size wr W → Calls Tryz.prog 54 #[.agg #[.slice A c.bal.length k, .int .i64 c.slots, .int .i64 c.boost], .agg #[.bool l'.j.b0, .bool l'.j.b1, .bool l'.j.b2, .bool l'.j.b3, .int .i64 l'.j.prev.e, .int .u64 l'.j.prev.r, .int .i64 l'.j.cur.e, .int .u64 l'.j.cur.r, .int .i64 l'.j.fin.e, .int .u64 l'.j.fin.r, .int .i64 l'.epoch, .slice A1' l'.before.length k1', .slice A2' l'.now.length k2'], .func (.func g) #[] caps] W fun en w' => en = .returned (.agg #[.bool (pullL c l' f).b0, .bool (pullL c l' f).b1, .bool (pullL c l' f).b2, .bool (pullL c l' f).b3, .int .i64 (pullL c l' f).prev.e, .int .u64 (pullL c l' f).prev.r, .int .i64 (pullL c l' f).cur.e, .int .u64 (pullL c l' f).cur.r, .int .i64 (pullL c l' f).fin.e, .int .u64 (pullL c l' f).fin.r]) ∧ Below W.heap.size W w' := fun W hW =>
     Pull_calls W c A k l' A1' k1' A2' k2' g caps f hok ((HB0.out.below hbr).below hW) HOk.out.1 (HR.out.below hW) ((HC0.out.below hbr).below hW)
    have hmk := fun W => run_mk (P := Tryz.prog) W 97 4 (.bool false) 1 Tryz.underlying97 infoBool rfl c.bal.length (by omega) (by omega)
    obtain ⟨n, hn⟩ : ∃ n, n = c.bal.length := ⟨_, rfl⟩
    rw [← hn] at hmk r0 cP hnl hl1 hl2
    rw [hnl] at cP r1
    have hww : IntKind.i64.wrap (l.epoch + j + 1) = l.epoch + j + 1 := IntWalk.i64_in _ (by omega)
    have HN := Lib.hid hn
    clear hn
    obtain ⟨o, ho⟩ : ∃ o, o = Obj.cells (Array.replicate n (.bool false)) 4 := ⟨_, rfl⟩
    rw [← ho] at hmk
    have HOo := Lib.hid ho
    clear ho
    generalize hJ : pullL c l' f = J at cP
    have HJ := Lib.hid hJ
    clear hJ
    have hN2 : ∀ {X F : World} {m : Nat}, X.heap[m]? = some o → Ext (fun i => i = B + 1) X F → Below wr.heap.size wr X → F.heap[m]? = some o := fun h hx hX => by
     rw [HOo.out] at h ⊢
     exact blk_extne h hx (blk_below r1 hX) (by decide)
    have hD : Below wr.heap.size wr wr.drew := (Below.refl _ _).drew
    have KA : ∀ {W : World}, Below wr.heap.size wr W → Below wr.heap.size wr (W.alloc o) := fun h => below_alloc h _
    have hD2 : Below wr.heap.size wr (wr.alloc o).drew := (KA (Below.refl _ _)).drew
    have hND : (wr.alloc o).drew.heap[wr.heap.size]? = some o := blk_alloc wr o
    have KS2 : ∀ W, Below wr.heap.size wr W → (fun w' => (w'.cell? ⟨B, 0, none⟩ = some (.slice A n k) ∧ w'.cell? ⟨B, 1, none⟩ = some (.int .i64 c.slots) ∧ w'.cell? ⟨B, 2, none⟩ = some (.int .i64 c.boost)) ∧ (w'.cell? ⟨B + 1, 0, none⟩ = some (.bool l'.j.b0) ∧ w'.cell? ⟨B + 1, 1, none⟩ = some (.bool l'.j.b1) ∧ w'.cell? ⟨B + 1, 2, none⟩ = some (.bool l'.j.b2) ∧ w'.cell? ⟨B + 1, 3, none⟩ = some (.bool l'.j.b3) ∧ w'.cell? ⟨B + 1, 4, none⟩ = some (.int .i64 l'.j.prev.e) ∧ w'.cell? ⟨B + 1, 5, none⟩ = some (.int .u64 l'.j.prev.r) ∧ w'.cell? ⟨B + 1, 6, none⟩ = some (.int .i64 l'.j.cur.e) ∧ w'.cell? ⟨B + 1, 7, none⟩ = some (.int .u64 l'.j.cur.r) ∧ w'.cell? ⟨B + 1, 8, none⟩ = some (.int .i64 l'.j.fin.e) ∧ w'.cell? ⟨B + 1, 9, none⟩ = some (.int .u64 l'.j.fin.r) ∧ w'.cell? ⟨B + 1, 10, none⟩ = some (.int .i64 l'.epoch) ∧ w'.cell? ⟨B + 1, 11, none⟩ = some (.slice A1' l'.before.length k1') ∧ w'.cell? ⟨B + 1, 12, none⟩ = some (.slice A2' n k2'))) W := fun W hW => ⟨cs3 (blk_below r0 hW), cs13 (blk_below r1 hW)⟩
    have hHeld := KS2 _ hD
    refine beginK (fun w' => (w'.cell? ⟨B, 0, none⟩ = some (.slice A n k) ∧ w'.cell? ⟨B, 1, none⟩ = some (.int .i64 c.slots) ∧ w'.cell? ⟨B, 2, none⟩ = some (.int .i64 c.boost)) ∧ (w'.cell? ⟨B + 1, 0, none⟩ = some (.bool l'.j.b0) ∧ w'.cell? ⟨B + 1, 1, none⟩ = some (.bool l'.j.b1) ∧ w'.cell? ⟨B + 1, 2, none⟩ = some (.bool l'.j.b2) ∧ w'.cell? ⟨B + 1, 3, none⟩ = some (.bool l'.j.b3) ∧ w'.cell? ⟨B + 1, 4, none⟩ = some (.int .i64 l'.j.prev.e) ∧ w'.cell? ⟨B + 1, 5, none⟩ = some (.int .u64 l'.j.prev.r) ∧ w'.cell? ⟨B + 1, 6, none⟩ = some (.int .i64 l'.j.cur.e) ∧ w'.cell? ⟨B + 1, 7, none⟩ = some (.int .u64 l'.j.cur.r) ∧ w'.cell? ⟨B + 1, 8, none⟩ = some (.int .i64 l'.j.fin.e) ∧ w'.cell? ⟨B + 1, 9, none⟩ = some (.int .u64 l'.j.fin.r) ∧ w'.cell? ⟨B + 1, 10, none⟩ = some (.int .i64 l'.epoch) ∧ w'.cell? ⟨B + 1, 11, none⟩ = some (.slice A1' l'.before.length k1') ∧ w'.cell? ⟨B + 1, 12, none⟩ = some (.slice A2' n k2'))) 14 (by kernel_rfl) ?_
    refine' takeK (i := 0) (v := .agg #[Value.slice A n k, .int .i64 c.slots, .int .i64 c.boost]) (d := some 26) rfl rfl rfl (by kernel_rfl) (by kernel_rfl) (by kernel_rfl) (by kernel_rfl) (by kernel_rfl) (fun _ _ _ h => h) (Or.inl ⟨by kernel_rfl, fun w' hSw => by obtain ⟨⟨h0, h1, h2⟩, g0, g1, g2, g3, g4, g5, g6, g7, g8, g9, g10, g11, g12⟩ := hSw; first | (go_simp; done) | (go_simp; with_reducible rfl)⟩) hHeld ?_
    try simp only [Act.put, sA, sB, sC]
    refine' takeK (i := 1) (v := .agg #[Value.bool l'.j.b0, .bool l'.j.b1, .bool l'.j.b2, .bool l'.j.b3, .int .i64 l'.j.prev.e, .int .u64 l'.j.prev.r, .int .i64 l'.j.cur.e, .int .u64 l'.j.cur.r, .int .i64 l'.j.fin.e, .int .u64 l'.j.fin.r, .int .i64 l'.epoch, .slice A1' l'.before.length k1', .slice A2' n k2']) (d := some 27) rfl rfl rfl (by kernel_rfl) (by kernel_rfl) (by kernel_rfl) (by kernel_rfl) (by kernel_rfl) (fun _ _ _ h => h) (Or.inl ⟨by kernel_rfl, fun w' hSw => by obtain ⟨⟨h0, h1, h2⟩, g0, g1, g2, g3, g4, g5, g6, g7, g8, g9, g10, g11, g12⟩ := hSw; first | (go_simp; done) | (go_simp; with_reducible rfl)⟩) hHeld ?_
    try simp only [Act.put, sA, sB, sC]
    refine' takeK (i := 2) (v := .func (.func g) #[] caps) (d := some 28) rfl rfl rfl (by kernel_rfl) (by kernel_rfl) (by kernel_rfl) (by kernel_rfl) (by kernel_rfl) (fun _ _ _ h => h) (Or.inl ⟨by kernel_rfl, fun w' hSw => by obtain ⟨⟨h0, h1, h2⟩, g0, g1, g2, g3, g4, g5, g6, g7, g8, g9, g10, g11, g12⟩ := hSw; first | (go_simp; done) | (go_simp; with_reducible rfl)⟩) hHeld ?_
    try simp only [Act.put, sA, sB, sC]
    refine' takeK (i := 4) (v := .int .i64 (l.epoch + j)) (d := some 30) rfl rfl rfl (by kernel_rfl) (by kernel_rfl) (by kernel_rfl) (by kernel_rfl) (by kernel_rfl) (fun _ _ _ h => h) (Or.inl ⟨by kernel_rfl, fun w' hSw => by obtain ⟨⟨h0, h1, h2⟩, g0, g1, g2, g3, g4, g5, g6, g7, g8, g9, g10, g11, g12⟩ := hSw; first | (go_simp; done) | (go_simp; with_reducible rfl)⟩) hHeld ?_
    try simp only [Act.put, sA, sB, sC]
    refine' takeK (i := 5) (v := .int .i64 (l.epoch + j + 1)) (d := some 31) rfl rfl rfl (by kernel_rfl) (by kernel_rfl) (by kernel_rfl) (by kernel_rfl) (by kernel_rfl) (fun _ _ _ h => h) (Or.inl ⟨by kernel_rfl, fun w' hSw => by obtain ⟨⟨h0, h1, h2⟩, g0, g1, g2, g3, g4, g5, g6, g7, g8, g9, g10, g11, g12⟩ := hSw; first | (go_simp; done) | (go_simp; with_reducible rfl)⟩) hHeld ?_
    try simp only [Act.put, sA, sB, sC]
    refine' takeK (i := 6) (v := .pointer (some ⟨B + 1, 12, none⟩)) (d := some 32) rfl rfl rfl (by kernel_rfl) (by kernel_rfl) (by kernel_rfl) (by kernel_rfl) (by kernel_rfl) (fun _ _ _ h => h) (Or.inl ⟨by kernel_rfl, fun w' hSw => by obtain ⟨⟨h0, h1, h2⟩, g0, g1, g2, g3, g4, g5, g6, g7, g8, g9, g10, g11, g12⟩ := hSw; first | (go_simp; done) | (go_simp; with_reducible rfl)⟩) hHeld ?_
    try simp only [Act.put, sA, sB, sC]
    refine' takeK (i := 7) (v := .slice A2' n k2') (d := some 33) rfl rfl rfl (by kernel_rfl) (by kernel_rfl) (by kernel_rfl) (by kernel_rfl) (by kernel_rfl) (fun _ _ _ h => h) (Or.inl ⟨by kernel_rfl, fun w' hSw => by obtain ⟨⟨h0, h1, h2⟩, g0, g1, g2, g3, g4, g5, g6, g7, g8, g9, g10, g11, g12⟩ := hSw; first | (go_simp; done) | (go_simp; with_reducible rfl)⟩) hHeld ?_
    try simp only [Act.put, sA, sB, sC]
    refine' takeK (i := 9) (v := .pointer (some ⟨B, 0, none⟩)) (d := some 35) rfl rfl rfl (by kernel_rfl) (by kernel_rfl) (by kernel_rfl) (by kernel_rfl) (by kernel_rfl) (fun _ _ _ h => h) (Or.inl ⟨by kernel_rfl, fun w' hSw => by obtain ⟨⟨h0, h1, h2⟩, g0, g1, g2, g3, g4, g5, g6, g7, g8, g9, g10, g11, g12⟩ := hSw; first | (go_simp; done) | (go_simp; with_reducible rfl)⟩) hHeld ?_
    try simp only [Act.put, sA, sB, sC]
    refine' takeK (i := 10) (v := .slice A n k) (d := some 36) rfl rfl rfl (by kernel_rfl) (by kernel_rfl) (by kernel_rfl) (by kernel_rfl) (by kernel_rfl) (fun _ _ _ h => h) (Or.inl ⟨by kernel_rfl, fun w' hSw => by obtain ⟨⟨h0, h1, h2⟩, g0, g1, g2, g3, g4, g5, g6, g7, g8, g9, g10, g11, g12⟩ := hSw; first | (go_simp; done) | (go_simp; with_reducible rfl)⟩) hHeld ?_
    try simp only [Act.put, sA, sB, sC]
    refine' takeK (i := 11) (v := .int .i64 n) (d := some 37) rfl rfl rfl (by kernel_rfl) (by kernel_rfl) (by kernel_rfl) (by kernel_rfl) (by kernel_rfl) (fun _ _ _ h => h) (Or.inl ⟨by kernel_rfl, fun w' hSw => by obtain ⟨⟨h0, h1, h2⟩, g0, g1, g2, g3, g4, g5, g6, g7, g8, g9, g10, g11, g12⟩ := hSw; first | (go_simp; done) | (go_simp; with_reducible rfl)⟩) hHeld ?_
    try simp only [Act.put, sA, sB, sC]
    refine readyK (rs := [3, 12]) (by kernel_rfl) (by simp) ?_
    refine AllReadyK.cons rfl (fun K hK => ?_) ?_
    ·go_simp
     refine (cP _ hD).mono ?_
     rintro e w2 ⟨rfl, hp⟩
     have hW2 : Below wr.heap.size wr w2 := hw_trans hD hp
     obtain ⟨px0, px1, px2, px3, px4, px5, px6, px7, px8, px9, px10, px11, px12⟩ := cs13 (blk_below r1 hW2)
     have pz := blk_frozen (blk_below r1 hW2)
     have pz0 := pz 0
     have pz1 := pz 1
     have pz2 := pz 2
     have pz3 := pz 3
     have pz4 := pz 4
     have pz5 := pz 5
     have pz6 := pz 6
     have pz7 := pz 7
     have pz8 := pz 8
     have pz9 := pz 9
     have pz10 := pz 10
     have pz11 := pz 11
     have pz12 := pz 12
     clear pz
     have ps : B + 1 < w2.heap.size := Nat.lt_of_lt_of_le hBr hW2.size
     have ps1 : B + 1 < w2.heap.size + 1 := Nat.lt_succ_of_lt ps
     refine hK.out _ _ (fun _ => KS2 _ hW2) ?_
     have hHeld := KS2 _ hW2
     clear hK K
     try simp only [Act.put, sA, sB, sC]
     refine readyK (rs := [8, 12]) (by kernel_rfl) (by simp) ?_
     refine AllReadyK.cons rfl (fun K hK => ?_) ?_
     ·refine step_app wr.heap.size (by rfl) (.const (.slice none 0 0)) (.tmp 33) 97 4 (.bool false) 1 1 rfl Tryz.underlying97 infoBool rfl (by decide) (.slice none 0 0) 0 [] (by rfl) (own_nil _ _ _ _) A2' n k2' (l'.now.map Value.bool) (by rfl) (by simp [hnl]) (flat_bools (hbn.below hW2)) (bools_one _) (by omega) (by omega) (Below.size hW2) ?_
      intro A6 c6 w3 ho hg _
      have hp := grown_below hg
      have hW3 : Below wr.heap.size wr w3 := hw_trans hW2 hp
      obtain ⟨yx0, yx1, yx2, yx3, yx4, yx5, yx6, yx7, yx8, yx9, yx10, yx11, yx12⟩ := cs13 (blk_below r1 hW3)
      have yz := blk_frozen (blk_below r1 hW3)
      have yz0 := yz 0
      have yz1 := yz 1
      have yz2 := yz 2
      have yz3 := yz 3
      have yz4 := yz 4
      have yz5 := yz 5
      have yz6 := yz 6
      have yz7 := yz 7
      have yz8 := yz 8
      have yz9 := yz 9
      have yz10 := yz 10
      have yz11 := yz 11
      have yz12 := yz 12
      clear yz
      have ys : B + 1 < w3.heap.size := Nat.lt_of_lt_of_le hBr hW3.size
      have ys1 : B + 1 < w3.heap.size + 1 := Nat.lt_succ_of_lt ys
      have hA := bools_own ho (by omega)
      clear ho hg
      refine hK.out _ _ (fun _ => KS2 _ hW3) ?_
      have hHeld := KS2 _ hW3
      clear hK K
      try simp only [Act.put, sA, sB, sC]
      refine readyK (rs := [12]) (by kernel_rfl) (by simp) ?_
      refine AllReadyK.cons rfl (fun K hK => ?_) ?_
      ·go_simp
       refine hK.out _ _ (fun _ => KS2 _ (KA hW3)) ?_
       have hHeld := KS2 _ (KA hW3)
       clear hK K
       try simp only [Act.put, sA, sB, sC]
       refine' takeK (i := 13) (v := .agg #[.bool J.b0, .bool J.b1, .bool J.b2, .bool J.b3, .int .i64 J.prev.e, .int .u64 J.prev.r, .int .i64 J.cur.e, .int .u64 J.cur.r, .int .i64 J.fin.e, .int .u64 J.fin.r, .int .i64 (l.epoch + j + 1), .slice A6 n c6, .slice (some ⟨w3.heap.size, 0, none⟩) n n]) (d := some 39) rfl rfl rfl (by kernel_rfl) (by kernel_rfl) (by kernel_rfl) (by kernel_rfl) (by kernel_rfl) (fun _ _ _ h => h) (Or.inl ⟨by kernel_rfl, fun w' hSw => by obtain ⟨⟨h0, h1, h2⟩, g0, g1, g2, g3, g4, g5, g6, g7, g8, g9, g10, g11, g12⟩ := hSw; first | (go_simp; done) | (go_simp; with_reducible rfl)⟩) hHeld ?_
       try simp only [Act.put, sA, sB, sC]
       refine readyK (rs := [14]) (by kernel_rfl) (by simp) ?_
       refine AllReadyK.cons rfl (fun K hK => ?_) AllReadyK.nil
       go_simp
       refine hK.out _ _ (fun h => absurd rfl h) ?_
       clear hK K
       try simp only [Act.put, sA, sB, sC]
       refine doneK (by kernel_rfl) ?_ _
       go_wp2
       generalize hC : World.setCell (World.setCell (World.setCell (World.setCell (World.setCell (World.setCell (World.setCell (World.setCell (World.setCell (World.setCell (World.setCell (World.setCell (World.setCell _ _ _) _ _) _ _) _ _) _ _) _ _) _ _) _ _) _ _) _ _) _ _) _ _) _ _ = W9
       obtain ⟨hX, h9, hx9, hs9⟩ := chain13X hC (by first | (with_reducible assumption) | exact KA (by with_reducible assumption)) r1 rfl
       have G0 := blk_ext (blk_below r0 hX) hx9 (by omega)
       have GA := BoolsR.ext hA hx9 (blk_below r1 hX) (by decide)
       have GX : Ext (fun i => i = B + 1) W1 _ := (HX.out.thenBelow hX).trans hx9 (fun i hi e => e)
       clear hC
       go_roundw
       case rel =>
        first
         | exact adv_leaf hlt hok HC0.out.rng he0 (by omega) HN.out HJ.out HL.out HOk.out hnl G0 h9 GA (by rw [← HOo.out]; exact hN2 hN hx9 hX) GX
         | exact adv_leaf hlt hok HC0.out.rng he0 (by omega) HN.out HJ.out HL.out HOk.out hnl (blk_below G0 (below_alloc (Below.refl _ _) o)) (blk_below h9 (below_alloc (Below.refl _ _) o)) (GA.below (below_alloc (Below.refl _ _) o)) (by rw [← HOo.out, ← hs9]; exact blk_alloc _ o) (GX.thenBelow (below_alloc (Below.refl _ _) o))
       case measure => first | omega | (simp only [intOf]; omega) | (show _ - ((j : Int) + 1).toNat < N - (j : Int).toNat; omega)
      exact AllReadyK.nil
     refine AllReadyK.cons rfl (fun K hK => ?_) ?_
     ·go_simp
      refine hK.out _ _ (fun _ => KS2 _ (KA hW2)) ?_
      have hHeld := KS2 _ (KA hW2)
      clear hK K
      try simp only [Act.put, sA, sB, sC]
      refine readyK (rs := [8]) (by kernel_rfl) (by simp) ?_
      refine AllReadyK.cons rfl (fun K hK => ?_) ?_
      ·refine step_app wr.heap.size (by rfl) (.const (.slice none 0 0)) (.tmp 33) 97 4 (.bool false) 1 1 rfl Tryz.underlying97 infoBool rfl (by decide) (.slice none 0 0) 0 [] (by rfl) (own_nil _ _ _ _) A2' n k2' (l'.now.map Value.bool) (by rfl) (by simp [hnl]) (flat_bools (hbn.below (KA hW2))) (bools_one _) (by omega) (by omega) (Below.size (KA hW2)) ?_
       intro A6 c6 w3 ho hg _
       have hp := grown_below hg
       have hW3 : Below wr.heap.size wr w3 := hw_trans (KA hW2) hp
       obtain ⟨yx0, yx1, yx2, yx3, yx4, yx5, yx6, yx7, yx8, yx9, yx10, yx11, yx12⟩ := cs13 (blk_below r1 hW3)
       have yz := blk_frozen (blk_below r1 hW3)
       have yz0 := yz 0
       have yz1 := yz 1
       have yz2 := yz 2
       have yz3 := yz 3
       have yz4 := yz 4
       have yz5 := yz 5
       have yz6 := yz 6
       have yz7 := yz 7
       have yz8 := yz 8
       have yz9 := yz 9
       have yz10 := yz 10
       have yz11 := yz 11
       have yz12 := yz 12
       clear yz
       have ys : B + 1 < w3.heap.size := Nat.lt_of_lt_of_le hBr hW3.size
       have ys1 : B + 1 < w3.heap.size + 1 := Nat.lt_succ_of_lt ys
       have hN := blk_below (blk_alloc _ o) hp
       have hA := bools_own ho (by omega)
       clear ho hg
       refine hK.out _ _ (fun _ => KS2 _ hW3) ?_
       have hHeld := KS2 _ hW3
       clear hK K
       try simp only [Act.put, sA, sB, sC]
       refine' takeK (i := 13) (v := .agg #[.bool J.b0, .bool J.b1, .bool J.b2, .bool J.b3, .int .i64 J.prev.e, .int .u64 J.prev.r, .int .i64 J.cur.e, .int .u64 J.cur.r, .int .i64 J.fin.e, .int .u64 J.fin.r, .int .i64 (l.epoch + j + 1), .slice A6 n c6, .slice (some ⟨w2.heap.size, 0, none⟩) n n]) (d := some 39) rfl rfl rfl (by kernel_rfl) (by kernel_rfl) (by kernel_rfl) (by kernel_rfl) (by kernel_rfl) (fun _ _ _ h => h) (Or.inl ⟨by kernel_rfl, fun w' hSw => by obtain ⟨⟨h0, h1, h2⟩, g0, g1, g2, g3, g4, g5, g6, g7, g8, g9, g10, g11, g12⟩ := hSw; first | (go_simp; done) | (go_simp; with_reducible rfl)⟩) hHeld ?_
       try simp only [Act.put, sA, sB, sC]
       refine readyK (rs := [14]) (by kernel_rfl) (by simp) ?_
       refine AllReadyK.cons rfl (fun K hK => ?_) AllReadyK.nil
       go_simp
       refine hK.out _ _ (fun h => absurd rfl h) ?_
       clear hK K
       try simp only [Act.put, sA, sB, sC]
       refine doneK (by kernel_rfl) ?_ _
       go_wp2
       generalize hC : World.setCell (World.setCell (World.setCell (World.setCell (World.setCell (World.setCell (World.setCell (World.setCell (World.setCell (World.setCell (World.setCell (World.setCell (World.setCell _ _ _) _ _) _ _) _ _) _ _) _ _) _ _) _ _) _ _) _ _) _ _) _ _) _ _ = W9
       obtain ⟨hX, h9, hx9, hs9⟩ := chain13X hC (by first | (with_reducible assumption) | exact KA (by with_reducible assumption)) r1 rfl
       have G0 := blk_ext (blk_below r0 hX) hx9 (by omega)
       have GA := BoolsR.ext hA hx9 (blk_below r1 hX) (by decide)
       have GX : Ext (fun i => i = B + 1) W1 _ := (HX.out.thenBelow hX).trans hx9 (fun i hi e => e)
       clear hC
       go_roundw
       case rel =>
        first
         | exact adv_leaf hlt hok HC0.out.rng he0 (by omega) HN.out HJ.out HL.out HOk.out hnl G0 h9 GA (by rw [← HOo.out]; exact hN2 hN hx9 hX) GX
         | exact adv_leaf hlt hok HC0.out.rng he0 (by omega) HN.out HJ.out HL.out HOk.out hnl (blk_below G0 (below_alloc (Below.refl _ _) o)) (blk_below h9 (below_alloc (Below.refl _ _) o)) (GA.below (below_alloc (Below.refl _ _) o)) (by rw [← HOo.out, ← hs9]; exact blk_alloc _ o) (GX.thenBelow (below_alloc (Below.refl _ _) o))
       case measure => first | omega | (simp only [intOf]; omega) | (show _ - ((j : Int) + 1).toNat < N - (j : Int).toNat; omega)
      exact AllReadyK.nil
     exact AllReadyK.nil
    refine AllReadyK.cons rfl (fun K hK => ?_) ?_
    ·go_simp
     refine hK.out _ _ (fun _ => KS2 _ hD2) ?_
     have hHeld := KS2 _ hD2
     clear hK K
     try simp only [Act.put, sA, sB, sC]
     refine readyK (rs := [3]) (by kernel_rfl) (by simp) ?_
     refine AllReadyK.cons rfl (fun K hK => ?_) ?_
     ·go_simp
      refine (cP _ hD2).mono ?_
      rintro e w2 ⟨rfl, hp⟩
      have hW2 : Below wr.heap.size wr w2 := hw_trans hD2 hp
      obtain ⟨px0, px1, px2, px3, px4, px5, px6, px7, px8, px9, px10, px11, px12⟩ := cs13 (blk_below r1 hW2)
      have pz := blk_frozen (blk_below r1 hW2)
      have pz0 := pz 0
      have pz1 := pz 1
      have pz2 := pz 2
      have pz3 := pz 3
      have pz4 := pz 4
      have pz5 := pz 5
      have pz6 := pz 6
      have pz7 := pz 7
      have pz8 := pz 8
      have pz9 := pz 9
      have pz10 := pz 10
      have pz11 := pz 11
      have pz12 := pz 12
      clear pz
      have ps : B + 1 < w2.heap.size := Nat.lt_of_lt_of_le hBr hW2.size
      have ps1 : B + 1 < w2.heap.size + 1 := Nat.lt_succ_of_lt ps
      have hN := blk_below (hND) hp
      refine hK.out _ _ (fun _ => KS2 _ hW2) ?_
      have hHeld := KS2 _ hW2
      clear hK K
      try simp only [Act.put, sA, sB, sC]
      refine readyK (rs := [8]) (by kernel_rfl) (by simp) ?_
      refine AllReadyK.cons rfl (fun K hK => ?_) ?_
      ·refine step_app wr.heap.size (by rfl) (.const (.slice none 0 0)) (.tmp 33) 97 4 (.bool false) 1 1 rfl Tryz.underlying97 infoBool rfl (by decide) (.slice none 0 0) 0 [] (by rfl) (own_nil _ _ _ _) A2' n k2' (l'.now.map Value.bool) (by rfl) (by simp [hnl]) (flat_bools (hbn.below hW2)) (bools_one _) (by omega) (by omega) (Below.size hW2) ?_
       intro A6 c6 w3 ho hg _
       have hp := grown_below hg
       have hW3 : Below wr.heap.size wr w3 := hw_trans hW2 hp
       obtain ⟨yx0, yx1, yx2, yx3, yx4, yx5, yx6, yx7, yx8, yx9, yx10, yx11, yx12⟩ := cs13 (blk_below r1 hW3)
       have yz := blk_frozen (blk_below r1 hW3)
       have yz0 := yz 0
       have yz1 := yz 1
       have yz2 := yz 2
       have yz3 := yz 3
       have yz4 := yz 4
       have yz5 := yz 5
       have yz6 := yz 6
       have yz7 := yz 7
       have yz8 := yz 8
       have yz9 := yz 9
       have yz10 := yz 10
       have yz11 := yz 11
       have yz12 := yz 12
       clear yz
       have ys : B + 1 < w3.heap.size := Nat.lt_of_lt_of_le hBr hW3.size
       have ys1 : B + 1 < w3.heap.size + 1 := Nat.lt_succ_of_lt ys
       have hN := blk_below (hN) hp
       have hA := bools_own ho (by omega)
       clear ho hg
       refine hK.out _ _ (fun _ => KS2 _ hW3) ?_
       have hHeld := KS2 _ hW3
       clear hK K
       try simp only [Act.put, sA, sB, sC]
       refine' takeK (i := 13) (v := .agg #[.bool J.b0, .bool J.b1, .bool J.b2, .bool J.b3, .int .i64 J.prev.e, .int .u64 J.prev.r, .int .i64 J.cur.e, .int .u64 J.cur.r, .int .i64 J.fin.e, .int .u64 J.fin.r, .int .i64 (l.epoch + j + 1), .slice A6 n c6, .slice (some ⟨wr.heap.size, 0, none⟩) n n]) (d := some 39) rfl rfl rfl (by kernel_rfl) (by kernel_rfl) (by kernel_rfl) (by kernel_rfl) (by kernel_rfl) (fun _ _ _ h => h) (Or.inl ⟨by kernel_rfl, fun w' hSw => by obtain ⟨⟨h0, h1, h2⟩, g0, g1, g2, g3, g4, g5, g6, g7, g8, g9, g10, g11, g12⟩ := hSw; first | (go_simp; done) | (go_simp; with_reducible rfl)⟩) hHeld ?_
       try simp only [Act.put, sA, sB, sC]
       refine readyK (rs := [14]) (by kernel_rfl) (by simp) ?_
       refine AllReadyK.cons rfl (fun K hK => ?_) AllReadyK.nil
       go_simp
       refine hK.out _ _ (fun h => absurd rfl h) ?_
       clear hK K
       try simp only [Act.put, sA, sB, sC]
       refine doneK (by kernel_rfl) ?_ _
       go_wp2
       generalize hC : World.setCell (World.setCell (World.setCell (World.setCell (World.setCell (World.setCell (World.setCell (World.setCell (World.setCell (World.setCell (World.setCell (World.setCell (World.setCell _ _ _) _ _) _ _) _ _) _ _) _ _) _ _) _ _) _ _) _ _) _ _) _ _) _ _ = W9
       obtain ⟨hX, h9, hx9, hs9⟩ := chain13X hC (by first | (with_reducible assumption) | exact KA (by with_reducible assumption)) r1 rfl
       have G0 := blk_ext (blk_below r0 hX) hx9 (by omega)
       have GA := BoolsR.ext hA hx9 (blk_below r1 hX) (by decide)
       have GX : Ext (fun i => i = B + 1) W1 _ := (HX.out.thenBelow hX).trans hx9 (fun i hi e => e)
       clear hC
       go_roundw
       case rel =>
        first
         | exact adv_leaf hlt hok HC0.out.rng he0 (by omega) HN.out HJ.out HL.out HOk.out hnl G0 h9 GA (by rw [← HOo.out]; exact hN2 hN hx9 hX) GX
         | exact adv_leaf hlt hok HC0.out.rng he0 (by omega) HN.out HJ.out HL.out HOk.out hnl (blk_below G0 (below_alloc (Below.refl _ _) o)) (blk_below h9 (below_alloc (Below.refl _ _) o)) (GA.below (below_alloc (Below.refl _ _) o)) (by rw [← HOo.out, ← hs9]; exact blk_alloc _ o) (GX.thenBelow (below_alloc (Below.refl _ _) o))
       case measure => first | omega | (simp only [intOf]; omega) | (show _ - ((j : Int) + 1).toNat < N - (j : Int).toNat; omega)
      exact AllReadyK.nil
     exact AllReadyK.nil
    exact AllReadyK.nil
   ·obtain rfl : j = N := by omega
    have hR := HR.out
    have q2' := blk_ext q2 HX.out (by omega)
    go_wp2_with (first
     | (refine wpList_loadP rfl 99 (.tmp 5) rfl (B + 1) 0 [.bool l'.j.b0, .bool l'.j.b1, .bool l'.j.b2, .bool l'.j.b3, .int .i64 l'.j.prev.e, .int .u64 l'.j.prev.r, .int .i64 l'.j.cur.e, .int .u64 l'.j.cur.r, .int .i64 l'.j.fin.e, .int .u64 l'.j.fin.r, .int .i64 l'.epoch, .slice A1' l'.before.length k1', .slice A2' l'.now.length k2'] _ r1 rfl rfl _ Tryz.underlying99 rfl iLs ?_)
     | (refine wpList_storeB rfl 99 (.tmp 8) (.tmp 41) rfl (B + 1 + 1) _ [.bool l'.j.b0, .bool l'.j.b1, .bool l'.j.b2, .bool l'.j.b3, .int .i64 l'.j.prev.e, .int .u64 l'.j.prev.r, .int .i64 l'.j.cur.e, .int .u64 l'.j.cur.r, .int .i64 l'.j.fin.e, .int .u64 l'.j.fin.r, .int .i64 l'.epoch, .slice A1' l'.before.length k1', .slice A2' l'.now.length k2'] q2' rfl rfl rfl iLs rfl ?_; intro W5 hR5 hx5 hs5))
    refine bodyPost_ret (results_cellB rfl _ (B + 1 + 1) _ hR5 rfl _ Tryz.underlying99 rfl iLs) rfl ?_
    rw [HES.out, ← HL.out, HB.out]
    refine ⟨A1', k1', A2', k2', rfl, ?_, ?_⟩
    ·exact hR.ext hx5 q2' (by decide)
    ·exact (hbw.trans (HX.out.below (by omega) (fun i hi e => by omega))).trans (hx5.below (by have := HX.out.size; omega) (fun i hi e => by omega))
end Go.Proofs.YtnppimhlfcjghaaGreat
