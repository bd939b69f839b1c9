import Derived.Test.YtnppimhlfcjghaaGreatPAdv2
import Derived.Test.YtnppimhlfcjghaaGreatPSortNil
import Derived.Test.YtnppimhlfcjghaaGreatPVote2
import Derived.Test.YtnppimhlfcjghaaGreatPOpsK
set_option linter.all false
set_option linter.unusedVariables false
set_option linter.unusedSimpArgs false
namespace Go.Proofs.YtnppimhlfcjghaaGreat
open Go.RowKit
set_option maxRecDepth 100000
set_option maxHeartbeats 8000000
theorem neqPt (w : World) (a b : Int) (c d : Int) : (binOp .neq 38 (.agg #[.int .i64 a, .int .u64 b]) (.agg #[.int .i64 c, .int .u64 d])).run Tryz.prog w = .ok (.bool (!(a == c && b == d))) w := by
 have h := eqPt w a b c d
 rw [run_eql_struct] at h
 rw [run_neq_struct]
 cases hr : (Op.equalIn 10000 38 (.agg #[.int .i64 a, .int .u64 b]) (.agg #[.int .i64 c, .int .u64 d])).run Tryz.prog w with
 | ok b' w' =>
  rw [hr] at h
  simp only [Result.andThen_ok, Result.ok.injEq, Value.bool.injEq] at h
  obtain ⟨rfl, rfl⟩ := h
  simp only [Result.andThen_ok]
 | halt x w' => rw [hr] at h; cases h
def srcP (l : Ls) (now : Bool) : Pt := if now then l.j.cur else l.j.prev
def ctF (B B0 : Nat) (l : Ls) (A1 : Option Addr) (k1 : Nat) (A2 : Option Addr) (k2 : Nat) : Nat → Value → World → Prop
 | 0, v, _ => v = .pointer (some ⟨B + 1, 0, none⟩)
 | 1, v, _ => v = .agg #[.bool l.j.b0, .bool l.j.b1, .bool l.j.b2, .bool l.j.b3, .int .i64 l.j.prev.e, .int .u64 l.j.prev.r, .int .i64 l.j.cur.e, .int .u64 l.j.cur.r, .int .i64 l.j.fin.e, .int .u64 l.j.fin.r]
 | 2, v, _ => v = .pointer (some ⟨B + 1, 10, none⟩)
 | 3, v, _ => v = .int .i64 l.epoch
 | 4, v, _ => v = .pointer (some ⟨B + 1, 11, none⟩)
 | 5, v, _ => v = .slice A1 l.before.length k1
 | 6, v, w => ∃ g c cs, v = .slice (some ⟨g, 0, none⟩) l.before.length c ∧ w.heap[g]? = some (.cells cs 4 (0, 0)) ∧ l.before.map Value.bool <+: cs.toList ∧ B0 ≤ g
 | 7, v, _ => v = .pointer (some ⟨B + 1, 12, none⟩)
 | 8, v, _ => v = .slice A2 l.now.length k2
 | 9, v, w => ∃ g c cs, v = .slice (some ⟨g, 0, none⟩) l.now.length c ∧ w.heap[g]? = some (.cells cs 4 (0, 0)) ∧ l.now.map Value.bool <+: cs.toList ∧ B0 ≤ g
 | 10, v, w => ∃ g c cs g' c' cs', v = .agg #[.bool l.j.b0, .bool l.j.b1, .bool l.j.b2, .bool l.j.b3, .int .i64 l.j.prev.e, .int .u64 l.j.prev.r, .int .i64 l.j.cur.e, .int .u64 l.j.cur.r, .int .i64 l.j.fin.e, .int .u64 l.j.fin.r, .int .i64 l.epoch, .slice (some ⟨g, 0, none⟩) l.before.length c, .slice (some ⟨g', 0, none⟩) l.now.length c'] ∧
     w.heap[g]? = some (.cells cs 4 (0, 0)) ∧ l.before.map Value.bool <+: cs.toList ∧ B0 ≤ g ∧ w.heap[g']? = some (.cells cs' 4 (0, 0)) ∧ l.now.map Value.bool <+: cs'.toList ∧ B0 ≤ g' ∧ g ≠ g'
 | 11, v, w => ∃ nb, v = .pointer (some ⟨nb, 0, none⟩) ∧ w.heap[nb]? = some (.cells #[.bool Ls.zero.j.b0, .bool Ls.zero.j.b1, .bool Ls.zero.j.b2, .bool Ls.zero.j.b3, .int .i64 Ls.zero.j.prev.e, .int .u64 Ls.zero.j.prev.r, .int .i64 Ls.zero.j.cur.e, .int .u64 Ls.zero.j.cur.r, .int .i64 Ls.zero.j.fin.e, .int .u64 Ls.zero.j.fin.r, .int .i64 Ls.zero.epoch, .slice (none : Option Addr) Ls.zero.before.length 0, .slice (none : Option Addr) Ls.zero.now.length 0] 99 (0, 0)) ∧ B0 ≤ nb
 | _, _, _ => True
theorem ctF_below {B B0 : Nat} {l : Ls} {A1 : Option Addr} {k1 : Nat} {A2 : Option Addr} {k2 : Nat} {w w' : World} (hb : Below w.heap.size w w') : ∀ j u, ctF B B0 l A1 k1 A2 k2 j u w → ctF B B0 l A1 k1 A2 k2 j u w'
 | 0, _, h | 1, _, h | 2, _, h | 3, _, h | 4, _, h | 5, _, h | 7, _, h | 8, _, h => h
 | 6, _, ⟨g, c, cs, h1, h2, h3⟩ => ⟨g, c, cs, h1, blk_below h2 hb, h3⟩
 | 9, _, ⟨g, c, cs, h1, h2, h3⟩ => ⟨g, c, cs, h1, blk_below h2 hb, h3⟩
 | 10, _, ⟨g, c, cs, g', c', cs', h1, h2, h3, h4, h5, h6⟩ => ⟨g, c, cs, g', c', cs', h1, blk_below h2 hb, h3, h4, blk_below h5 hb, h6⟩
 | 11, _, ⟨nb, h1, h2, h3⟩ => ⟨nb, h1, blk_below h2 hb, h3⟩
 | _ + 12, _, _ => trivial
def ctG (B0 : Nat) (W0 : World) (l : Array Bool) (ts : Array Value) (w : World) : Prop :=
 Below B0 W0 w ∧ (l.getD 9 false = true → l.getD 6 false = true ∧ ∀ g n c g' n' c', ts.getD 70 undef = .slice (some ⟨g, 0, none⟩) n c → ts.getD 73 undef = .slice (some ⟨g', 0, none⟩) n' c' → g ≠ g')
theorem put_ne {ts : Array Value} {d e : Nat} (h : d ≠ e) (v : Value) : (ts.setIfInBounds d v).getD e undef = ts.getD e undef := by simp only [Array.getD_eq_getD_getElem?, Array.getElem?_setIfInBounds, if_neg h]
theorem put_at {ts : Array Value} {d : Nat} (h : d < ts.size) (v : Value) : (ts.setIfInBounds d v).getD d undef = v := by simp [Array.getD_eq_getD_getElem?, Array.getElem?_setIfInBounds, h]
theorem ctG_step {B0 : Nat} {W0 w w' : World} {l : Array Bool} {ts : Array Value} {i d : Nat} {v : Value} (h : ctG B0 W0 l ts w) (hb : Below w.heap.size w w') (hi : i ≠ 6 ∧ i ≠ 9) (hd : d ≠ 70 ∧ d ≠ 73) (hB : B0 ≤ w.heap.size) : ctG B0 W0 (l.setIfInBounds i true) (ts.setIfInBounds d v) w' := by
 obtain ⟨h1, h2⟩ := h
 unfold ctG
 rw [put_ne hd.1, put_ne hd.2, getD_set_ne false hi.1, getD_set_ne false hi.2]
 exact ⟨h1.trans (hb.mono hB), h2⟩
theorem ctG_six {B0 : Nat} {W0 w w' : World} {l : Array Bool} {ts : Array Value} {v : Value} (h : ctG B0 W0 l ts w) (hl : l.getD 6 true = false) (h6 : 6 < l.size) (hb : Below B0 W0 w') : ctG B0 W0 (l.setIfInBounds 6 true) (ts.setIfInBounds 70 v) w' := by
 refine ⟨hb, fun e => ?_⟩
 rw [getD_set_ne false (by decide)] at e
 have := (h.2 e).1
 rw [getD_tf h6 hl] at this
 cases this
theorem cells_ne2 {w : World} {a b : Nat} {cs cs' : Array Value} {t t' : TypeId} {f f' : Nat × Nat} (h1 : w.heap[a]? = some (.cells cs t f)) (h2 : w.heap[b]? = some (.cells cs' t' f')) (hne : t ≠ t') : a ≠ b := fun e => by
 subst e
 rw [h1] at h2
 injection h2 with h2
 injection h2 with _ e2 _
 exact hne e2
theorem setAll_snoc (is : List Bool) (who : List Int) (j : Nat) (h : j < who.length) : setAll is (who.take (j + 1)) = (setAll is (who.take j)).set (who.getD j 0).toNat true := by
 unfold setAll
 rw [List.take_succ_eq_append_getElem h, List.foldl_append, List.getD_eq_getElem?_getD, List.getElem?_eq_getElem h]
 rfl
theorem setAll_length (who : List Int) : ∀ (is : List Bool), (setAll is who).length = is.length := by
 induction who with
 | nil => intro is; rfl
 | cons x r ih => intro is; show (setAll (is.set x.toNat true) r).length = _; rw [ih]; simp
theorem prefix_set {xs : List Bool} {cs : Array Value} {i : Nat} (h : xs.map Value.bool <+: cs.toList) (hi : i < xs.length) : (xs.set i true).map Value.bool <+: (cs.setIfInBounds i (.bool true)).toList := by
 obtain ⟨t, ht⟩ := h
 refine ⟨t, ?_⟩
 rw [Array.toList_setIfInBounds, ← ht, List.set_append_left _ _ (by simpa using hi), List.map_set]
theorem own_block {w : World} {base n c : Nat} {A : Option Addr} {xs : List Bool} (h : w.ownsRow base 4 1 (.slice A n c) n (xs.map Value.bool)) (hn : 0 < n) : ∃ g cs, A = some ⟨g, 0, none⟩ ∧ w.heap[g]? = some (.cells cs 4 (0, 0)) ∧ xs.map Value.bool <+: cs.toList ∧ base ≤ g := by
 rcases h.2 with ⟨_, h0⟩ | ⟨g, cap, cur, he, hb, hh, h1, h2, h3, h4⟩
 ·omega
 ·injection he with e1 e2 e3
  subst e1
  refine ⟨g, cur, rfl, hh, ?_, hb⟩
  rw [← h4]
  exact List.take_prefix _ _
theorem zLs (W : World) : (zeroValue 99).run Tryz.prog W = .ok (.agg #[.bool Ls.zero.j.b0, .bool Ls.zero.j.b1, .bool Ls.zero.j.b2, .bool Ls.zero.j.b3, .int .i64 Ls.zero.j.prev.e, .int .u64 Ls.zero.j.prev.r, .int .i64 Ls.zero.j.cur.e, .int .u64 Ls.zero.j.cur.r, .int .i64 Ls.zero.j.fin.e, .int .u64 Ls.zero.j.fin.r, .int .i64 Ls.zero.epoch, .slice (none : Option Addr) Ls.zero.before.length 0, .slice (none : Option Addr) Ls.zero.now.length 0]) W := by kernel_rfl
theorem Count_calls (w : World) (c : Cf) (A : Option Addr) (k : Nat) (l : Ls) (A1 : Option Addr) (k1 : Nat) (A2 : Option Addr) (k2 : Nat) (v : Vt) (A3 : Option Addr) (k3 : Nat) (g : Nat) (caps : Array Value) (f : Int → Int) (hok : c.ok) (hb : Ints anyB .u64 w A c.bal) (hl : LsOk c.bal.length l) (hr : LsR w l A1 A2)
    (hwf : v.wf) (hvl : v.who.length ≤ maxLen) (hvw : Ints anyB .i64 w A3 v.who) (h : ChainAt w g caps f) :
    Calls Tryz.prog 61 #[cfC c A k, .agg #[.bool l.j.b0, .bool l.j.b1, .bool l.j.b2, .bool l.j.b3, .int .i64 l.j.prev.e, .int .u64 l.j.prev.r, .int .i64 l.j.cur.e, .int .u64 l.j.cur.r, .int .i64 l.j.fin.e, .int .u64 l.j.fin.r, .int .i64 l.epoch, .slice A1 l.before.length k1, .slice A2 l.now.length k2], .agg #[.int .i64 v.slot, .int .u64 v.head, .int .i64 v.src.e, .int .u64 v.src.r, .int .i64 v.tgt.e, .int .u64 v.tgt.r, .slice A3 v.who.length k3], .func (.func g) #[] caps] w fun en w' => ∃ A' k' A2' k2', en = .returned (.tuple #[.agg #[.bool (countL c f l v).j.b0, .bool (countL c f l v).j.b1, .bool (countL c f l v).j.b2, .bool (countL c f l v).j.b3, .int .i64 (countL c f l v).j.prev.e, .int .u64 (countL c f l v).j.prev.r, .int .i64 (countL c f l v).j.cur.e, .int .u64 (countL c f l v).j.cur.r, .int .i64 (countL c f l v).j.fin.e, .int .u64 (countL c f l v).j.fin.r, .int .i64 (countL c f l v).epoch, .slice A' (countL c f l v).before.length k', .slice A2' (countL c f l v).now.length k2'], .bool (countB c l v f)]) ∧ LsR w' (countL c f l v) A' A2' ∧ Below w.heap.size w w' := by
 obtain ⟨q0, q1, q2, q3, hbw, hsz⟩ := alloc4 w (.cells #[.slice A c.bal.length k, .int .i64 c.slots, .int .i64 c.boost] 27) (.cells #[.bool l.j.b0, .bool l.j.b1, .bool l.j.b2, .bool l.j.b3, .int .i64 l.j.prev.e, .int .u64 l.j.prev.r, .int .i64 l.j.cur.e, .int .u64 l.j.cur.r, .int .i64 l.j.fin.e, .int .u64 l.j.fin.r, .int .i64 l.epoch, .slice A1 l.before.length k1, .slice A2 l.now.length k2] 99) (.cells #[.int .i64 v.slot, .int .u64 v.head, .int .i64 v.src.e, .int .u64 v.src.r, .int .i64 v.tgt.e, .int .u64 v.tgt.r, .slice A3 v.who.length k3] 53) (.cells #[.bool Ls.zero.j.b0, .bool Ls.zero.j.b1, .bool Ls.zero.j.b2, .bool Ls.zero.j.b3, .int .i64 Ls.zero.j.prev.e, .int .u64 Ls.zero.j.prev.r, .int .i64 Ls.zero.j.cur.e, .int .u64 Ls.zero.j.cur.r, .int .i64 Ls.zero.j.fin.e, .int .u64 Ls.zero.j.fin.r, .int .i64 Ls.zero.epoch, .slice (none : Option Addr) Ls.zero.before.length 0, .slice (none : Option Addr) Ls.zero.now.length 0] 99)
 simp only [Ls.zero, Js.zero, Pt.zero, List.length_nil] at q0 q1 q2 q3 hbw hsz
 have hb1 := hb.below hbw
 have hr1 := hr.below hbw
 have h1 := h.below hbw
 have hvw1 := hvw.below hbw
 clear hb hr h hvw
 go_enter Tryz.func61, Tryz.ntmps61
 go_upto_region 1 with fail
 generalize World.alloc (World.alloc (World.alloc (World.alloc w _) _) _) _ = W0 at q0 q1 q2 q3 hbw hsz hb1 hr1 h1 hvw1 ⊢
 generalize hB : w.heap.size = B at q0 q1 q2 q3 hbw hsz ⊢
 have HB := Lib.hid hB
 clear hB
 obtain ⟨p0, p1, p2, p3, p4, p5, p6⟩ := cs7 q2
 have hl10 := blk_cell q1 10
 go_upto_region 2 with fail
 obtain ⟨now, hnow⟩ : ∃ now, now = (v.tgt.e == l.epoch) := ⟨_, rfl⟩
 rw [← hnow]
 have HN := Lib.hid hnow
 clear hnow
 have hP1 := heap_new W0 (.cells #[.int .i64 l.j.prev.e, .int .u64 l.j.prev.r] 38)
 have hbp : Below W0.heap.size W0 (W0.alloc (.cells #[.int .i64 l.j.prev.e, .int .u64 l.j.prev.r] 38)) := below_alloc (Below.refl _ _) _
 have hszp : (W0.alloc (.cells #[.int .i64 l.j.prev.e, .int .u64 l.j.prev.r] 38)).heap.size = W0.heap.size + 1 := by simp
 go_upto_if 25 with (first
  | (refine wpList_loadP rfl 38 (.tmp 23) rfl (B + 1) 4 [.int .i64 l.j.prev.e, .int .u64 l.j.prev.r] _ q1 rfl rfl _ Tryz.underlying38 rfl iPt ?_)
  | (refine wpList_box 38 11 _ (.tmp 24) [.int .i64 l.j.prev.e, .int .u64 l.j.prev.r] rfl rfl rfl zPt rfl rfl iPt rfl ?_))
 have q1' := blk_below q1 hbp
 rw [hsz] at hP1 hbp hszp
 obtain ⟨W1, hW1⟩ : ∃ W1, W1 = W0.alloc (.cells #[.int .i64 l.j.prev.e, .int .u64 l.j.prev.r] 38) := ⟨_, rfl⟩
 rw [← hW1] at hP1 hbp hszp q1' ⊢
 clear hW1
 go_cut [] (fun w' => w'.heap[B + 1 + 1 + 1 + 1]? = some (.cells #[.int .i64 (srcP l now).e, .int .u64 (srcP l now).r] 38 (0, 0)) ∧ Ext (fun i => i = B + 1 + 1 + 1 + 1) W1 w')
 case first =>
  cases now with
  | true =>
   go_wp2_with (first
    | (refine wpList_loadP rfl 38 (.tmp 27) rfl (B + 1) 6 [.int .i64 l.j.cur.e, .int .u64 l.j.cur.r] _ q1' rfl rfl _ Tryz.underlying38 rfl iPt ?_)
    | (refine wpList_storeB rfl 38 (.tmp 11) (.tmp 28) rfl (B + 1 + 1 + 1 + 1) _ [.int .i64 l.j.cur.e, .int .u64 l.j.cur.r] hP1 rfl rfl rfl iPt rfl ?_; intro W5 hR5 hx5 hs5))
   go_meet
   case rel => exact ⟨hR5, hx5⟩
  | false =>
   go_wp2
   go_meet
   case rel => exact ⟨hP1, Ext.refl _ _⟩
 case rest =>
  obtain ⟨hP2, hx2⟩ := hcut
  obtain ⟨W2, rfl⟩ : ∃ W2 : World, W2 = wc := ⟨_, rfl⟩
  have hb02 : Below W0.heap.size W0 W2 := by
   rw [hsz]
   exact hbp.trans (hx2.below (by omega) (fun i hi e => by omega))
  have q0 := blk_below q0 hb02
  have q1 := blk_below q1 hb02
  have q2 := blk_below q2 hb02
  have q3 := blk_below q3 hb02
  have hb2 := hb1.below hb02
  have hr2 := hr1.below hb02
  have h2 := h1.below hb02
  have hvw2 := hvw1.below hb02
  have hbw2 : Below B w W2 := hbw.trans (hb02.mono (by omega))
  have hpos : B + 1 + 1 + 1 + 1 < W2.heap.size := blk_lt hP2
  obtain ⟨sp, hsp⟩ : ∃ sp, sp = srcP l now := ⟨_, rfl⟩
  rw [← hsp] at hP2
  have HSP := Lib.hid hsp
  clear hsp hP1 hbp hszp q1' hx2 hb02 hbw hsz hb1 hr1 h1 hvw1 p0 p1 p2 p3 p4 p5 p6 hl10
  have KJ : ∀ W, Below W2.heap.size W2 W → (W.cell? ⟨B, 0, none⟩ = some (.slice A c.bal.length k) ∧ W.cell? ⟨B, 1, none⟩ = some (.int .i64 c.slots) ∧ W.cell? ⟨B, 2, none⟩ = some (.int .i64 c.boost)) ∧ W.cell? ⟨B + 1, 10, none⟩ = some (.int .i64 l.epoch) ∧ (W.cell? ⟨B + 1 + 1, 0, none⟩ = some (.int .i64 v.slot) ∧ W.cell? ⟨B + 1 + 1, 1, none⟩ = some (.int .u64 v.head) ∧ W.cell? ⟨B + 1 + 1, 2, none⟩ = some (.int .i64 v.src.e) ∧ W.cell? ⟨B + 1 + 1, 3, none⟩ = some (.int .u64 v.src.r) ∧ W.cell? ⟨B + 1 + 1, 4, none⟩ = some (.int .i64 v.tgt.e) ∧ W.cell? ⟨B + 1 + 1, 5, none⟩ = some (.int .u64 v.tgt.r) ∧ W.cell? ⟨B + 1 + 1, 6, none⟩ = some (.slice A3 v.who.length k3)) ∧ (W.cell? ⟨B + 1 + 1 + 1 + 1, 0, none⟩ = some (.int .i64 sp.e) ∧ W.cell? ⟨B + 1 + 1 + 1 + 1, 1, none⟩ = some (.int .u64 sp.r)) := fun W hW => ⟨cs3 (blk_below q0 hW), blk_cell (blk_below q1 hW) 10, cs7 (blk_below q2 hW), cs2 (blk_below hP2 hW)⟩
  have cR := fun (W : World) (hW : Below W2.heap.size W2 W) => Right_calls W c A k v A3 k3 hok hwf hvl (hvw2.below hW)
  have HC : Hid (countB c l v f = (rightB c v && (now || (v.tgt.e + 1 == l.epoch)) && (v.src == sp) && (v.tgt == pointL c v.tgt.e f))) := by
   show _ = _
   rw [HSP.out, HN.out, countB, srcP]
  have hD : Below W2.heap.size W2 W2.drew := (Below.refl _ _).drew
  have he := neqPt
  have hg := guardPt
  have hte : -9223372036854775808 ≤ v.tgt.e ∧ v.tgt.e ≤ 9223372036854775807 := hwf.2.2.2.1.1
  have hle0 := hl.e0
  have hle1 := hl.e1
  have cP0 := fun (W : World) (hW : Below W2.heap.size W2 W) (h0 : v.tgt.e ≤ 1099511627776) => point_calls W c A k v.tgt.e g caps f hok (by unfold inI; omega) h0 (h2.below hW)
  go_upto_region 5 with fail
  go_cut [62] (fun x w' => x = .bool (!countB c l v f) ∧ Below W2.heap.size W2 w')
  case first =>
   cases hR : rightB c v with
   | false =>
    rw [hR] at cR HC
    simp only [Bool.false_and] at HC
    refine wp_region_held_drew (S := fun w' => (w'.cell? ⟨B, 0, none⟩ = some (.slice A c.bal.length k) ∧ w'.cell? ⟨B, 1, none⟩ = some (.int .i64 c.slots) ∧ w'.cell? ⟨B, 2, none⟩ = some (.int .i64 c.boost)) ∧ w'.cell? ⟨B + 1, 10, none⟩ = some (.int .i64 l.epoch) ∧ (w'.cell? ⟨B + 1 + 1, 0, none⟩ = some (.int .i64 v.slot) ∧ w'.cell? ⟨B + 1 + 1, 1, none⟩ = some (.int .u64 v.head) ∧ w'.cell? ⟨B + 1 + 1, 2, none⟩ = some (.int .i64 v.src.e) ∧ w'.cell? ⟨B + 1 + 1, 3, none⟩ = some (.int .u64 v.src.r) ∧ w'.cell? ⟨B + 1 + 1, 4, none⟩ = some (.int .i64 v.tgt.e) ∧ w'.cell? ⟨B + 1 + 1, 5, none⟩ = some (.int .u64 v.tgt.r) ∧ w'.cell? ⟨B + 1 + 1, 6, none⟩ = some (.slice A3 v.who.length k3)) ∧ (w'.cell? ⟨B + 1 + 1 + 1 + 1, 0, none⟩ = some (.int .i64 sp.e) ∧ w'.cell? ⟨B + 1 + 1 + 1 + 1, 1, none⟩ = some (.int .u64 sp.r))) (by kernel_rfl) (KJ _ hD) (fun hHeld => ?_)
    refine tW 0 29 hHeld ?_
    refine tW 1 30 hHeld ?_
    refine wpAnyH_ready (rs := [2]) (by kernel_rfl) (by simp) ?_
    refine AllReadyH.cons rfl (fun K hK => ?_) AllReadyH.nil
    go_simp
    refine (cR _ hD).mono ?_
    rintro e w3 ⟨rfl, hb3'⟩
    have hbR := hD.trans (hb3'.mono hD.size)
    refine hK.out _ _ (KJ _ hbR) (fun hHeld => ?_)
    clear hK K
    try simp only [Act.put, sA, sB, sC]
    refine tW 3 32 hHeld ?_
    refine tW 4 33 hHeld ?_
    refine tU 5 34 hHeld ?_
    refine tU 6 35 hHeld ?_
    refine tU 7 36 hHeld ?_
    refine tU 8 37 hHeld ?_
    refine tU 9 38 hHeld ?_
    refine tU 10 39 hHeld ?_
    refine tU 11 40 hHeld ?_
    refine tU 12 41 hHeld ?_
    refine tU 13 42 hHeld ?_
    refine tU 14 43 hHeld ?_
    refine tU 15 44 hHeld ?_
    refine tW 16 45 hHeld ?_
    refine tW 17 46 hHeld ?_
    refine tU 18 47 hHeld ?_
    refine tU 19 48 hHeld ?_
    refine tU 20 49 hHeld ?_
    refine tU 21 50 hHeld ?_
    refine tW 22 51 hHeld ?_
    refine tW 23 52 hHeld ?_
    refine tU 24 53 hHeld ?_
    refine tU 25 54 hHeld ?_
    refine tU 26 55 hHeld ?_
    refine tU 27 56 hHeld ?_
    refine tU 28 57 hHeld ?_
    refine tU 29 58 hHeld ?_
    refine tU 30 59 hHeld ?_
    refine tU 31 60 hHeld ?_
    refine tU 32 61 hHeld ?_
    refine tW 33 62 hHeld ?_
    refine wpAnyH_done (by kernel_rfl) ?_ _
    go_wp2
    go_meet
    case rel => exact ⟨by rw [HC.out]; rfl, hbR⟩
   | true =>
    rw [hR] at cR HC
    simp only [Bool.true_and] at HC
    cases now with
    | true =>
     simp only [Bool.true_or, Bool.true_and] at HC
     have HLE : Hid (v.tgt.e = l.epoch) := by show _ = _; have := HN.out; simpa using this.symm
     have cP := fun W hW => cP0 W hW (by rw [HLE.out]; exact hle1)
     clear cP0
     cases hS : (v.src.e == sp.e && v.src.r == sp.r) with
     | false =>
      rw [ptEq v.src sp, hS] at HC
      simp only [Bool.false_and] at HC
      refine wp_region_held_drew (S := fun w' => (w'.cell? ⟨B, 0, none⟩ = some (.slice A c.bal.length k) ∧ w'.cell? ⟨B, 1, none⟩ = some (.int .i64 c.slots) ∧ w'.cell? ⟨B, 2, none⟩ = some (.int .i64 c.boost)) ∧ w'.cell? ⟨B + 1, 10, none⟩ = some (.int .i64 l.epoch) ∧ (w'.cell? ⟨B + 1 + 1, 0, none⟩ = some (.int .i64 v.slot) ∧ w'.cell? ⟨B + 1 + 1, 1, none⟩ = some (.int .u64 v.head) ∧ w'.cell? ⟨B + 1 + 1, 2, none⟩ = some (.int .i64 v.src.e) ∧ w'.cell? ⟨B + 1 + 1, 3, none⟩ = some (.int .u64 v.src.r) ∧ w'.cell? ⟨B + 1 + 1, 4, none⟩ = some (.int .i64 v.tgt.e) ∧ w'.cell? ⟨B + 1 + 1, 5, none⟩ = some (.int .u64 v.tgt.r) ∧ w'.cell? ⟨B + 1 + 1, 6, none⟩ = some (.slice A3 v.who.length k3)) ∧ (w'.cell? ⟨B + 1 + 1 + 1 + 1, 0, none⟩ = some (.int .i64 sp.e) ∧ w'.cell? ⟨B + 1 + 1 + 1 + 1, 1, none⟩ = some (.int .u64 sp.r))) (by kernel_rfl) (KJ _ hD) (fun hHeld => ?_)
      refine tW 0 29 hHeld ?_
      refine tW 1 30 hHeld ?_
      refine wpAnyH_ready (rs := [2]) (by kernel_rfl) (by simp) ?_
      refine AllReadyH.cons rfl (fun K hK => ?_) AllReadyH.nil
      go_simp
      refine (cR _ hD).mono ?_
      rintro e w3 ⟨rfl, hb3'⟩
      have hbR := hD.trans (hb3'.mono hD.size)
      refine hK.out _ _ (KJ _ hbR) (fun hHeld => ?_)
      clear hK K
      try simp only [Act.put, sA, sB, sC]
      refine tW 3 32 hHeld ?_
      refine tW 4 33 hHeld ?_
      refine tW 5 34 hHeld ?_
      refine tW 6 35 hHeld ?_
      refine tW 7 36 hHeld ?_
      refine tU 8 37 hHeld ?_
      refine tU 9 38 hHeld ?_
      refine tU 10 39 hHeld ?_
      refine tU 11 40 hHeld ?_
      refine tU 12 41 hHeld ?_
      refine tU 13 42 hHeld ?_
      refine tU 14 43 hHeld ?_
      refine tW 15 44 hHeld ?_
      refine tW 16 45 hHeld ?_
      refine tW 17 46 hHeld ?_
      refine tW 18 47 hHeld ?_
      refine tW 19 48 hHeld ?_
      refine tW 20 49 hHeld ?_
      refine tW 21 50 hHeld ?_
      refine tW 22 51 hHeld ?_
      refine tW 23 52 hHeld ?_
      refine tU 24 53 hHeld ?_
      refine tU 25 54 hHeld ?_
      refine tU 26 55 hHeld ?_
      refine tU 27 56 hHeld ?_
      refine tU 28 57 hHeld ?_
      refine tU 29 58 hHeld ?_
      refine tU 30 59 hHeld ?_
      refine tU 31 60 hHeld ?_
      refine tU 32 61 hHeld ?_
      refine tW 33 62 hHeld ?_
      refine wpAnyH_done (by kernel_rfl) ?_ _
      go_wp2
      go_meet
      case rel => exact ⟨by rw [HC.out]; rfl, hbR⟩
     | true =>
      rw [ptEq v.src sp, hS] at HC
      simp only [Bool.true_and] at HC
      refine wp_region_held_drew (S := fun w' => (w'.cell? ⟨B, 0, none⟩ = some (.slice A c.bal.length k) ∧ w'.cell? ⟨B, 1, none⟩ = some (.int .i64 c.slots) ∧ w'.cell? ⟨B, 2, none⟩ = some (.int .i64 c.boost)) ∧ w'.cell? ⟨B + 1, 10, none⟩ = some (.int .i64 l.epoch) ∧ (w'.cell? ⟨B + 1 + 1, 0, none⟩ = some (.int .i64 v.slot) ∧ w'.cell? ⟨B + 1 + 1, 1, none⟩ = some (.int .u64 v.head) ∧ w'.cell? ⟨B + 1 + 1, 2, none⟩ = some (.int .i64 v.src.e) ∧ w'.cell? ⟨B + 1 + 1, 3, none⟩ = some (.int .u64 v.src.r) ∧ w'.cell? ⟨B + 1 + 1, 4, none⟩ = some (.int .i64 v.tgt.e) ∧ w'.cell? ⟨B + 1 + 1, 5, none⟩ = some (.int .u64 v.tgt.r) ∧ w'.cell? ⟨B + 1 + 1, 6, none⟩ = some (.slice A3 v.who.length k3)) ∧ (w'.cell? ⟨B + 1 + 1 + 1 + 1, 0, none⟩ = some (.int .i64 sp.e) ∧ w'.cell? ⟨B + 1 + 1 + 1 + 1, 1, none⟩ = some (.int .u64 sp.r))) (by kernel_rfl) (KJ _ hD) (fun hHeld => ?_)
      refine tW 0 29 hHeld ?_
      refine tW 1 30 hHeld ?_
      refine wpAnyH_ready (rs := [2]) (by kernel_rfl) (by simp) ?_
      refine AllReadyH.cons rfl (fun K hK => ?_) AllReadyH.nil
      go_simp
      refine (cR _ hD).mono ?_
      rintro e w3 ⟨rfl, hb3'⟩
      have hbR := hD.trans (hb3'.mono hD.size)
      refine hK.out _ _ (KJ _ hbR) (fun hHeld => ?_)
      clear hK K
      try simp only [Act.put, sA, sB, sC]
      refine tW 3 32 hHeld ?_
      refine tW 4 33 hHeld ?_
      refine tW 5 34 hHeld ?_
      refine tW 6 35 hHeld ?_
      refine tW 7 36 hHeld ?_
      refine tU 8 37 hHeld ?_
      refine tU 9 38 hHeld ?_
      refine tU 10 39 hHeld ?_
      refine tU 11 40 hHeld ?_
      refine tU 12 41 hHeld ?_
      refine tU 13 42 hHeld ?_
      refine tU 14 43 hHeld ?_
      refine tW 15 44 hHeld ?_
      refine tW 16 45 hHeld ?_
      refine tW 17 46 hHeld ?_
      refine tW 18 47 hHeld ?_
      refine tW 19 48 hHeld ?_
      refine tW 20 49 hHeld ?_
      refine tW 21 50 hHeld ?_
      refine tW 22 51 hHeld ?_
      refine tW 23 52 hHeld ?_
      refine tW 24 53 hHeld ?_
      refine tW 25 54 hHeld ?_
      refine tW 26 55 hHeld ?_
      refine tW 27 56 hHeld ?_
      refine tW 28 57 hHeld ?_
      refine tW 29 58 hHeld ?_
      refine tW 30 59 hHeld ?_
      refine wpAnyH_ready (rs := [31]) (by kernel_rfl) (by simp) ?_
      refine AllReadyH.cons rfl (fun K hK => ?_) AllReadyH.nil
      go_simp
      refine (cP _ hbR).mono ?_
      rintro e w4 ⟨rfl, hb4'⟩
      have hbP := hbR.trans (hb4'.mono hbR.size)
      refine hK.out _ _ (KJ _ hbP) (fun hHeld => ?_)
      clear hK K
      try simp only [Act.put, sA, sB, sC]
      refine tW 32 61 hHeld ?_
      refine tW 33 62 hHeld ?_
      refine wpAnyH_done (by kernel_rfl) ?_ _
      go_wp2
      go_meet
      case rel => exact ⟨by rw [HC.out, ptEq, Bool.not_and], hbP⟩
    | false =>
     simp only [Bool.false_or] at HC
     by_cases hE : v.tgt.e + 1 = l.epoch
     ·have hE1 : (v.tgt.e + 1 == l.epoch) = true := by simp [hE]
      have hE2 : IntKind.i64.wrap (v.tgt.e + 1) = l.epoch := by rw [hE]; exact IntWalk.i64_in _ (by omega)
      rw [hE1] at HC
      simp only [Bool.true_and] at HC
      have cP := fun W hW => cP0 W hW (by omega)
      clear cP0 hE1 hE
      cases hS : (v.src.e == sp.e && v.src.r == sp.r) with
      | false =>
       rw [ptEq v.src sp, hS] at HC
       simp only [Bool.false_and] at HC
       refine wp_region_held_drew (S := fun w' => (w'.cell? ⟨B, 0, none⟩ = some (.slice A c.bal.length k) ∧ w'.cell? ⟨B, 1, none⟩ = some (.int .i64 c.slots) ∧ w'.cell? ⟨B, 2, none⟩ = some (.int .i64 c.boost)) ∧ w'.cell? ⟨B + 1, 10, none⟩ = some (.int .i64 l.epoch) ∧ (w'.cell? ⟨B + 1 + 1, 0, none⟩ = some (.int .i64 v.slot) ∧ w'.cell? ⟨B + 1 + 1, 1, none⟩ = some (.int .u64 v.head) ∧ w'.cell? ⟨B + 1 + 1, 2, none⟩ = some (.int .i64 v.src.e) ∧ w'.cell? ⟨B + 1 + 1, 3, none⟩ = some (.int .u64 v.src.r) ∧ w'.cell? ⟨B + 1 + 1, 4, none⟩ = some (.int .i64 v.tgt.e) ∧ w'.cell? ⟨B + 1 + 1, 5, none⟩ = some (.int .u64 v.tgt.r) ∧ w'.cell? ⟨B + 1 + 1, 6, none⟩ = some (.slice A3 v.who.length k3)) ∧ (w'.cell? ⟨B + 1 + 1 + 1 + 1, 0, none⟩ = some (.int .i64 sp.e) ∧ w'.cell? ⟨B + 1 + 1 + 1 + 1, 1, none⟩ = some (.int .u64 sp.r))) (by kernel_rfl) (KJ _ hD) (fun hHeld => ?_)
       refine tW 0 29 hHeld ?_
       refine tW 1 30 hHeld ?_
       refine wpAnyH_ready (rs := [2]) (by kernel_rfl) (by simp) ?_
       refine AllReadyH.cons rfl (fun K hK => ?_) AllReadyH.nil
       go_simp
       refine (cR _ hD).mono ?_
       rintro e w3 ⟨rfl, hb3'⟩
       have hbR := hD.trans (hb3'.mono hD.size)
       refine hK.out _ _ (KJ _ hbR) (fun hHeld => ?_)
       clear hK K
       try simp only [Act.put, sA, sB, sC]
       refine tW 3 32 hHeld ?_
       refine tW 4 33 hHeld ?_
       refine tW 5 34 hHeld ?_
       refine tW 6 35 hHeld ?_
       refine tW 7 36 hHeld ?_
       refine tW 8 37 hHeld ?_
       refine tW 9 38 hHeld ?_
       refine tW 10 39 hHeld ?_
       refine tW 11 40 hHeld ?_
       refine tW 12 41 hHeld ?_
       refine tW 13 42 hHeld ?_
       refine tW 14 43 hHeld ?_
       refine tW 15 44 hHeld ?_
       refine tW 16 45 hHeld ?_
       refine tW 17 46 hHeld ?_
       refine tW 18 47 hHeld ?_
       refine tW 19 48 hHeld ?_
       refine tW 20 49 hHeld ?_
       refine tW 21 50 hHeld ?_
       refine tW 22 51 hHeld ?_
       refine tW 23 52 hHeld ?_
       refine tU 24 53 hHeld ?_
       refine tU 25 54 hHeld ?_
       refine tU 26 55 hHeld ?_
       refine tU 27 56 hHeld ?_
       refine tU 28 57 hHeld ?_
       refine tU 29 58 hHeld ?_
       refine tU 30 59 hHeld ?_
       refine tU 31 60 hHeld ?_
       refine tU 32 61 hHeld ?_
       refine tW 33 62 hHeld ?_
       refine wpAnyH_done (by kernel_rfl) ?_ _
       go_wp2
       go_meet
       case rel => exact ⟨by rw [HC.out]; rfl, hbR⟩
      | true =>
       rw [ptEq v.src sp, hS] at HC
       simp only [Bool.true_and] at HC
       refine wp_region_held_drew (S := fun w' => (w'.cell? ⟨B, 0, none⟩ = some (.slice A c.bal.length k) ∧ w'.cell? ⟨B, 1, none⟩ = some (.int .i64 c.slots) ∧ w'.cell? ⟨B, 2, none⟩ = some (.int .i64 c.boost)) ∧ w'.cell? ⟨B + 1, 10, none⟩ = some (.int .i64 l.epoch) ∧ (w'.cell? ⟨B + 1 + 1, 0, none⟩ = some (.int .i64 v.slot) ∧ w'.cell? ⟨B + 1 + 1, 1, none⟩ = some (.int .u64 v.head) ∧ w'.cell? ⟨B + 1 + 1, 2, none⟩ = some (.int .i64 v.src.e) ∧ w'.cell? ⟨B + 1 + 1, 3, none⟩ = some (.int .u64 v.src.r) ∧ w'.cell? ⟨B + 1 + 1, 4, none⟩ = some (.int .i64 v.tgt.e) ∧ w'.cell? ⟨B + 1 + 1, 5, none⟩ = some (.int .u64 v.tgt.r) ∧ w'.cell? ⟨B + 1 + 1, 6, none⟩ = some (.slice A3 v.who.length k3)) ∧ (w'.cell? ⟨B + 1 + 1 + 1 + 1, 0, none⟩ = some (.int .i64 sp.e) ∧ w'.cell? ⟨B + 1 + 1 + 1 + 1, 1, none⟩ = some (.int .u64 sp.r))) (by kernel_rfl) (KJ _ hD) (fun hHeld => ?_)
       refine tW 0 29 hHeld ?_
       refine tW 1 30 hHeld ?_
       refine wpAnyH_ready (rs := [2]) (by kernel_rfl) (by simp) ?_
       refine AllReadyH.cons rfl (fun K hK => ?_) AllReadyH.nil
       go_simp
       refine (cR _ hD).mono ?_
       rintro e w3 ⟨rfl, hb3'⟩
       have hbR := hD.trans (hb3'.mono hD.size)
       refine hK.out _ _ (KJ _ hbR) (fun hHeld => ?_)
       clear hK K
       try simp only [Act.put, sA, sB, sC]
       refine tW 3 32 hHeld ?_
       refine tW 4 33 hHeld ?_
       refine tW 5 34 hHeld ?_
       refine tW 6 35 hHeld ?_
       refine tW 7 36 hHeld ?_
       refine tW 8 37 hHeld ?_
       refine tW 9 38 hHeld ?_
       refine tW 10 39 hHeld ?_
       refine tW 11 40 hHeld ?_
       refine tW 12 41 hHeld ?_
       refine tW 13 42 hHeld ?_
       refine tW 14 43 hHeld ?_
       refine tW 15 44 hHeld ?_
       refine tW 16 45 hHeld ?_
       refine tW 17 46 hHeld ?_
       refine tW 18 47 hHeld ?_
       refine tW 19 48 hHeld ?_
       refine tW 20 49 hHeld ?_
       refine tW 21 50 hHeld ?_
       refine tW 22 51 hHeld ?_
       refine tW 23 52 hHeld ?_
       refine tW 24 53 hHeld ?_
       refine tW 25 54 hHeld ?_
       refine tW 26 55 hHeld ?_
       refine tW 27 56 hHeld ?_
       refine tW 28 57 hHeld ?_
       refine tW 29 58 hHeld ?_
       refine tW 30 59 hHeld ?_
       refine wpAnyH_ready (rs := [31]) (by kernel_rfl) (by simp) ?_
       refine AllReadyH.cons rfl (fun K hK => ?_) AllReadyH.nil
       go_simp
       refine (cP _ hbR).mono ?_
       rintro e w4 ⟨rfl, hb4'⟩
       have hbP := hbR.trans (hb4'.mono hbR.size)
       refine hK.out _ _ (KJ _ hbP) (fun hHeld => ?_)
       clear hK K
       try simp only [Act.put, sA, sB, sC]
       refine tW 32 61 hHeld ?_
       refine tW 33 62 hHeld ?_
       refine wpAnyH_done (by kernel_rfl) ?_ _
       go_wp2
       go_meet
       case rel => exact ⟨by rw [HC.out, ptEq, Bool.not_and], hbP⟩
     ·have hE1 : (v.tgt.e + 1 == l.epoch) = false := by simp [hE]
      have hE2 : ¬ IntKind.i64.wrap (v.tgt.e + 1) = l.epoch := by rw [IntKind.wrap_i64]; omega
      have hE3 : (IntKind.i64.wrap (v.tgt.e + 1) == l.epoch) = false := by simp [hE2]
      have hE4 : (IntKind.i64.wrap (v.tgt.e + 1) != l.epoch) = true := by simp [hE2]
      rw [hE1] at HC
      simp only [Bool.false_and] at HC
      clear cP0 hE1 hE hE2
      refine wp_region_held_drew (S := fun w' => (w'.cell? ⟨B, 0, none⟩ = some (.slice A c.bal.length k) ∧ w'.cell? ⟨B, 1, none⟩ = some (.int .i64 c.slots) ∧ w'.cell? ⟨B, 2, none⟩ = some (.int .i64 c.boost)) ∧ w'.cell? ⟨B + 1, 10, none⟩ = some (.int .i64 l.epoch) ∧ (w'.cell? ⟨B + 1 + 1, 0, none⟩ = some (.int .i64 v.slot) ∧ w'.cell? ⟨B + 1 + 1, 1, none⟩ = some (.int .u64 v.head) ∧ w'.cell? ⟨B + 1 + 1, 2, none⟩ = some (.int .i64 v.src.e) ∧ w'.cell? ⟨B + 1 + 1, 3, none⟩ = some (.int .u64 v.src.r) ∧ w'.cell? ⟨B + 1 + 1, 4, none⟩ = some (.int .i64 v.tgt.e) ∧ w'.cell? ⟨B + 1 + 1, 5, none⟩ = some (.int .u64 v.tgt.r) ∧ w'.cell? ⟨B + 1 + 1, 6, none⟩ = some (.slice A3 v.who.length k3)) ∧ (w'.cell? ⟨B + 1 + 1 + 1 + 1, 0, none⟩ = some (.int .i64 sp.e) ∧ w'.cell? ⟨B + 1 + 1 + 1 + 1, 1, none⟩ = some (.int .u64 sp.r))) (by kernel_rfl) (KJ _ hD) (fun hHeld => ?_)
      refine tW 0 29 hHeld ?_
      refine tW 1 30 hHeld ?_
      refine wpAnyH_ready (rs := [2]) (by kernel_rfl) (by simp) ?_
      refine AllReadyH.cons rfl (fun K hK => ?_) AllReadyH.nil
      go_simp
      refine (cR _ hD).mono ?_
      rintro e w3 ⟨rfl, hb3'⟩
      have hbR := hD.trans (hb3'.mono hD.size)
      refine hK.out _ _ (KJ _ hbR) (fun hHeld => ?_)
      clear hK K
      try simp only [Act.put, sA, sB, sC]
      refine tW 3 32 hHeld ?_
      refine tW 4 33 hHeld ?_
      refine tW 5 34 hHeld ?_
      refine tW 6 35 hHeld ?_
      refine tW 7 36 hHeld ?_
      refine tW 8 37 hHeld ?_
      refine tW 9 38 hHeld ?_
      refine tW 10 39 hHeld ?_
      refine tW 11 40 hHeld ?_
      refine tW 12 41 hHeld ?_
      refine tW 13 42 hHeld ?_
      refine tW 14 43 hHeld ?_
      refine tW 15 44 hHeld ?_
      refine tW 16 45 hHeld ?_
      refine tW 17 46 hHeld ?_
      refine tU 18 47 hHeld ?_
      refine tU 19 48 hHeld ?_
      refine tU 20 49 hHeld ?_
      refine tU 21 50 hHeld ?_
      refine tW 22 51 hHeld ?_
      refine tW 23 52 hHeld ?_
      refine tU 24 53 hHeld ?_
      refine tU 25 54 hHeld ?_
      refine tU 26 55 hHeld ?_
      refine tU 27 56 hHeld ?_
      refine tU 28 57 hHeld ?_
      refine tU 29 58 hHeld ?_
      refine tU 30 59 hHeld ?_
      refine tU 31 60 hHeld ?_
      refine tU 32 61 hHeld ?_
      refine tW 33 62 hHeld ?_
      refine wpAnyH_done (by kernel_rfl) ?_ _
      go_wp2
      go_meet
      case rel => exact ⟨by rw [HC.out]; rfl, hbR⟩
  case rest =>
   obtain ⟨rfl, hb3⟩ := hcut
   obtain ⟨W3, rfl⟩ : ∃ W3 : World, W3 = wc := ⟨_, rfl⟩
   have q1 := blk_below q1 hb3
   have q3 := blk_below q3 hb3
   have q2 := blk_below q2 hb3
   have hr3 := hr2.below hb3
   have hvw3 := hvw2.below hb3
   have hbw3 : Below B w W3 := hbw2.trans (hb3.mono (by omega))
   have hpos3 : B + 1 + 1 + 1 + 1 < W3.heap.size := by have := hb3.size; omega
   have HLB := Lib.hid hl.b
   have HLN := Lib.hid hl.n
   have hn1 := hok.l1
   have hn2 := hok.l2
   clear KJ cR hD he hg hte hle0 hle1 cP0 hb2 hr2 h2 hvw2 q0 hP2 hb3 hbw2 hpos
   cases hCB : countB c l v f with
   | false =>
    have HL : Hid (countL c f l v = l) := by show _ = _; rw [countL, hCB]; rfl
    go_wp2_with (first
     | (refine wpList_loadP rfl 99 (.tmp 5) rfl (B + 1) 0 [.bool l.j.b0, .bool l.j.b1, .bool l.j.b2, .bool l.j.b3, .int .i64 l.j.prev.e, .int .u64 l.j.prev.r, .int .i64 l.j.cur.e, .int .u64 l.j.cur.r, .int .i64 l.j.fin.e, .int .u64 l.j.fin.r, .int .i64 l.epoch, .slice A1 l.before.length k1, .slice A2 l.now.length k2] _ q1 rfl rfl _ Tryz.underlying99 rfl iLs ?_)
     | (refine wpList_storeB rfl 99 (.tmp 8) (.tmp 63) rfl (B + 1 + 1 + 1) _ [.bool l.j.b0, .bool l.j.b1, .bool l.j.b2, .bool l.j.b3, .int .i64 l.j.prev.e, .int .u64 l.j.prev.r, .int .i64 l.j.cur.e, .int .u64 l.j.cur.r, .int .i64 l.j.fin.e, .int .u64 l.j.fin.r, .int .i64 l.epoch, .slice A1 l.before.length k1, .slice A2 l.now.length k2] q3 rfl rfl rfl iLs rfl ?_; intro W5 hR5 hx5 hs5))
    refine bodyPost_ret (results_cellB2 rfl _ (B + 1 + 1 + 1) _ hR5 rfl _ Tryz.underlying99 rfl iLs) rfl ?_
    rw [HL.out, HB.out, hCB]
    exact ⟨A1, k1, A2, k2, rfl, hr3.ext hx5 q3 (by decide), hbw3.trans (hx5.below (by omega) (fun i hi e => by omega))⟩
   | true =>
    have HR : Hid (whoOk c.bal.length v.who = true) := by
     show _ = _
     have := hCB
     unfold countB at this
     simp only [Bool.and_eq_true] at this
     exact rightB_who this.1.1.1
    have HL : Hid (countL c f l v = if now then { l with now := setAll l.now v.who } else { l with before := setAll l.before v.who }) := by
     show _ = _
     rw [countL, hCB, HN.out]
     rfl
    go_upto_region 7 with fail
    refine beginRI 12 (ctF B W3.heap.size l A1 k1 A2 k2) (ctG W3.heap.size W3) (by rfl) (by decide) (by kernel_rfl) (by kernel_rfl) ?_ ?_ ?_
    ·exact ⟨(Below.refl _ _).drew, fun h => (by simp [Array.getD] at h)⟩
    ·refine all_lt_succ (all_lt_succ (all_lt_succ (all_lt_succ (all_lt_succ (all_lt_succ (all_lt_succ (all_lt_succ (all_lt_succ (all_lt_succ (all_lt_succ (all_lt_succ (fun i hi => absurd hi (Nat.not_lt_zero i)) ?_) ?_) ?_) ?_) ?_) ?_) ?_) ?_) ?_) ?_) ?_) ?_
     ·refine stepI rfl ?_
      intro l0 a0 w0 K hI hs hl0 hd hK
      have t5 : a0.tmps.getD 5 undef = .pointer (some ⟨B + 1, 0, none⟩) := hI.old 5 (by kernel_rfl)
      have hbw0 := hI.glob.1
      have hBs : W3.heap.size ≤ w0.heap.size := hbw0.size
      obtain ⟨m0, m1, m2, m3, m4, m5, m6, m7, m8, m9, m10, m11, m12⟩ := cs13 (blk_below q1 hbw0)
      go_simp
      refine hK.out _ _ ?_
      exact RI.put (i := 0) (d := 64) hI (by decide) rfl rfl (by simp) (by kernel_rfl) (by first | exact rfl | trivial) (ctF_below (Below.refl _ _)) (ctG_step hI.glob (Below.refl _ _) (by decide) (by decide) hBs)
     ·refine stepI rfl ?_
      intro l0 a0 w0 K hI hs hl0 hd hK
      have t5 : a0.tmps.getD 5 undef = .pointer (some ⟨B + 1, 0, none⟩) := hI.old 5 (by kernel_rfl)
      have hbw0 := hI.glob.1
      have hBs : W3.heap.size ≤ w0.heap.size := hbw0.size
      obtain ⟨m0, m1, m2, m3, m4, m5, m6, m7, m8, m9, m10, m11, m12⟩ := cs13 (blk_below q1 hbw0)
      have d0 : l0.getD 0 false = true := hd _ rfl ⟨0, .data⟩ (by simp) rfl
      have t64 := hI.fct 0 _ _ (by decide) rfl rfl d0
      simp only [ctF] at t64
      go_simp
      refine hK.out _ _ ?_
      exact RI.put (i := 1) (d := 65) hI (by decide) rfl rfl (by simp) (by kernel_rfl) (by first | exact rfl | trivial) (ctF_below (Below.refl _ _)) (ctG_step hI.glob (Below.refl _ _) (by decide) (by decide) hBs)
     ·refine stepI rfl ?_
      intro l0 a0 w0 K hI hs hl0 hd hK
      have t5 : a0.tmps.getD 5 undef = .pointer (some ⟨B + 1, 0, none⟩) := hI.old 5 (by kernel_rfl)
      have hbw0 := hI.glob.1
      have hBs : W3.heap.size ≤ w0.heap.size := hbw0.size
      obtain ⟨m0, m1, m2, m3, m4, m5, m6, m7, m8, m9, m10, m11, m12⟩ := cs13 (blk_below q1 hbw0)
      go_simp
      refine hK.out _ _ ?_
      exact RI.put (i := 2) (d := 66) hI (by decide) rfl rfl (by simp) (by kernel_rfl) (by first | exact rfl | trivial) (ctF_below (Below.refl _ _)) (ctG_step hI.glob (Below.refl _ _) (by decide) (by decide) hBs)
     ·refine stepI rfl ?_
      intro l0 a0 w0 K hI hs hl0 hd hK
      have t5 : a0.tmps.getD 5 undef = .pointer (some ⟨B + 1, 0, none⟩) := hI.old 5 (by kernel_rfl)
      have hbw0 := hI.glob.1
      have hBs : W3.heap.size ≤ w0.heap.size := hbw0.size
      obtain ⟨m0, m1, m2, m3, m4, m5, m6, m7, m8, m9, m10, m11, m12⟩ := cs13 (blk_below q1 hbw0)
      have d2 : l0.getD 2 false = true := hd _ rfl ⟨2, .data⟩ (by simp) rfl
      have t66 := hI.fct 2 _ _ (by decide) rfl rfl d2
      simp only [ctF] at t66
      go_simp
      refine hK.out _ _ ?_
      exact RI.put (i := 3) (d := 67) hI (by decide) rfl rfl (by simp) (by kernel_rfl) (by first | exact rfl | trivial) (ctF_below (Below.refl _ _)) (ctG_step hI.glob (Below.refl _ _) (by decide) (by decide) hBs)
     ·refine stepI rfl ?_
      intro l0 a0 w0 K hI hs hl0 hd hK
      have t5 : a0.tmps.getD 5 undef = .pointer (some ⟨B + 1, 0, none⟩) := hI.old 5 (by kernel_rfl)
      have hbw0 := hI.glob.1
      have hBs : W3.heap.size ≤ w0.heap.size := hbw0.size
      obtain ⟨m0, m1, m2, m3, m4, m5, m6, m7, m8, m9, m10, m11, m12⟩ := cs13 (blk_below q1 hbw0)
      go_simp
      refine hK.out _ _ ?_
      exact RI.put (i := 4) (d := 68) hI (by decide) rfl rfl (by simp) (by kernel_rfl) (by first | exact rfl | trivial) (ctF_below (Below.refl _ _)) (ctG_step hI.glob (Below.refl _ _) (by decide) (by decide) hBs)
     ·refine stepI rfl ?_
      intro l0 a0 w0 K hI hs hl0 hd hK
      have t5 : a0.tmps.getD 5 undef = .pointer (some ⟨B + 1, 0, none⟩) := hI.old 5 (by kernel_rfl)
      have hbw0 := hI.glob.1
      have hBs : W3.heap.size ≤ w0.heap.size := hbw0.size
      obtain ⟨m0, m1, m2, m3, m4, m5, m6, m7, m8, m9, m10, m11, m12⟩ := cs13 (blk_below q1 hbw0)
      have d4 : l0.getD 4 false = true := hd _ rfl ⟨4, .data⟩ (by simp) rfl
      have t68 := hI.fct 4 _ _ (by decide) rfl rfl d4
      simp only [ctF] at t68
      go_simp
      refine hK.out _ _ ?_
      exact RI.put (i := 5) (d := 69) hI (by decide) rfl rfl (by simp) (by kernel_rfl) (by first | exact rfl | trivial) (ctF_below (Below.refl _ _)) (ctG_step hI.glob (Below.refl _ _) (by decide) (by decide) hBs)
     ·refine stepI rfl ?_
      intro l0 a0 w0 K hI hs hl0 hd hK
      have t5 : a0.tmps.getD 5 undef = .pointer (some ⟨B + 1, 0, none⟩) := hI.old 5 (by kernel_rfl)
      have hbw0 := hI.glob.1
      have hBs : W3.heap.size ≤ w0.heap.size := hbw0.size
      obtain ⟨m0, m1, m2, m3, m4, m5, m6, m7, m8, m9, m10, m11, m12⟩ := cs13 (blk_below q1 hbw0)
      have d5 : l0.getD 5 false = true := hd _ rfl ⟨5, .data⟩ (by simp) rfl
      have t69 := hI.fct 5 _ _ (by decide) rfl rfl d5
      simp only [ctF] at t69
      have hx1 : 0 < l.before.length ∧ l.before.length ≤ 4096 := by rw [HLB.out]; omega
      have hx2 : 0 < l.now.length ∧ l.now.length ≤ 4096 := by rw [HLN.out]; omega
      refine step_app w0.heap.size (by rfl) (.const (.slice none 0 0)) (.tmp 69) 97 4 (.bool false) 1 1 rfl Tryz.underlying97 infoBool rfl (by decide) (.slice none 0 0) 0 [] (by rfl) (own_nil _ _ _ _) A1 l.before.length k1 (l.before.map Value.bool) t69 (by simp) (flat_bools (hr3.b.below hbw0)) (bools_one _) (by omega) (by omega) (Nat.le_refl _) ?_
      intro A6 c6 w2 ho hg _
      simp only [Nat.zero_add, List.nil_append] at ho ⊢
      have hb2 := grown_below hg
      obtain ⟨g6, cs6, rfl, e1, e2, e3⟩ := own_block ho (by omega)
      refine hK.out _ _ ?_
      exact RI.put (i := 6) (d := 70) hI (by decide) rfl rfl (by simp) (by kernel_rfl) ⟨g6, c6, cs6, rfl, e1, e2, Nat.le_trans hBs e3⟩ (ctF_below hb2) (ctG_six hI.glob hl0 (by rw [hs]; decide) (hbw0.trans (hb2.mono hBs)))
     ·refine stepI rfl ?_
      intro l0 a0 w0 K hI hs hl0 hd hK
      have t5 : a0.tmps.getD 5 undef = .pointer (some ⟨B + 1, 0, none⟩) := hI.old 5 (by kernel_rfl)
      have hbw0 := hI.glob.1
      have hBs : W3.heap.size ≤ w0.heap.size := hbw0.size
      obtain ⟨m0, m1, m2, m3, m4, m5, m6, m7, m8, m9, m10, m11, m12⟩ := cs13 (blk_below q1 hbw0)
      go_simp
      refine hK.out _ _ ?_
      exact RI.put (i := 7) (d := 71) hI (by decide) rfl rfl (by simp) (by kernel_rfl) (by first | exact rfl | trivial) (ctF_below (Below.refl _ _)) (ctG_step hI.glob (Below.refl _ _) (by decide) (by decide) hBs)
     ·refine stepI rfl ?_
      intro l0 a0 w0 K hI hs hl0 hd hK
      have t5 : a0.tmps.getD 5 undef = .pointer (some ⟨B + 1, 0, none⟩) := hI.old 5 (by kernel_rfl)
      have hbw0 := hI.glob.1
      have hBs : W3.heap.size ≤ w0.heap.size := hbw0.size
      obtain ⟨m0, m1, m2, m3, m4, m5, m6, m7, m8, m9, m10, m11, m12⟩ := cs13 (blk_below q1 hbw0)
      have d7 : l0.getD 7 false = true := hd _ rfl ⟨7, .data⟩ (by simp) rfl
      have t71 := hI.fct 7 _ _ (by decide) rfl rfl d7
      simp only [ctF] at t71
      go_simp
      refine hK.out _ _ ?_
      exact RI.put (i := 8) (d := 72) hI (by decide) rfl rfl (by simp) (by kernel_rfl) (by first | exact rfl | trivial) (ctF_below (Below.refl _ _)) (ctG_step hI.glob (Below.refl _ _) (by decide) (by decide) hBs)
     ·refine stepI rfl ?_
      intro l0 a0 w0 K hI hs hl0 hd hK
      have t5 : a0.tmps.getD 5 undef = .pointer (some ⟨B + 1, 0, none⟩) := hI.old 5 (by kernel_rfl)
      have hbw0 := hI.glob.1
      have hBs : W3.heap.size ≤ w0.heap.size := hbw0.size
      obtain ⟨m0, m1, m2, m3, m4, m5, m6, m7, m8, m9, m10, m11, m12⟩ := cs13 (blk_below q1 hbw0)
      have d8 : l0.getD 8 false = true := hd _ rfl ⟨8, .data⟩ (by simp) rfl
      have t72 := hI.fct 8 _ _ (by decide) rfl rfl d8
      simp only [ctF] at t72
      have d6 : l0.getD 6 false = true := hd _ rfl ⟨6, .chain⟩ (by simp) rfl
      obtain ⟨g7, c7, cs7, e70, f1, f2, f3⟩ := hI.fct 6 _ _ (by decide) rfl rfl d6
      have t70 : a0.tmps.getD 70 undef = _ := e70
      have hx1 : 0 < l.before.length ∧ l.before.length ≤ 4096 := by rw [HLB.out]; omega
      have hx2 : 0 < l.now.length ∧ l.now.length ≤ 4096 := by rw [HLN.out]; omega
      refine step_app w0.heap.size (by rfl) (.const (.slice none 0 0)) (.tmp 72) 97 4 (.bool false) 1 1 rfl Tryz.underlying97 infoBool rfl (by decide) (.slice none 0 0) 0 [] (by rfl) (own_nil _ _ _ _) A2 l.now.length k2 (l.now.map Value.bool) t72 (by simp) (flat_bools (hr3.n.below hbw0)) (bools_one _) (by omega) (by omega) (Nat.le_refl _) ?_
      intro A6 c6 w2 ho hg _
      simp only [Nat.zero_add, List.nil_append] at ho ⊢
      have hb2 := grown_below hg
      obtain ⟨g6, cs6, rfl, e1, e2, e3⟩ := own_block ho (by omega)
      refine hK.out _ _ ?_
      refine RI.put (i := 9) (d := 73) hI (by decide) rfl rfl (by simp) (by kernel_rfl) ⟨g6, c6, cs6, rfl, e1, e2, Nat.le_trans hBs e3⟩ (ctF_below hb2) ⟨hbw0.trans (hb2.mono hBs), fun _ => ⟨by rw [getD_set_ne false (by decide)]; exact d6, fun x1 x2 x3 x4 x5 x6 y1 y2 => ?_⟩⟩
      have y1' : Value.slice (some ⟨g7, 0, none⟩) l.before.length c7 = .slice (some ⟨x1, 0, none⟩) x2 x3 := by rw [put_ne (by decide), t70] at y1; exact y1
      have y2' : Value.slice (some ⟨g6, 0, none⟩) l.now.length c6 = .slice (some ⟨x4, 0, none⟩) x5 x6 := by rw [put_at (by rw [hI.sz]; simp)] at y2; exact y2
      injection y1' with y1'
      injection y1' with y1'
      injection y1' with y1'
      injection y2' with y2'
      injection y2' with y2'
      injection y2' with y2'
      have := blk_lt f1
      omega
     ·refine stepI rfl ?_
      intro l0 a0 w0 K hI hs hl0 hd hK
      have t5 : a0.tmps.getD 5 undef = .pointer (some ⟨B + 1, 0, none⟩) := hI.old 5 (by kernel_rfl)
      have hbw0 := hI.glob.1
      have hBs : W3.heap.size ≤ w0.heap.size := hbw0.size
      obtain ⟨m0, m1, m2, m3, m4, m5, m6, m7, m8, m9, m10, m11, m12⟩ := cs13 (blk_below q1 hbw0)
      have d1 : l0.getD 1 false = true := hd _ rfl ⟨1, .data⟩ (by simp) rfl
      have t65 := hI.fct 1 _ _ (by decide) rfl rfl d1
      simp only [ctF] at t65
      have d3 : l0.getD 3 false = true := hd _ rfl ⟨3, .data⟩ (by simp) rfl
      have t67 := hI.fct 3 _ _ (by decide) rfl rfl d3
      simp only [ctF] at t67
      have d6 : l0.getD 6 false = true := hd _ rfl ⟨6, .data⟩ (by simp) rfl
      obtain ⟨g6, c6, cs6, e70, f1, f2, f3⟩ := hI.fct 6 _ _ (by decide) rfl rfl d6
      have d9 : l0.getD 9 false = true := hd _ rfl ⟨9, .data⟩ (by simp) rfl
      obtain ⟨g9, c9, cs9, e73, g1, g2, g3⟩ := hI.fct 9 _ _ (by decide) rfl rfl d9
      have t70 : a0.tmps.getD 70 undef = _ := e70
      have t73 : a0.tmps.getD 73 undef = _ := e73
      have u65 : a0.tmps[65]?.getD undef = .agg #[.bool l.j.b0, .bool l.j.b1, .bool l.j.b2, .bool l.j.b3, .int .i64 l.j.prev.e, .int .u64 l.j.prev.r, .int .i64 l.j.cur.e, .int .u64 l.j.cur.r, .int .i64 l.j.fin.e, .int .u64 l.j.fin.r] := by rw [← Array.getD_eq_getD_getElem?]; exact t65
      have u67 : a0.tmps[67]?.getD undef = .int .i64 l.epoch := by rw [← Array.getD_eq_getD_getElem?]; exact t67
      have u70 : a0.tmps[70]?.getD undef = .slice (some ⟨g6, 0, none⟩) l.before.length c6 := by rw [← Array.getD_eq_getD_getElem?]; exact t70
      have u73 : a0.tmps[73]?.getD undef = .slice (some ⟨g9, 0, none⟩) l.now.length c9 := by rw [← Array.getD_eq_getD_getElem?]; exact t73
      have hne := (hI.glob.2 d9).2 g6 _ c6 g9 _ c9 t70 t73
      go_simp
      refine hK.out _ _ ?_
      exact RI.put (i := 10) (d := 74) hI (by decide) rfl rfl (by simp) (by kernel_rfl) ⟨g6, c6, cs6, g9, c9, cs9, rfl, f1, f2, f3, g1, g2, g3, hne⟩ (ctF_below (Below.refl _ _)) (ctG_step hI.glob (Below.refl _ _) (by decide) (by decide) hBs)
     ·refine stepI rfl ?_
      intro l0 a0 w0 K hI hs hl0 hd hK
      have t5 : a0.tmps.getD 5 undef = .pointer (some ⟨B + 1, 0, none⟩) := hI.old 5 (by kernel_rfl)
      have hbw0 := hI.glob.1
      have hBs : W3.heap.size ≤ w0.heap.size := hbw0.size
      obtain ⟨m0, m1, m2, m3, m4, m5, m6, m7, m8, m9, m10, m11, m12⟩ := cs13 (blk_below q1 hbw0)
      have hz := zLs
      go_simp
      have hb2 : Below w0.heap.size w0 (w0.alloc (.cells #[.bool Ls.zero.j.b0, .bool Ls.zero.j.b1, .bool Ls.zero.j.b2, .bool Ls.zero.j.b3, .int .i64 Ls.zero.j.prev.e, .int .u64 Ls.zero.j.prev.r, .int .i64 Ls.zero.j.cur.e, .int .u64 Ls.zero.j.cur.r, .int .i64 Ls.zero.j.fin.e, .int .u64 Ls.zero.j.fin.r, .int .i64 Ls.zero.epoch, .slice (none : Option Addr) Ls.zero.before.length 0, .slice (none : Option Addr) Ls.zero.now.length 0] 99)) := below_alloc (Below.refl _ _) _
      refine hK.out _ _ ?_
      exact RI.put (i := 11) (d := 12) hI (by decide) rfl rfl (by simp) (by kernel_rfl) ⟨_, rfl, heap_new w0 _, hBs⟩ (ctF_below hb2) (ctG_step hI.glob hb2 (by decide) (by decide) hBs)
    ·intro l0 a0 w4 hI hall hls hun
     obtain rfl := lits (by decide) hls hall hun
     obtain ⟨g6, c6, cs6, g9, c9, cs9, t74, f1, f2, f3, g1, g2, g3, hne⟩ := hI.fct 10 _ _ (by decide) rfl rfl rfl
     obtain ⟨nb, t12, n1, n2⟩ := hI.fct 11 _ _ (by decide) rfl rfl rfl
     have hbw4 := hI.glob.1
     have o0 : a0.tmps.getD 0 undef = cfC c A k := hI.old 0 (by kernel_rfl)
     have o3 : a0.tmps.getD 3 undef = .func (.func g) #[] caps := hI.old 3 (by kernel_rfl)
     have o4 : a0.tmps.getD 4 undef = .pointer (some ⟨B, 0, none⟩) := hI.old 4 (by kernel_rfl)
     have o5 : a0.tmps.getD 5 undef = .pointer (some ⟨B + 1, 0, none⟩) := hI.old 5 (by kernel_rfl)
     have o6 : a0.tmps.getD 6 undef = .pointer (some ⟨B + 1 + 1, 0, none⟩) := hI.old 6 (by kernel_rfl)
     have o8 : a0.tmps.getD 8 undef = .pointer (some ⟨B + 1 + 1 + 1, 0, none⟩) := hI.old 8 (by kernel_rfl)
     have o9 : a0.tmps.getD 9 undef = .bool false := hI.old 9 (by kernel_rfl)
     have o10 : a0.tmps.getD 10 undef = .bool now := hI.old 10 (by kernel_rfl)
     have o11 : a0.tmps.getD 11 undef = .pointer (some ⟨B + 1 + 1 + 1 + 1, 0, none⟩) := hI.old 11 (by kernel_rfl)
     obtain ⟨fr, hfr, ha0⟩ := frame_list a0 (n := 92) (by have := hI.sz; simpa using this) hI.df
     rw [← hfr] at t12 t74 o0 o3 o4 o5 o6 o8 o9 o10 o11
     rw [ha0, show (List.range 92).map fr = [fr 0, fr 1, fr 2, fr 3, fr 4, fr 5, fr 6, fr 7, fr 8, fr 9, fr 10, fr 11, fr 12, fr 13, fr 14, fr 15, fr 16, fr 17, fr 18, fr 19, fr 20, fr 21, fr 22, fr 23, fr 24, fr 25, fr 26, fr 27, fr 28, fr 29, fr 30, fr 31, fr 32, fr 33, fr 34, fr 35, fr 36, fr 37, fr 38, fr 39, fr 40, fr 41, fr 42, fr 43, fr 44, fr 45, fr 46, fr 47, fr 48, fr 49, fr 50, fr 51, fr 52, fr 53, fr 54, fr 55, fr 56, fr 57, fr 58, fr 59, fr 60, fr 61, fr 62, fr 63, fr 64, fr 65, fr 66, fr 67, fr 68, fr 69, fr 70, fr 71, fr 72, fr 73, fr 74, fr 75, fr 76, fr 77, fr 78, fr 79, fr 80, fr 81, fr 82, fr 83, fr 84, fr 85, fr 86, fr 87, fr 88, fr 89, fr 90, fr 91] from rfl]
     simp only [t12, t74, o0, o3, o4, o5, o6, o8, o9, o10, o11]
     clear ha0 hfr t12 t74 o0 o3 o4 o5 o6 o8 o9 o10 o11
     clear hI hall hls hun
     refine last_list (i := 12) (by kernel_rfl) rfl (by kernel_rfl) ?_
     go_upto_region 8 with (refine wpList_storeB rfl 99 (.tmp 12) (.tmp 74) rfl nb _ [.bool l.j.b0, .bool l.j.b1, .bool l.j.b2, .bool l.j.b3, .int .i64 l.j.prev.e, .int .u64 l.j.prev.r, .int .i64 l.j.cur.e, .int .u64 l.j.cur.r, .int .i64 l.j.fin.e, .int .u64 l.j.fin.r, .int .i64 l.epoch, .slice (some ⟨g6, 0, none⟩) l.before.length c6, .slice (some ⟨g9, 0, none⟩) l.now.length c9] n1 rfl rfl rfl iLs rfl ?_; intro W5 hR5 hx5 hs5)
     have hbw5 : Below W3.heap.size W3 W5 := hbw4.trans (hx5.below hbw4.size (fun i hi e => by omega))
     have F1 := blk_extne f1 hx5 n1 (by decide)
     have G1 := blk_extne g1 hx5 n1 (by decide)
     obtain ⟨z0, z1, z2, z3, z4, z5, z6, z7, z8, z9, z10, z11, z12⟩ := cs13 hR5
     obtain ⟨y0, y1, y2, y3, y4, y5, y6⟩ := cs7 (blk_below q2 hbw5)
     clear f1 g1 n1 hx5 hs5
     have hvl2 : v.who.length ≤ 9223372036854775807 := by unfold maxLen at hvl; omega
     cases now with
     | true =>
      have HL2 : Hid (countL c f l v = { l with now := setAll l.now v.who }) := by show _ = _; rw [HL.out]; rfl
      have hge := g3
      go_wp2
      go_loopw [83] (fun i wr => ∃ (j : Nat) (cs' : Array Value), j ≤ v.who.length ∧ i = .int .i64 j ∧ Hid (wr.heap[g9]? = some (.cells cs' 4 (0, 0))) ∧ Hid ((setAll l.now (v.who.take j)).map Value.bool <+: cs'.toList) ∧ Hid (Ext (fun i => i = g9) W5 wr)) (fun i _ => v.who.length - (intOf i).toNat)
      case atStart => exact ⟨0, cs9, Nat.zero_le _, rfl, G1, g2, Ext.refl _ _⟩
      case round =>
       obtain ⟨j, cs', hj, rfl, HH, HP, HX⟩ := hrel
       have hbwr : Below W3.heap.size W3 wr := hbw5.trans (HX.out.below hbw5.size (fun i hi e => by omega))
       by_cases hlt : j < v.who.length
       ·obtain ⟨b3, o3, rfl, _, hc⟩ := (hvw3.below hbwr).get hlt
        have HX2 := Lib.hid (whoOk_get HR.out hlt)
        have HT := Lib.hid (setAll_snoc l.now v.who j hlt)
        have hxx : 0 ≤ v.who.getD j 0 ∧ v.who.getD j 0 < l.now.length := ⟨HX2.out.1, by rw [HLN.out]; exact HX2.out.2.1⟩
        generalize v.who.getD j 0 = x at hc HT hxx
        obtain ⟨hx0, hx1⟩ := hxx
        obtain ⟨m, rfl⟩ := Int.eq_ofNat_of_zero_le hx0
        have hml : m < (setAll l.now (v.who.take j)).length := by rw [setAll_length]; omega
        have hms : m < cs'.size := by
         obtain ⟨t, ht⟩ := HP.out
         have := congrArg List.length ht
         simp at this
         omega
        have hcm := blk_cell HH.out m
        rw [Array.getElem?_eq_getElem hms] at hcm
        have hfm := blk_frozen HH.out m
        generalize cs'[m] = y at hcm
        have HML := Lib.hid hml
        clear hml
        go_wp2
        go_roundw
        case rel =>
         refine ⟨j + 1, cs'.setIfInBounds m (.bool true), by omega, by go_num, blk_set HH.out m (.bool true), ?_, HX.out.set1⟩
         show _ <+: _
         rw [HT.out, Int.toNat_natCast]
         exact prefix_set HP.out HML.out
        case measure => simp [intOf]; omega
       ·obtain rfl : j = v.who.length := by omega
        rw [List.take_length] at HP
        have hnbne : nb ≠ g9 := cells_ne2 hR5 G1 (by decide)
        have hR6 := blk_ext hR5 HX.out hnbne
        have q3' := blk_below q3 hbwr
        go_wp2_with (first
         | (refine wpList_loadP rfl 99 (.tmp 12) rfl nb 0 [.bool l.j.b0, .bool l.j.b1, .bool l.j.b2, .bool l.j.b3, .int .i64 l.j.prev.e, .int .u64 l.j.prev.r, .int .i64 l.j.cur.e, .int .u64 l.j.cur.r, .int .i64 l.j.fin.e, .int .u64 l.j.fin.r, .int .i64 l.epoch, .slice (some ⟨g6, 0, none⟩) l.before.length c6, .slice (some ⟨g9, 0, none⟩) l.now.length c9] _ hR6 rfl rfl _ Tryz.underlying99 rfl iLs ?_)
         | (refine wpList_storeB rfl 99 (.tmp 8) (.tmp 91) rfl (B + 1 + 1 + 1) _ [.bool l.j.b0, .bool l.j.b1, .bool l.j.b2, .bool l.j.b3, .int .i64 l.j.prev.e, .int .u64 l.j.prev.r, .int .i64 l.j.cur.e, .int .u64 l.j.cur.r, .int .i64 l.j.fin.e, .int .u64 l.j.fin.r, .int .i64 l.epoch, .slice (some ⟨g6, 0, none⟩) l.before.length c6, .slice (some ⟨g9, 0, none⟩) l.now.length c9] q3' rfl rfl rfl iLs rfl ?_; intro W7 hR7 hx7 hs7))
        refine bodyPost_ret (results_cellB2 rfl _ (B + 1 + 1 + 1) _ hR7 rfl _ Tryz.underlying99 rfl iLs) rfl ?_
        rw [HL2.out, HB.out, hCB]
        refine ⟨some ⟨g6, 0, none⟩, c6, some ⟨g9, 0, none⟩, c9, ?_, ⟨?_, ?_⟩, ?_⟩
        ·simp only [setAll_length]; rfl
        ·exact ⟨g6, cs6, rfl, blk_extne (blk_ext F1 HX.out (fun e => hne e)) hx7 q3' (by decide), f2⟩
        ·exact ⟨g9, cs', rfl, blk_extne HH.out hx7 q3' (by decide), HP.out⟩
        ·exact (hbw3.trans (hbwr.mono (by omega))).trans (hx7.below (by have := hbwr.size; omega) (fun i hi e => by omega))
     | false =>
      have HL2 : Hid (countL c f l v = { l with before := setAll l.before v.who }) := by show _ = _; rw [HL.out]; rfl
      have hge := f3
      go_wp2
      go_loopw [83] (fun i wr => ∃ (j : Nat) (cs' : Array Value), j ≤ v.who.length ∧ i = .int .i64 j ∧ Hid (wr.heap[g6]? = some (.cells cs' 4 (0, 0))) ∧ Hid ((setAll l.before (v.who.take j)).map Value.bool <+: cs'.toList) ∧ Hid (Ext (fun i => i = g6) W5 wr)) (fun i _ => v.who.length - (intOf i).toNat)
      case atStart => exact ⟨0, cs6, Nat.zero_le _, rfl, F1, f2, Ext.refl _ _⟩
      case round =>
       obtain ⟨j, cs', hj, rfl, HH, HP, HX⟩ := hrel
       have hbwr : Below W3.heap.size W3 wr := hbw5.trans (HX.out.below hbw5.size (fun i hi e => by omega))
       by_cases hlt : j < v.who.length
       ·obtain ⟨b3, o3, rfl, _, hc⟩ := (hvw3.below hbwr).get hlt
        have HX2 := Lib.hid (whoOk_get HR.out hlt)
        have HT := Lib.hid (setAll_snoc l.before v.who j hlt)
        have hxx : 0 ≤ v.who.getD j 0 ∧ v.who.getD j 0 < l.before.length := ⟨HX2.out.1, by rw [HLB.out]; exact HX2.out.2.1⟩
        generalize v.who.getD j 0 = x at hc HT hxx
        obtain ⟨hx0, hx1⟩ := hxx
        obtain ⟨m, rfl⟩ := Int.eq_ofNat_of_zero_le hx0
        have hml : m < (setAll l.before (v.who.take j)).length := by rw [setAll_length]; omega
        have hms : m < cs'.size := by
         obtain ⟨t, ht⟩ := HP.out
         have := congrArg List.length ht
         simp at this
         omega
        have hcm := blk_cell HH.out m
        rw [Array.getElem?_eq_getElem hms] at hcm
        have hfm := blk_frozen HH.out m
        generalize cs'[m] = y at hcm
        have HML := Lib.hid hml
        clear hml
        go_wp2
        go_roundw
        case rel =>
         refine ⟨j + 1, cs'.setIfInBounds m (.bool true), by omega, by go_num, blk_set HH.out m (.bool true), ?_, HX.out.set1⟩
         show _ <+: _
         rw [HT.out, Int.toNat_natCast]
         exact prefix_set HP.out HML.out
        case measure => simp [intOf]; omega
       ·obtain rfl : j = v.who.length := by omega
        rw [List.take_length] at HP
        have hnbne : nb ≠ g6 := cells_ne2 hR5 F1 (by decide)
        have hR6 := blk_ext hR5 HX.out hnbne
        have q3' := blk_below q3 hbwr
        go_wp2_with (first
         | (refine wpList_loadP rfl 99 (.tmp 12) rfl nb 0 [.bool l.j.b0, .bool l.j.b1, .bool l.j.b2, .bool l.j.b3, .int .i64 l.j.prev.e, .int .u64 l.j.prev.r, .int .i64 l.j.cur.e, .int .u64 l.j.cur.r, .int .i64 l.j.fin.e, .int .u64 l.j.fin.r, .int .i64 l.epoch, .slice (some ⟨g6, 0, none⟩) l.before.length c6, .slice (some ⟨g9, 0, none⟩) l.now.length c9] _ hR6 rfl rfl _ Tryz.underlying99 rfl iLs ?_)
         | (refine wpList_storeB rfl 99 (.tmp 8) (.tmp 91) rfl (B + 1 + 1 + 1) _ [.bool l.j.b0, .bool l.j.b1, .bool l.j.b2, .bool l.j.b3, .int .i64 l.j.prev.e, .int .u64 l.j.prev.r, .int .i64 l.j.cur.e, .int .u64 l.j.cur.r, .int .i64 l.j.fin.e, .int .u64 l.j.fin.r, .int .i64 l.epoch, .slice (some ⟨g6, 0, none⟩) l.before.length c6, .slice (some ⟨g9, 0, none⟩) l.now.length c9] q3' rfl rfl rfl iLs rfl ?_; intro W7 hR7 hx7 hs7))
        refine bodyPost_ret (results_cellB2 rfl _ (B + 1 + 1 + 1) _ hR7 rfl _ Tryz.underlying99 rfl iLs) rfl ?_
        rw [HL2.out, HB.out, hCB]
        refine ⟨some ⟨g6, 0, none⟩, c6, some ⟨g9, 0, none⟩, c9, ?_, ⟨?_, ?_⟩, ?_⟩
        ·simp only [setAll_length]; rfl
        ·exact ⟨g6, cs', rfl, blk_extne HH.out hx7 q3' (by decide), HP.out⟩
        ·exact ⟨g9, cs9, rfl, blk_extne (blk_ext G1 HX.out (fun e => hne.symm e)) hx7 q3' (by decide), g2⟩
        ·exact (hbw3.trans (hbwr.mono (by omega))).trans (hx7.below (by have := hbwr.size; omega) (fun i hi e => by omega))
end Go.Proofs.YtnppimhlfcjghaaGreat
