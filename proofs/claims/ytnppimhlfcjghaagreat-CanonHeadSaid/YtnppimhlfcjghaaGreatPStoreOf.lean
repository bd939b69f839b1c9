import Derived.Test.YtnppimhlfcjghaaGreatPAdv
import Derived.Test.YtnppimhlfcjghaaGreatPRange
import Derived.Test.YtnppimhlfcjghaaGreatPOpsK
set_option linter.all false
set_option linter.unusedVariables false
set_option linter.unusedSimpArgs false
namespace Go.Proofs.YtnppimhlfcjghaaGreat
open Go.RowKit
set_option maxRecDepth 100000
set_option maxHeartbeats 4000000
def RetStore (c : Cf) (w : World) (e : Ending) (w' : World) : Prop := ∃ p k vk, e = .returned (.tuple #[.pointer (some ⟨p.sb, 0, none⟩), .nilIface]) ∧ StoreAt w' p (St.of c) k vk (.slice none 0 0) ∧ (∀ i ∈ p.all, w.heap.size ≤ i) ∧ Below w.heap.size w w'
theorem list29 {l : List Value} (h : l.length = 29) : ∃ v0 v1 v2 v3 v4 v5 v6 v7 v8 v9 v10 v11 v12 v13 v14 v15 v16 v17 v18 v19 v20 v21 v22 v23 v24 v25 v26 v27 v28, l = [v0, v1, v2, v3, v4, v5, v6, v7, v8, v9, v10, v11, v12, v13, v14, v15, v16, v17, v18, v19, v20, v21, v22, v23, v24, v25, v26, v27, v28] := by
 match l, h with | [v0, v1, v2, v3, v4, v5, v6, v7, v8, v9, v10, v11, v12, v13, v14, v15, v16, v17, v18, v19, v20, v21, v22, v23, v24, v25, v26, v27, v28], _ => exact ⟨v0, v1, v2, v3, v4, v5, v6, v7, v8, v9, v10, v11, v12, v13, v14, v15, v16, v17, v18, v19, v20, v21, v22, v23, v24, v25, v26, v27, v28, rfl⟩
def ofF (cb : Nat) (c : Cf) (bb k B : Nat) : Nat → Value → World → Prop
 | 0, v, _ => v = .agg #[.slice (some ⟨bb, 0, none⟩) c.bal.length k, .int .i64 c.slots, .int .i64 c.boost]
 | 1, v, w => ∃ tb nb, v = .pointer (some ⟨tb, 0, none⟩) ∧ TreeAt w tb nb (Tr.of 1 0) ∧ B ≤ tb ∧ B ≤ nb
 | 2, v, _ => v = .pointer (some ⟨cb, 0, none⟩)
 | 3, v, _ => v = .slice (some ⟨bb, 0, none⟩) c.bal.length k
 | 4, v, _ => v = .int .i64 c.bal.length
 | 5, v, w => ∃ vb, v = .slice (some ⟨vb, 0, none⟩) c.bal.length c.bal.length ∧ VotesAt w vb (List.replicate c.bal.length En.zero) ∧ B ≤ vb
 | 6, v, _ => v = .agg #[.int .i64 0, .int .u64 1]
 | 7, v, _ => v = .agg #[.int .i64 0, .int .u64 1]
 | 8, v, w => ∃ mb, v = .map (some mb) ∧ B ≤ mb ∧ mb < w.heap.size
 | 9, v, _ => v = .agg #[.slice (some ⟨bb, 0, none⟩) c.bal.length k, .int .i64 c.slots, .int .i64 c.boost]
 | 10, v, w => LsK w (openL c 1) v
 | 12, v, w => ∃ mb, v = .map (some mb) ∧ LedAt w mb [(1, openL c 1)] ∧ B ≤ mb
 | 13, v, w => ∃ gb, v = .map (some gb) ∧ MapAt w gb [] ∧ B ≤ gb
 | _, _, _ => True
theorem ofF_below {cb : Nat} {c : Cf} {bb k B : Nat} {w w' : World} (hb : Below w.heap.size w w') : ∀ j u, ofF cb c bb k B j u w → ofF cb c bb k B j u w'
 | 0, _, h | 2, _, h | 3, _, h | 4, _, h | 6, _, h | 7, _, h | 9, _, h => h
 | 1, _, ⟨tb, nb, h1, h2, h3⟩ => ⟨tb, nb, h1, h2.below hb, h3⟩
 | 5, _, ⟨vb, h1, h2, h3⟩ => ⟨vb, h1, h2.below hb, h3⟩
 | 8, _, ⟨mb, h1, h2, h3⟩ => ⟨mb, h1, h2, Nat.lt_of_lt_of_le h3 hb.size⟩
 | 10, _, h => LsK.below h hb
 | 12, _, ⟨mb, h1, h2, h3⟩ => ⟨mb, h1, h2.below hb, h3⟩
 | 13, _, ⟨gb, h1, h2, h3⟩ => ⟨gb, h1, h2.below hb, h3⟩
 | 11, _, _ => trivial
 | _ + 14, _, _ => trivial
def ofG (c : Cf) (B : Nat) (W0 : World) (l : Array Bool) (ts : Array Value) (w : World) : Prop :=
 Below B W0 w ∧ (l.getD 8 false = true → l.getD 11 true = false → ∃ mb, ts.getD 22 undef = .map (some mb) ∧ MapAt w mb [] ∧ B ≤ mb) ∧
 (l.getD 11 false = true → ∃ mb, ts.getD 22 undef = .map (some mb) ∧ LedAt w mb [(1, openL c 1)] ∧ B ≤ mb) ∧
 (l.getD 8 false = true → l.getD 13 false = true → ts.getD 22 undef ≠ ts.getD 26 undef) ∧ (l.getD 11 false = true → l.getD 8 false = true)
theorem mapAt_inj {w : World} {b : Nat} {k1 k2 : List (Int × Value)} (h1 : MapAt w b k1) (h2 : MapAt w b k2) : k1.map (·.2) = k2.map (·.2) := by
 obtain ⟨es, clk, a1, _, a3⟩ := h1
 obtain ⟨es', clk', b1, _, b3⟩ := h2
 rw [a1] at b1
 cases b1
 have := congrArg (List.map Prod.snd) (a3.symm.trans b3)
 simpa [Function.comp_def] using this
theorem getD_put_ne {l : Array Bool} {i j : Nat} (d : Bool) (h : i ≠ j) : (l.setIfInBounds i true).getD j d = l.getD j d := getD_set_ne d h
theorem ofG_step {c : Cf} {B : Nat} {W0 w w' : World} {l : Array Bool} {ts : Array Value} {i d : Nat} {v : Value} (h : ofG c B W0 l ts w) (hb : Below w.heap.size w w') (hi : i ≠ 8 ∧ i ≠ 11 ∧ i ≠ 13) (hd : d ≠ 22 ∧ d ≠ 26) (hB : B ≤ w.heap.size) : ofG c B W0 (l.setIfInBounds i true) (ts.setIfInBounds d v) w' := by
 obtain ⟨h1, h2, h3, h4, h5⟩ := h
 obtain ⟨i1, i2, i3⟩ := hi
 obtain ⟨d1, d2⟩ := hd
 have e22 : (ts.setIfInBounds d v).getD 22 undef = ts.getD 22 undef := by simp only [Array.getD_eq_getD_getElem?, Array.getElem?_setIfInBounds, if_neg d1]
 have e26 : (ts.setIfInBounds d v).getD 26 undef = ts.getD 26 undef := by simp only [Array.getD_eq_getD_getElem?, Array.getElem?_setIfInBounds, if_neg d2]
 unfold ofG
 rw [e22, e26, getD_set_ne false i1, getD_set_ne true i2, getD_set_ne false i2, getD_set_ne false i3]
 refine ⟨h1.trans (hb.mono hB), fun a b => ?_, fun a => ?_, h4, h5⟩
 ·obtain ⟨mb, x1, x2, x3⟩ := h2 a b
  exact ⟨mb, x1, x2.below hb, x3⟩
 ·obtain ⟨mb, x1, x2, x3⟩ := h3 a
  exact ⟨mb, x1, x2.below hb, x3⟩
theorem put22 {ts : Array Value} {d e : Nat} (h : d ≠ e) (v : Value) : (ts.setIfInBounds d v).getD e undef = ts.getD e undef := by simp only [Array.getD_eq_getD_getElem?, Array.getElem?_setIfInBounds, if_neg h]
theorem putAt {ts : Array Value} {d : Nat} (h : d < ts.size) (v : Value) : (ts.setIfInBounds d v).getD d undef = v := by simp [Array.getD_eq_getD_getElem?, Array.getElem?_setIfInBounds, h]
theorem setAtT {l : Array Bool} {i : Nat} (h : i < l.size) (d : Bool) : (l.setIfInBounds i true).getD i d = true := by simp [Array.getD_eq_getD_getElem?, Array.getElem?_setIfInBounds, h]
theorem ofG_make8 {c : Cf} {B : Nat} {W0 w : World} {l : Array Bool} {ts : Array Value} (h : ofG c B W0 l ts w) (hl : l.getD 8 true = false) (hB : B ≤ w.heap.size) (hs : 22 < ts.size) (h13 : l.getD 13 false = true → ∃ gb, ts.getD 26 undef = .map (some gb) ∧ MapAt w gb [] ∧ B ≤ gb) :
    ofG c B W0 (l.setIfInBounds 8 true) (ts.setIfInBounds 22 (.map (some w.heap.size))) (w.alloc (.map #[] 0)) := by
 obtain ⟨h1, h2, h3, h4, h5⟩ := h
 have hb : Below w.heap.size w (w.alloc (.map #[] 0)) := below_alloc (Below.refl _ _) _
 have h8 : 8 < l.size := by
  rcases Nat.lt_or_ge 8 l.size with h | h
  ·exact h
  ·simp [Array.getD, Nat.not_lt.2 h] at hl
 have hno : l.getD 11 false = true → False := fun e => by
  have := h5 e
  rw [getD_tf h8 hl] at this
  cases this
 unfold ofG
 rw [putAt hs, put22 (by decide), getD_set_ne (i := 8) (j := 11) true (by decide), getD_set_ne (i := 8) (j := 11) false (by decide), getD_set_ne (i := 8) (j := 13) false (by decide)]
 refine ⟨h1.trans (hb.mono hB), fun _ _ => ⟨_, rfl, MapAt.new w, hB⟩, fun e => (hno e).elim, fun _ e => ?_, fun e => (hno e).elim⟩
 obtain ⟨gb, x1, x2, _⟩ := h13 e
 rw [x1]
 intro e2
 injection e2 with e2
 injection e2 with e2
 have := x2.lt
 omega
theorem ofG_make13 {c : Cf} {B : Nat} {W0 w : World} {l : Array Bool} {ts : Array Value} (h : ofG c B W0 l ts w) (hB : B ≤ w.heap.size) (hs : 26 < ts.size) (h8 : l.getD 8 false = true → ∃ mb, ts.getD 22 undef = .map (some mb) ∧ B ≤ mb ∧ mb < w.heap.size) :
    ofG c B W0 (l.setIfInBounds 13 true) (ts.setIfInBounds 26 (.map (some w.heap.size))) (w.alloc (.map #[] 0)) := by
 obtain ⟨h1, h2, h3, h4, h5⟩ := h
 have hb : Below w.heap.size w (w.alloc (.map #[] 0)) := below_alloc (Below.refl _ _) _
 unfold ofG
 rw [putAt hs, put22 (by decide), getD_set_ne (i := 13) (j := 8) false (by decide), getD_set_ne (i := 13) (j := 11) true (by decide), getD_set_ne (i := 13) (j := 11) false (by decide)]
 refine ⟨h1.trans (hb.mono hB), fun a b => ?_, fun a => ?_, fun a _ => ?_, h5⟩
 ·obtain ⟨mb, x1, x2, x3⟩ := h2 a b
  exact ⟨mb, x1, x2.below hb, x3⟩
 ·obtain ⟨mb, x1, x2, x3⟩ := h3 a
  exact ⟨mb, x1, x2.below hb, x3⟩
 ·obtain ⟨mb, x1, _, x2⟩ := h8 a
  rw [x1]
  intro e2
  injection e2 with e2
  injection e2 with e2
  omega
theorem led_kvs {w : World} {mb : Nat} {l : Ls} (h : LedAt w mb [(1, l)]) : ∃ v, MapAt w mb [(1, v)] ∧ LsK w l v := by
 obtain ⟨kvs, h1, h2⟩ := h
 match kvs, h2 with
 | [(k, v)], h2 =>
  obtain ⟨e, h3, _⟩ := h2
  cases e
  exact ⟨v, h1, h3⟩
theorem keep_map {w w' : World} {mb : Nat} {kvs : List (Int × Value)} (hm : MapAt w mb kvs) (hx : Ext (fun i => i = mb) w w') : KeepB w w' := KeepB.of_ext hx (fun b cs hb e => by
 have e' : b = mb := e
 subst e'
 obtain ⟨es, clk, a, _⟩ := hm
 rw [a] at hb
 cases hb)
theorem cells_ne {w : World} {a b : Nat} {cs cs' : Array Value} {t t' : TypeId} {f f' : Nat × Nat} (h1 : w.heap[a]? = some (.cells cs t f)) (h2 : w.heap[b]? = some (.cells cs' t' f')) (hne : t ≠ t') : a ≠ b := fun e => by
 subst e
 rw [h1] at h2
 injection h2 with h2
 injection h2 with _ e2 _
 exact hne e2
theorem map_ne {w : World} {a b : Nat} {cs : Array Value} {t : TypeId} {f : Nat × Nat} {kvs : List (Int × Value)} (h1 : w.heap[a]? = some (.cells cs t f)) (h2 : MapAt w b kvs) : a ≠ b := fun e => by
 subst e
 obtain ⟨es, clk, h, _⟩ := h2
 rw [h1] at h
 cases h
theorem of_final {w W0 w1 : World} {c : Cf} {cb bb k tb nb vb mb gb : Nat} (hcb : w.heap.size = cb) (hsB : bb < W0.heap.size ∧ cb < bb) (hbw0 : Below cb w W0) (hbal : Ints (fun b => b = bb) .u64 W0 (some ⟨bb, 0, none⟩) c.bal) (hbw : Below W0.heap.size W0 w1)
    (hT : TreeAt w1 tb nb (Tr.of 1 0)) (hV : VotesAt w1 vb (List.replicate c.bal.length En.zero)) (hL : LedAt w1 mb [(1, openL c 1)]) (hG : MapAt w1 gb []) (h1 : W0.heap.size ≤ tb) (h2 : W0.heap.size ≤ nb) (h3 : W0.heap.size ≤ vb) (h4 : W0.heap.size ≤ mb) (h5 : W0.heap.size ≤ gb) :
    RetStore c w (.returned (.tuple #[.pointer (some ⟨w1.heap.size, 0, none⟩), .nilIface])) (w1.alloc (.cells #[.slice (some ⟨bb, 0, none⟩) c.bal.length k, .int .i64 c.slots, .int .i64 c.boost, .pointer (some ⟨tb, 0, none⟩), .slice (some ⟨vb, 0, none⟩) c.bal.length c.bal.length, .int .i64 0, .int .u64 0, .int .i64 0, .int .u64 1, .int .i64 0, .int .u64 1, .map (some mb), .map (some gb), .slice none 0 0] 43)) := by
 have hb : Below w1.heap.size w1 (w1.alloc (.cells #[.slice (some ⟨bb, 0, none⟩) c.bal.length k, .int .i64 c.slots, .int .i64 c.boost, .pointer (some ⟨tb, 0, none⟩), .slice (some ⟨vb, 0, none⟩) c.bal.length c.bal.length, .int .i64 0, .int .u64 0, .int .i64 0, .int .u64 1, .int .i64 0, .int .u64 1, .map (some mb), .map (some gb), .slice none 0 0] 43)) := below_alloc (Below.refl _ _) _
 obtain ⟨vL, hL1, _⟩ := led_kvs hL
 have n1 := hT.ne
 have n2 := cells_ne hT.blk (show w1.heap[vb]? = _ from hV) (by decide)
 have n3 := map_ne hT.blk hL1
 have n4 := map_ne hT.blk hG
 have n5 := map_ne (show w1.heap[vb]? = _ from hV) hT.map
 have n6 := map_ne (show w1.heap[vb]? = _ from hV) hL1
 have n7 := map_ne (show w1.heap[vb]? = _ from hV) hG
 have n8 : nb ≠ mb := fun e => by
  subst e
  obtain ⟨vL, hL1, A, k1, A2, k2, hv, _⟩ := led_kvs hL
  have := mapAt_inj hT.map hL1
  simp [Tr.of, ndKV, hv, ndC] at this
 have n9 : nb ≠ gb := fun e => by
  subst e
  have := mapAt_inj hT.map hG
  simp [Tr.of, ndKV] at this
 have n10 : mb ≠ gb := fun e => by
  subst e
  have := mapAt_inj hL1 hG
  simp at this
 have s1 := blk_lt hT.blk
 have s2 := hT.map.lt
 have s3 := blk_lt (show w1.heap[vb]? = _ from hV)
 have s4 := hL1.lt
 have s5 := hG.lt
 have s6 := hbw.size
 refine ⟨⟨w1.heap.size, tb, nb, vb, mb, gb, bb, w1⟩, k, c.bal.length, rfl, ⟨?_, (hbal.below hbw).below hb, hT.below hb, hV.below hb, hL.below hb, hG.below hb, ?_⟩, ?_, ?_⟩
 ·have := heap_new w1 (.cells #[.slice (some ⟨bb, 0, none⟩) c.bal.length k, .int .i64 c.slots, .int .i64 c.boost, .pointer (some ⟨tb, 0, none⟩), .slice (some ⟨vb, 0, none⟩) c.bal.length c.bal.length, .int .i64 0, .int .u64 0, .int .i64 0, .int .u64 1, .int .i64 0, .int .u64 1, .map (some mb), .map (some gb), .slice none 0 0] 43)
  rw [this]
  simp only [stC, St.of, List.length_replicate]
 ·simp only [Places.all, List.nodup_cons, List.mem_cons, List.not_mem_nil, or_false, not_or, not_false_eq_true, List.nodup_nil, and_true]
  omega
 ·intro i hi
  simp only [Places.all, List.mem_cons, List.not_mem_nil, or_false] at hi
  omega
 ·rw [hcb]
  exact (hbw0.trans (hbw.mono (by omega))).trans (hb.mono (by omega))
theorem ofF_put {cb : Nat} {c : Cf} {bb k B mb : Nat} {w w' : World} (hm : MapAt w mb []) (hx : Ext (fun i => i = mb) w w') : ∀ j u, (j = 13 → u ≠ .map (some mb)) → ofF cb c bb k B j u w → ofF cb c bb k B j u w'
 | 0, _, _, h | 2, _, _, h | 3, _, _, h | 4, _, _, h | 6, _, _, h | 7, _, _, h | 9, _, _, h => h
 | 1, _, _, ⟨tb, nb, h1, h2, h3⟩ => by
   refine ⟨tb, nb, h1, h2.ext hx (fun e => ?_) (fun e => ?_), h3⟩
   ·have e' : tb = mb := e
    subst e'
    obtain ⟨es, clk, a, _⟩ := hm
    have := h2.blk
    rw [a] at this
    cases this
   ·have e' : nb = mb := e
    subst e'
    have := mapAt_inj hm h2.map
    simp [Tr.of, ndKV] at this
 | 5, _, _, ⟨vb, h1, h2, h3⟩ => by
   refine ⟨vb, h1, h2.ext hx (fun e => ?_), h3⟩
   have e' : vb = mb := e
   subst e'
   obtain ⟨es, clk, a, _⟩ := hm
   have : w.heap[vb]? = _ := h2
   rw [a] at this
   cases this
 | 8, _, _, ⟨m, h1, h2, h3⟩ => ⟨m, h1, h2, Nat.lt_of_lt_of_le h3 hx.size⟩
 | 10, _, _, h => LsK.keep h (keep_map hm hx)
 | 12, _, _, ⟨m, h1, h2, h3⟩ => by
   refine ⟨m, h1, h2.ext hx (fun e => ?_) (keep_map hm hx), h3⟩
   have e' : m = mb := e
   subst e'
   obtain ⟨v, hv, _⟩ := led_kvs h2
   have := mapAt_inj hm hv
   simp at this
 | 13, _, h, ⟨gb, h1, h2, h3⟩ => ⟨gb, h1, h2.ext hx (fun e => by
     have e' : gb = mb := e
     exact h rfl (by rw [h1, e'])), h3⟩
 | 11, _, _, _ => trivial
 | _ + 14, _, _, _ => trivial
theorem SOf_calls (w : World) (c : Cf) (A : Option Addr) (k : Nat) (hok : c.ok) (hb : Ints anyB .u64 w A c.bal) : Calls Tryz.prog 12 #[cfC c A k] w (RetStore c w) := by
 have hl1 := hok.l1
 have hl2 := hok.l2
 have hb0 : Below w.heap.size w (w.alloc (.cells #[.slice A c.bal.length k, .int .i64 c.slots, .int .i64 c.boost] 27)) := below_alloc (Below.refl _ _) _
 have cM := fun (W : World) (hW : Below w.heap.size w W) => May_yes W c A k hok (hb.below hW)
 have q0 := heap_new w (.cells #[.slice A c.bal.length k, .int .i64 c.slots, .int .i64 c.boost] 27)
 go_enter Tryz.func12, Tryz.ntmps12
 go_upto_region 4 with (go_at_call 31; refine (cM _ hb0).mono ?_; rintro e w1 ⟨rfl, hb1⟩)
 have q1 := blk_below (blk_below q0 hb1) (below_alloc (Below.refl _ w1) (.cells #[.int .i64 0, .int .u64 1] 38))
 have p1 := heap_new w1 (.cells #[.int .i64 0, .int .u64 1] 38)
 have hbw1 : Below w.heap.size w w1 := below_then hb0 (by simp) hb1
 have hbw2 : Below w.heap.size w (w1.alloc (.cells #[.int .i64 0, .int .u64 1] 38)) := below_alloc' hbw1 (Nat.le_refl _) _
 have hB2 := hb.below hbw2
 have hsz1 : w.heap.size < w1.heap.size := by have := hb1.size; simp at this; omega
 clear cM q0 hb0 hb1 hbw1
 obtain ⟨c0, _, _⟩ := cs3 q1
 have f0 := blk_frozen q1 0
 generalize hW2 : World.alloc w1 _ = w2 at q1 p1 hbw2 hB2 c0 f0 ⊢
 have hsz2 : w2.heap.size = w1.heap.size + 1 := by rw [← hW2]; simp
 clear hW2
 have hfl := Flat.of_ints hB2
 have tok : True := trivial
 go_upto_region 5 with (at_builtin; refine wpList_app w2.heap.size rfl (.const (.slice none 0 0)) (.tmp 11) 25 23 (.int .u64 0) 1 8 rfl Tryz.underlying25 It.infoU64 rfl (by decide) (.slice none 0 0) 0 [] rfl (own_nil _ _ _ _) A c.bal.length k (c.bal.map (Value.int .u64)) rfl (by simp) hfl (by intro u hu; obtain ⟨x, _, rfl⟩ := List.mem_map.1 hu; rfl) (by omega) (by omega) (Nat.le_refl _) ?_; intro A' k' w3 hown hg3 _; simp only [Nat.zero_add, List.nil_append] at hown ⊢; have hb3 : Below w2.heap.size w2 w3 := (Below.refl _ w2).grown hg3 (Nat.le_refl _) (fun k hk => by simp [Value.ownBlock] at hk); have q3 := blk_below q1 hb3; have p3 := blk_below p1 hb3; have f3 := blk_frozen q3 0; obtain ⟨c3, _, _⟩ := cs3 q3)
 obtain ⟨bb, cap, he, hbb, hbl⟩ := hown.form (by omega)
 injection he with e1 e2 e3
 subst e1 e3
 have hbal : Ints (fun b => b = bb) .u64 w3 (some ⟨bb, 0, none⟩) c.bal := by
  have := Ints.of_own hown
  intro h0
  obtain ⟨b, o, h1, h2, h3⟩ := this h0
  injection h1 with h1
  injection h1 with x1 x2 _
  subst x1 x2
  exact ⟨_, _, rfl, rfl, h3⟩
 have hbw3 : Below w.heap.size w w3 := hbw2.trans (hb3.mono hbw2.size)
 have hne : bb ≠ w.heap.size := by omega
 have q4 := blk_set q3 0 (.slice (some ⟨bb, 0, none⟩) c.bal.length k')
 have p4 := blk_far p3 (p := ⟨w.heap.size, 0, none⟩) (by show w1.heap.size ≠ w.heap.size; omega) (.slice (some ⟨bb, 0, none⟩) c.bal.length k')
 have hx4 : Ext (fun i => i = w.heap.size) w3 (w3.setCell ⟨w.heap.size, 0, none⟩ (.slice (some ⟨bb, 0, none⟩) c.bal.length k')) := (Ext.refl _ _).set1
 have hs4 : (w3.setCell ⟨w.heap.size, 0, none⟩ (.slice (some ⟨bb, 0, none⟩) c.bal.length k')).heap.size = w3.heap.size := by simp [World.setCell]
 have hbal4 : Ints (fun b => b = bb) .u64 (w3.setCell ⟨w.heap.size, 0, none⟩ (.slice (some ⟨bb, 0, none⟩) c.bal.length k')) (some ⟨bb, 0, none⟩) c.bal :=
  Lie.mono hbal (fun _ _ _ x => x) (fun _ x => x) (fun b e hlt => hx4.block b hlt (fun e2 => hne (by rw [← e]; exact e2)))
 have hbw4 : Below w.heap.size w (w3.setCell ⟨w.heap.size, 0, none⟩ (.slice (some ⟨bb, 0, none⟩) c.bal.length k')) := hbw3.trans (hx4.below hbw3.size (fun i hi e => by omega))
 generalize w3.setCell _ _ = W0 at q4 p4 hbal4 hbw4 hs4 ⊢
 have hsB : bb < W0.heap.size ∧ w.heap.size < bb := by omega
 generalize hCB : w.heap.size = cb at q4 hbw4 hsB ⊢
 generalize hPB : w1.heap.size = pb at p4 ⊢
 have HCB := Lib.hid hCB
 clear c3 hown hg3 hb3 q3 p3 f3 hfl hbal hbw3 hne hx4 hs4 hCB hPB q1 p1 hbw2 hB2 c0 f0 hsz1 hsz2 hb hbb hbl
 simp only [List.setIfInBounds_toArray, List.set_cons_zero] at q4
 have hD : Below W0.heap.size W0 W0.drew := (Below.refl _ _).drew
 refine beginRI 14 (ofF cb c bb k' W0.heap.size) (ofG c W0.heap.size W0) (by rfl) (by decide) (by kernel_rfl) (by kernel_rfl) ?_ ?_ ?_
 ·exact ⟨hD, fun h => (by simp [Array.getD] at h), fun h => (by simp [Array.getD] at h), fun h => (by simp [Array.getD] at h), fun h => (by simp [Array.getD] at h)⟩
 ·refine all_lt_succ (all_lt_succ (all_lt_succ (all_lt_succ (all_lt_succ (all_lt_succ (all_lt_succ (all_lt_succ (all_lt_succ (all_lt_succ (all_lt_succ (all_lt_succ (all_lt_succ (all_lt_succ ((fun i hi => absurd hi (Nat.not_lt_zero i))) ?_) ?_) ?_) ?_) ?_) ?_) ?_) ?_) ?_) ?_) ?_) ?_) ?_) ?_
  ·refine stepI rfl ?_
   intro l a w K hI hs hl hd hK
   obtain ⟨⟨ts⟩, ds⟩ := a
   obtain rfl : ds = [] := hI.df
   obtain ⟨v0, v1, v2, v3, v4, v5, v6, v7, v8, v9, v10, v11, v12, v13, v14, v15, v16, v17, v18, v19, v20, v21, v22, v23, v24, v25, v26, v27, v28, rfl⟩ := list29 (l := ts) (by have := hI.sz; simpa using this)
   obtain rfl : v1 = .pointer (some ⟨cb, 0, none⟩) := hI.old 1 (by kernel_rfl)
   obtain rfl : v4 = .pointer (some ⟨pb, 0, none⟩) := hI.old 4 (by kernel_rfl)
   have hbw := hI.glob.1
   have hBs : W0.heap.size ≤ w.heap.size := hbw.size
   obtain ⟨c0, c1, c2⟩ := cs3 (blk_below q4 hbw)
   obtain ⟨p0, p1⟩ := cs2 (blk_below p4 hbw)
   go_simp
   refine hK.out _ _ ?_
   exact RI.put (i := 0) (d := 14) hI (by decide) rfl rfl (by simp) (by kernel_rfl) (by first | exact rfl | trivial) (ofF_below (Below.refl _ _)) (ofG_step hI.glob (Below.refl _ _) (by decide) (by decide) hBs)
  ·refine stepI rfl ?_
   intro l a w K hI hs hl hd hK
   obtain ⟨⟨ts⟩, ds⟩ := a
   obtain rfl : ds = [] := hI.df
   obtain ⟨v0, v1, v2, v3, v4, v5, v6, v7, v8, v9, v10, v11, v12, v13, v14, v15, v16, v17, v18, v19, v20, v21, v22, v23, v24, v25, v26, v27, v28, rfl⟩ := list29 (l := ts) (by have := hI.sz; simpa using this)
   obtain rfl : v1 = .pointer (some ⟨cb, 0, none⟩) := hI.old 1 (by kernel_rfl)
   obtain rfl : v4 = .pointer (some ⟨pb, 0, none⟩) := hI.old 4 (by kernel_rfl)
   have hbw := hI.glob.1
   have hBs : W0.heap.size ≤ w.heap.size := hbw.size
   obtain ⟨c0, c1, c2⟩ := cs3 (blk_below q4 hbw)
   obtain ⟨p0, p1⟩ := cs2 (blk_below p4 hbw)
   go_simp
   refine (TreeOf_calls _ 1 0).mono ?_
   rintro e w2 ⟨rfl, hT, hb2⟩
   refine hK.out _ _ ?_
   exact RI.put (i := 1) (d := 15) hI (by decide) rfl rfl (by simp) (by kernel_rfl) ⟨_, _, rfl, hT, Nat.le_succ_of_le hBs, hBs⟩ (ofF_below hb2) (ofG_step hI.glob hb2 (by decide) (by decide) hBs)
  ·refine stepI rfl ?_
   intro l a w K hI hs hl hd hK
   obtain ⟨⟨ts⟩, ds⟩ := a
   obtain rfl : ds = [] := hI.df
   obtain ⟨v0, v1, v2, v3, v4, v5, v6, v7, v8, v9, v10, v11, v12, v13, v14, v15, v16, v17, v18, v19, v20, v21, v22, v23, v24, v25, v26, v27, v28, rfl⟩ := list29 (l := ts) (by have := hI.sz; simpa using this)
   obtain rfl : v1 = .pointer (some ⟨cb, 0, none⟩) := hI.old 1 (by kernel_rfl)
   obtain rfl : v4 = .pointer (some ⟨pb, 0, none⟩) := hI.old 4 (by kernel_rfl)
   have hbw := hI.glob.1
   have hBs : W0.heap.size ≤ w.heap.size := hbw.size
   obtain ⟨c0, c1, c2⟩ := cs3 (blk_below q4 hbw)
   obtain ⟨p0, p1⟩ := cs2 (blk_below p4 hbw)
   go_simp
   refine hK.out _ _ ?_
   exact RI.put (i := 2) (d := 16) hI (by decide) rfl rfl (by simp) (by kernel_rfl) (by first | exact rfl | trivial) (ofF_below (Below.refl _ _)) (ofG_step hI.glob (Below.refl _ _) (by decide) (by decide) hBs)
  ·refine stepI rfl ?_
   intro l a w K hI hs hl hd hK
   obtain ⟨⟨ts⟩, ds⟩ := a
   obtain rfl : ds = [] := hI.df
   obtain ⟨v0, v1, v2, v3, v4, v5, v6, v7, v8, v9, v10, v11, v12, v13, v14, v15, v16, v17, v18, v19, v20, v21, v22, v23, v24, v25, v26, v27, v28, rfl⟩ := list29 (l := ts) (by have := hI.sz; simpa using this)
   obtain rfl : v1 = .pointer (some ⟨cb, 0, none⟩) := hI.old 1 (by kernel_rfl)
   obtain rfl : v4 = .pointer (some ⟨pb, 0, none⟩) := hI.old 4 (by kernel_rfl)
   have hbw := hI.glob.1
   have hBs : W0.heap.size ≤ w.heap.size := hbw.size
   obtain ⟨c0, c1, c2⟩ := cs3 (blk_below q4 hbw)
   obtain ⟨p0, p1⟩ := cs2 (blk_below p4 hbw)
   have d2 : l.getD 2 false = true := hd _ rfl ⟨2, .data⟩ (by simp) rfl
   obtain rfl := hI.fct 2 _ _ (by decide) rfl rfl d2
   go_simp
   refine hK.out _ _ ?_
   exact RI.put (i := 3) (d := 17) hI (by decide) rfl rfl (by simp) (by kernel_rfl) (by first | exact rfl | trivial) (ofF_below (Below.refl _ _)) (ofG_step hI.glob (Below.refl _ _) (by decide) (by decide) hBs)
  ·refine stepI rfl ?_
   intro l a w K hI hs hl hd hK
   obtain ⟨⟨ts⟩, ds⟩ := a
   obtain rfl : ds = [] := hI.df
   obtain ⟨v0, v1, v2, v3, v4, v5, v6, v7, v8, v9, v10, v11, v12, v13, v14, v15, v16, v17, v18, v19, v20, v21, v22, v23, v24, v25, v26, v27, v28, rfl⟩ := list29 (l := ts) (by have := hI.sz; simpa using this)
   obtain rfl : v1 = .pointer (some ⟨cb, 0, none⟩) := hI.old 1 (by kernel_rfl)
   obtain rfl : v4 = .pointer (some ⟨pb, 0, none⟩) := hI.old 4 (by kernel_rfl)
   have hbw := hI.glob.1
   have hBs : W0.heap.size ≤ w.heap.size := hbw.size
   obtain ⟨c0, c1, c2⟩ := cs3 (blk_below q4 hbw)
   obtain ⟨p0, p1⟩ := cs2 (blk_below p4 hbw)
   have d3 : l.getD 3 false = true := hd _ rfl ⟨3, .data⟩ (by simp) rfl
   obtain rfl := hI.fct 3 _ _ (by decide) rfl rfl d3
   go_simp
   refine hK.out _ _ ?_
   exact RI.put (i := 4) (d := 18) hI (by decide) rfl rfl (by simp) (by kernel_rfl) (by first | exact rfl | trivial) (ofF_below (Below.refl _ _)) (ofG_step hI.glob (Below.refl _ _) (by decide) (by decide) hBs)
  ·refine stepI rfl ?_
   intro l a w K hI hs hl hd hK
   obtain ⟨⟨ts⟩, ds⟩ := a
   obtain rfl : ds = [] := hI.df
   obtain ⟨v0, v1, v2, v3, v4, v5, v6, v7, v8, v9, v10, v11, v12, v13, v14, v15, v16, v17, v18, v19, v20, v21, v22, v23, v24, v25, v26, v27, v28, rfl⟩ := list29 (l := ts) (by have := hI.sz; simpa using this)
   obtain rfl : v1 = .pointer (some ⟨cb, 0, none⟩) := hI.old 1 (by kernel_rfl)
   obtain rfl : v4 = .pointer (some ⟨pb, 0, none⟩) := hI.old 4 (by kernel_rfl)
   have hbw := hI.glob.1
   have hBs : W0.heap.size ≤ w.heap.size := hbw.size
   obtain ⟨c0, c1, c2⟩ := cs3 (blk_below q4 hbw)
   obtain ⟨p0, p1⟩ := cs2 (blk_below p4 hbw)
   have d4 : l.getD 4 false = true := hd _ rfl ⟨4, .data⟩ (by simp) rfl
   obtain rfl := hI.fct 4 _ _ (by decide) rfl rfl d4
   go_simp
   refine (VOf_calls _ c.bal.length hl1 hl2).mono ?_
   rintro e w2 ⟨rfl, hV, hb2⟩
   refine hK.out _ _ ?_
   exact RI.put (i := 5) (d := 19) hI (by decide) rfl rfl (by simp) (by kernel_rfl) ⟨_, rfl, hV, hBs⟩ (ofF_below hb2) (ofG_step hI.glob hb2 (by decide) (by decide) hBs)
  ·refine stepI rfl ?_
   intro l a w K hI hs hl hd hK
   obtain ⟨⟨ts⟩, ds⟩ := a
   obtain rfl : ds = [] := hI.df
   obtain ⟨v0, v1, v2, v3, v4, v5, v6, v7, v8, v9, v10, v11, v12, v13, v14, v15, v16, v17, v18, v19, v20, v21, v22, v23, v24, v25, v26, v27, v28, rfl⟩ := list29 (l := ts) (by have := hI.sz; simpa using this)
   obtain rfl : v1 = .pointer (some ⟨cb, 0, none⟩) := hI.old 1 (by kernel_rfl)
   obtain rfl : v4 = .pointer (some ⟨pb, 0, none⟩) := hI.old 4 (by kernel_rfl)
   have hbw := hI.glob.1
   have hBs : W0.heap.size ≤ w.heap.size := hbw.size
   obtain ⟨c0, c1, c2⟩ := cs3 (blk_below q4 hbw)
   obtain ⟨p0, p1⟩ := cs2 (blk_below p4 hbw)
   go_simp
   refine hK.out _ _ ?_
   exact RI.put (i := 6) (d := 20) hI (by decide) rfl rfl (by simp) (by kernel_rfl) (by first | exact rfl | trivial) (ofF_below (Below.refl _ _)) (ofG_step hI.glob (Below.refl _ _) (by decide) (by decide) hBs)
  ·refine stepI rfl ?_
   intro l a w K hI hs hl hd hK
   obtain ⟨⟨ts⟩, ds⟩ := a
   obtain rfl : ds = [] := hI.df
   obtain ⟨v0, v1, v2, v3, v4, v5, v6, v7, v8, v9, v10, v11, v12, v13, v14, v15, v16, v17, v18, v19, v20, v21, v22, v23, v24, v25, v26, v27, v28, rfl⟩ := list29 (l := ts) (by have := hI.sz; simpa using this)
   obtain rfl : v1 = .pointer (some ⟨cb, 0, none⟩) := hI.old 1 (by kernel_rfl)
   obtain rfl : v4 = .pointer (some ⟨pb, 0, none⟩) := hI.old 4 (by kernel_rfl)
   have hbw := hI.glob.1
   have hBs : W0.heap.size ≤ w.heap.size := hbw.size
   obtain ⟨c0, c1, c2⟩ := cs3 (blk_below q4 hbw)
   obtain ⟨p0, p1⟩ := cs2 (blk_below p4 hbw)
   go_simp
   refine hK.out _ _ ?_
   exact RI.put (i := 7) (d := 21) hI (by decide) rfl rfl (by simp) (by kernel_rfl) (by first | exact rfl | trivial) (ofF_below (Below.refl _ _)) (ofG_step hI.glob (Below.refl _ _) (by decide) (by decide) hBs)
  ·refine stepI rfl ?_
   intro l a w K hI hs hl hd hK
   obtain ⟨⟨ts⟩, ds⟩ := a
   obtain rfl : ds = [] := hI.df
   obtain ⟨v0, v1, v2, v3, v4, v5, v6, v7, v8, v9, v10, v11, v12, v13, v14, v15, v16, v17, v18, v19, v20, v21, v22, v23, v24, v25, v26, v27, v28, rfl⟩ := list29 (l := ts) (by have := hI.sz; simpa using this)
   obtain rfl : v1 = .pointer (some ⟨cb, 0, none⟩) := hI.old 1 (by kernel_rfl)
   obtain rfl : v4 = .pointer (some ⟨pb, 0, none⟩) := hI.old 4 (by kernel_rfl)
   have hbw := hI.glob.1
   have hBs : W0.heap.size ≤ w.heap.size := hbw.size
   obtain ⟨c0, c1, c2⟩ := cs3 (blk_below q4 hbw)
   obtain ⟨p0, p1⟩ := cs2 (blk_below p4 hbw)
   have hmm := @run_makeMap Tryz.prog
   go_simp
   have hb2 : Below w.heap.size w (w.alloc (.map #[] 0)) := below_alloc (Below.refl _ _) _
   refine hK.out _ _ ?_
   exact RI.put (i := 8) (d := 22) hI (by decide) rfl rfl (by simp) (by kernel_rfl) ⟨_, rfl, hBs, by simp⟩ (ofF_below hb2) (ofG_make8 hI.glob hl hBs (by simp) (fun e => hI.fct 13 _ _ (by decide) rfl rfl e))
  ·refine stepI rfl ?_
   intro l a w K hI hs hl hd hK
   obtain ⟨⟨ts⟩, ds⟩ := a
   obtain rfl : ds = [] := hI.df
   obtain ⟨v0, v1, v2, v3, v4, v5, v6, v7, v8, v9, v10, v11, v12, v13, v14, v15, v16, v17, v18, v19, v20, v21, v22, v23, v24, v25, v26, v27, v28, rfl⟩ := list29 (l := ts) (by have := hI.sz; simpa using this)
   obtain rfl : v1 = .pointer (some ⟨cb, 0, none⟩) := hI.old 1 (by kernel_rfl)
   obtain rfl : v4 = .pointer (some ⟨pb, 0, none⟩) := hI.old 4 (by kernel_rfl)
   have hbw := hI.glob.1
   have hBs : W0.heap.size ≤ w.heap.size := hbw.size
   obtain ⟨c0, c1, c2⟩ := cs3 (blk_below q4 hbw)
   obtain ⟨p0, p1⟩ := cs2 (blk_below p4 hbw)
   go_simp
   refine hK.out _ _ ?_
   exact RI.put (i := 9) (d := 23) hI (by decide) rfl rfl (by simp) (by kernel_rfl) (by first | exact rfl | trivial) (ofF_below (Below.refl _ _)) (ofG_step hI.glob (Below.refl _ _) (by decide) (by decide) hBs)
  ·refine stepI rfl ?_
   intro l a w K hI hs hl hd hK
   obtain ⟨⟨ts⟩, ds⟩ := a
   obtain rfl : ds = [] := hI.df
   obtain ⟨v0, v1, v2, v3, v4, v5, v6, v7, v8, v9, v10, v11, v12, v13, v14, v15, v16, v17, v18, v19, v20, v21, v22, v23, v24, v25, v26, v27, v28, rfl⟩ := list29 (l := ts) (by have := hI.sz; simpa using this)
   obtain rfl : v1 = .pointer (some ⟨cb, 0, none⟩) := hI.old 1 (by kernel_rfl)
   obtain rfl : v4 = .pointer (some ⟨pb, 0, none⟩) := hI.old 4 (by kernel_rfl)
   have hbw := hI.glob.1
   have hBs : W0.heap.size ≤ w.heap.size := hbw.size
   obtain ⟨c0, c1, c2⟩ := cs3 (blk_below q4 hbw)
   obtain ⟨p0, p1⟩ := cs2 (blk_below p4 hbw)
   have d9 : l.getD 9 false = true := hd _ rfl ⟨9, .data⟩ (by simp) rfl
   obtain rfl := hI.fct 9 _ _ (by decide) rfl rfl d9
   go_simp
   refine (Open_calls _ c _ _ 1 hok).mono ?_
   rintro e w2 ⟨A1, k1, A2, k2, rfl, hR, hb2⟩
   refine hK.out _ _ ?_
   exact RI.put (i := 10) (d := 24) hI (by decide) rfl rfl (by simp) (by kernel_rfl) ⟨_, _, _, _, rfl, hR⟩ (ofF_below hb2) (ofG_step hI.glob hb2 (by decide) (by decide) hBs)
  ·refine stepI rfl ?_
   intro l a w K hI hs hl hd hK
   obtain ⟨⟨ts⟩, ds⟩ := a
   obtain rfl : ds = [] := hI.df
   obtain ⟨v0, v1, v2, v3, v4, v5, v6, v7, v8, v9, v10, v11, v12, v13, v14, v15, v16, v17, v18, v19, v20, v21, v22, v23, v24, v25, v26, v27, v28, rfl⟩ := list29 (l := ts) (by have := hI.sz; simpa using this)
   obtain rfl : v1 = .pointer (some ⟨cb, 0, none⟩) := hI.old 1 (by kernel_rfl)
   obtain rfl : v4 = .pointer (some ⟨pb, 0, none⟩) := hI.old 4 (by kernel_rfl)
   have hbw := hI.glob.1
   have hBs : W0.heap.size ≤ w.heap.size := hbw.size
   obtain ⟨c0, c1, c2⟩ := cs3 (blk_below q4 hbw)
   obtain ⟨p0, p1⟩ := cs2 (blk_below p4 hbw)
   have d8 : l.getD 8 false = true := hd _ rfl ⟨8, .data⟩ (by simp) rfl
   obtain ⟨mb, rfl, hmB, hml⟩ := hI.fct 8 _ _ (by decide) rfl rfl d8
   have d10 : l.getD 10 false = true := hd _ rfl ⟨10, .data⟩ (by simp) rfl
   obtain hLs := hI.fct 10 _ _ (by decide) rfl rfl d10
   obtain ⟨mb', e22, hM, _⟩ := hI.glob.2.1 d8 hl
   injection (show Value.map (some mb) = Value.map (some mb') from e22) with e22
   injection e22 with e22
   subst e22
   obtain ⟨w2, hrun, hm2, hx2, hs2⟩ := run_put hM Tryz.underlying39 Tryz.underlying23 1 v24
   go_simp
   refine hK.out _ _ ?_
   have h11 : 11 < l.size := by rw [hs]; decide
   refine RI.skip (i := 11) (v := undef) hI rfl rfl (fun j oj dj hj ho hdj hlj hF => ?_) ?_
   ·refine ofF_put hM hx2 j _ (fun e => ?_) hF
    subst e
    cases ho
    cases hdj
    exact fun e2 => hI.glob.2.2.2.1 d8 hlj e2.symm
   ·refine ⟨hbw.trans (hx2.below hBs (fun i hi e => by omega)), fun _ e => ?_, fun _ => ⟨mb, rfl, ⟨_, hm2, ⟨rfl, ?_⟩⟩, hmB⟩, fun a b => ?_, fun _ => ?_⟩
    ·rw [setAtT h11] at e
     cases e
    ·exact ⟨hLs.keep (keep_map hM hx2), trivial⟩
    ·rw [getD_set_ne false (by decide)] at a b
     exact hI.glob.2.2.2.1 a b
    ·rw [getD_set_ne false (by decide)]
     exact d8
  ·refine stepI rfl ?_
   intro l a w K hI hs hl hd hK
   obtain ⟨⟨ts⟩, ds⟩ := a
   obtain rfl : ds = [] := hI.df
   obtain ⟨v0, v1, v2, v3, v4, v5, v6, v7, v8, v9, v10, v11, v12, v13, v14, v15, v16, v17, v18, v19, v20, v21, v22, v23, v24, v25, v26, v27, v28, rfl⟩ := list29 (l := ts) (by have := hI.sz; simpa using this)
   obtain rfl : v1 = .pointer (some ⟨cb, 0, none⟩) := hI.old 1 (by kernel_rfl)
   obtain rfl : v4 = .pointer (some ⟨pb, 0, none⟩) := hI.old 4 (by kernel_rfl)
   have hbw := hI.glob.1
   have hBs : W0.heap.size ≤ w.heap.size := hbw.size
   obtain ⟨c0, c1, c2⟩ := cs3 (blk_below q4 hbw)
   obtain ⟨p0, p1⟩ := cs2 (blk_below p4 hbw)
   have d11 : l.getD 11 false = true := hd _ rfl ⟨11, .data⟩ (by simp) rfl
   obtain ⟨mb, e22, hLe, hmB⟩ := hI.glob.2.2.1 d11
   obtain rfl : v22 = .map (some mb) := e22
   go_simp
   refine hK.out _ _ ?_
   exact RI.put (i := 12) (d := 25) hI (by decide) rfl rfl (by simp) (by kernel_rfl) ⟨mb, rfl, hLe, hmB⟩ (ofF_below (Below.refl _ _)) (ofG_step hI.glob (Below.refl _ _) (by decide) (by decide) hBs)
  ·refine stepI rfl ?_
   intro l a w K hI hs hl hd hK
   obtain ⟨⟨ts⟩, ds⟩ := a
   obtain rfl : ds = [] := hI.df
   obtain ⟨v0, v1, v2, v3, v4, v5, v6, v7, v8, v9, v10, v11, v12, v13, v14, v15, v16, v17, v18, v19, v20, v21, v22, v23, v24, v25, v26, v27, v28, rfl⟩ := list29 (l := ts) (by have := hI.sz; simpa using this)
   obtain rfl : v1 = .pointer (some ⟨cb, 0, none⟩) := hI.old 1 (by kernel_rfl)
   obtain rfl : v4 = .pointer (some ⟨pb, 0, none⟩) := hI.old 4 (by kernel_rfl)
   have hbw := hI.glob.1
   have hBs : W0.heap.size ≤ w.heap.size := hbw.size
   obtain ⟨c0, c1, c2⟩ := cs3 (blk_below q4 hbw)
   obtain ⟨p0, p1⟩ := cs2 (blk_below p4 hbw)
   have hmm := @run_makeMap Tryz.prog
   go_simp
   have hb2 : Below w.heap.size w (w.alloc (.map #[] 0)) := below_alloc (Below.refl _ _) _
   refine hK.out _ _ ?_
   exact RI.put (i := 13) (d := 26) hI (by decide) rfl rfl (by simp) (by kernel_rfl) ⟨_, rfl, MapAt.new w, hBs⟩ (ofF_below hb2) (ofG_make13 hI.glob hBs (by simp) (fun e => hI.fct 8 _ _ (by decide) rfl rfl e))
 ·intro l a w1 hI hall hls hun
  obtain rfl := lits (by decide) hls hall hun
  obtain ⟨⟨ts⟩, ds⟩ := a
  obtain rfl : ds = [] := hI.df
  obtain ⟨v0, v1, v2, v3, v4, v5, v6, v7, v8, v9, v10, v11, v12, v13, v14, v15, v16, v17, v18, v19, v20, v21, v22, v23, v24, v25, v26, v27, v28, rfl⟩ := list29 (l := ts) (by have := hI.sz; simpa using this)
  obtain rfl : v14 = _ := hI.fct 0 _ _ (by decide) rfl rfl rfl
  obtain ⟨tb, nb, e15, hT, hB1, hB2⟩ := hI.fct 1 _ _ (by decide) rfl rfl rfl
  obtain rfl : v15 = _ := e15
  obtain ⟨vb, e19, hV, hB3⟩ := hI.fct 5 _ _ (by decide) rfl rfl rfl
  obtain rfl : v19 = _ := e19
  obtain rfl : v20 = _ := hI.fct 6 _ _ (by decide) rfl rfl rfl
  obtain rfl : v21 = _ := hI.fct 7 _ _ (by decide) rfl rfl rfl
  obtain ⟨mb, e25, hL, hB4⟩ := hI.fct 12 _ _ (by decide) rfl rfl rfl
  obtain rfl : v25 = _ := e25
  obtain ⟨gb, e26, hG, hB5⟩ := hI.fct 13 _ _ (by decide) rfl rfl rfl
  obtain rfl : v26 = _ := e26
  have hbw := hI.glob.1
  clear hI hall hls hun
  refine one_ready (i := 14) (by kernel_rfl) rfl (fun K hK => ?_)
  go_simp
  refine hK.out _ _ ?_
  simp only [Act.put, List.setIfInBounds_toArray, List.set_cons_zero, List.set_cons_succ]
  refine one_ready (i := 15) (by kernel_rfl) rfl (fun K hK => ?_)
  go_simp
  refine hK.out _ _ ?_
  simp only [Act.put, List.setIfInBounds_toArray, List.set_cons_zero, List.set_cons_succ]
  refine one_ready (i := 16) (by kernel_rfl) rfl (fun K hK => ?_)
  go_simp
  refine hK.out _ _ ?_
  simp only [Act.put, List.setIfInBounds_toArray, List.set_cons_zero, List.set_cons_succ]
  refine one_ready (i := 17) (by kernel_rfl) rfl (fun K hK => ?_)
  go_simp
  refine hK.out _ _ ?_
  simp only [Act.put, List.setIfInBounds_toArray, List.set_cons_zero, List.set_cons_succ]
  refine none_ready (by kernel_rfl) ?_
  go_wp2
  go_ret2
  exact of_final HCB.out hsB hbw4 hbal4 hbw hT hV hL hG hB1 hB2 hB3 hB4 hB5
end Go.Proofs.YtnppimhlfcjghaaGreat
