import Derived.Test.YtnppimhlfcjghaaGreatPSorted
import Derived.Test.YtnppimhlfcjghaaGreatPApp
import Derived.Test.YtnppimhlfcjghaaGreatPOpsK
set_option linter.all false
set_option linter.unusedVariables false
set_option linter.unusedSimpArgs false
namespace Go.Proofs.YtnppimhlfcjghaaGreat
open Go.RowKit
set_option maxRecDepth 100000
set_option maxHeartbeats 4000000
def stayN (t : Tr) (root r : Int) : Nd := { t.nd r with height := (t.nd r).height - (t.nd root).height }
def stayL (t : Tr) (root : Int) (l : List Int) : List (Int × Nd) := (l.filter fun r => t.below r root).map fun r => (r, stayN t root r)
def goneL (t : Tr) (root : Int) (l : List Int) : List Int := l.filter fun r => !t.below r root
theorem stayL_snoc (t : Tr) (root : Int) (l : List Int) (j : Nat) (h : j < l.length) : stayL t root (l.take (j + 1)) = if t.below (l.getD j 0) root then stayL t root (l.take j) ++ [(l.getD j 0, stayN t root (l.getD j 0))] else stayL t root (l.take j) := by
 rw [List.getD_eq_getElem?_getD, List.getElem?_eq_getElem h, Option.getD_some, List.take_succ_eq_append_getElem h]
 unfold stayL
 rw [List.filter_append, List.map_append]
 cases hb : t.below l[j] root <;> simp [hb]
theorem goneL_snoc (t : Tr) (root : Int) (l : List Int) (j : Nat) (h : j < l.length) : goneL t root (l.take (j + 1)) = if t.below (l.getD j 0) root then goneL t root (l.take j) else goneL t root (l.take j) ++ [l.getD j 0] := by
 rw [List.getD_eq_getElem?_getD, List.getElem?_eq_getElem h, Option.getD_some, List.take_succ_eq_append_getElem h]
 unfold goneL
 rw [List.filter_append]
 cases hb : t.below l[j] root <;> simp [hb]
theorem stayL_new (t : Tr) (root : Int) (l : List Int) (hn : l.Nodup) (j : Nat) (h : j < l.length) : l.getD j 0 ∉ keys (stayL t root (l.take j)) := by
 rw [List.getD_eq_getElem?_getD, List.getElem?_eq_getElem h, Option.getD_some]
 intro hm
 simp only [keys, stayL, List.map_map, List.mem_map, List.mem_filter, Function.comp_def] at hm
 obtain ⟨x, ⟨hx, _⟩, e⟩ := hm
 rw [List.mem_take_iff_getElem] at hx
 obtain ⟨i, hi, e2⟩ := hx
 have hij : i < j := by omega
 have := (List.nodup_iff_pairwise_ne.1 hn)
 rw [List.pairwise_iff_getElem] at this
 exact this i j (by omega) h hij (e2.trans e)
theorem goneL_le (t : Tr) (root : Int) (l : List Int) (j : Nat) : (goneL t root (l.take j)).length ≤ j := by
 have : (goneL t root (l.take j)).length ≤ (l.take j).length := List.length_filter_le _ _
 rw [List.length_take] at this
 omega
theorem roots_nodup {t : Tr} (hok : t.ok) : t.roots.Nodup := (List.mergeSort_perm _ _).nodup_iff.2 hok.nodup
theorem look_nd {w : World} {b : Nat} {l : List (Int × Nd)} (h : MapAt w b (ndKV l)) (k : Int) : (Instr.lookup 118 (.map (some b)) (.int .u64 k) false).run Tryz.prog w = .ok (ndC ((lk l k).getD Nd.zero)) w := by
 rw [run_look h Tryz.underlying118 Tryz.underlying23 (zNd w) k false]
 have := (nd_look ⟨0, l⟩ k).1
 simp only [Bool.false_eq_true, if_false]
 rw [this]
 rfl
theorem zNd' (W : World) : (zeroValue 125).run Tryz.prog W = .ok (.agg #[.int .u64 0, .int .i64 0, .int .i64 0]) W := zNd W
theorem own_map {w w' : World} {base n : Nat} {e : TypeId} {size : Nat} {v : Value} {xs : List Value} {mb : Nat} {kvs : List (Int × Value)} (h : w.ownsRow base e size v n xs) (hm : MapAt w mb kvs) (hx : Ext (fun i => i = mb) w w') : w'.ownsRow base e size v n xs :=
 own_ext h hx (fun b hb e => by
  have e' : b = mb := e
  subst e'
  obtain ⟨ds, hd, _⟩ := own_kind h hb
  obtain ⟨es, clk, a, _⟩ := hm
  rw [hd] at a
  cases a)
theorem fld2 (W : World) (d : Nd) : (Instr.field 125 (ndC d) 2).run Tryz.prog W = .ok (.int .i64 d.height) W := by kernel_rfl
theorem Cut_calls {w : World} {tb nb : Nat} {t : Tr} (h : TreeAt w tb nb t) (hok : t.ok) (r : Int) (hr : t.has r = true) : Calls Tryz.prog 80 #[.pointer (some ⟨tb, 0, none⟩), .int .u64 r] w fun e w' =>
    ∃ A c nb', e = .returned (.slice A (t.gone r).length c) ∧ Ints (fun b => w.heap.size ≤ b) .u64 w' A (t.gone r) ∧ TreeAt w' tb nb' (t.cut r) ∧ w.heap.size ≤ nb' ∧ Ext (fun i => i = tb) w w' := by
 have cH := Has_calls h r
 rw [hr] at cH
 have hmm := @run_makeMap Tryz.prog
 have hfl := fld2
 have hlen := hok.len
 obtain ⟨B, HB, hB1, hB2⟩ := size_hid w
 go_enter Tryz.func80, Tryz.ntmps80
 go_upto_region 3 with (go_at_call 48; refine cH.mono ?_; rintro e w1 ⟨rfl, hb1⟩)
 have h1 := h.below hb1
 have hc1 := blk_cell h1.blk 1
 have hl1 := h1.look1 r
 have hM0 := MapAt.new w1
 have hb2 : Below w1.heap.size w1 (w1.alloc (.map #[] 0)) := below_alloc (Below.refl _ _) _
 have cR := Roots_calls (h1.below hb2) (by omega)
 have h2 := h1.below hb2
 have hnb1 : nb < w.heap.size ∧ tb < w.heap.size := ⟨h.map.lt, blk_lt h.blk⟩
 have hw1 : w.heap.size ≤ w1.heap.size := hb1.size
 have hsz2 : (w1.alloc (.map #[] 0)).heap.size = w1.heap.size + 1 := by simp
 have hbw2 : Below w.heap.size w (w1.alloc (.map #[] 0)) := hb1.trans (hb2.mono hb1.size)
 generalize hmb : w1.heap.size = mb at hM0 hsz2 hb2 hw1 ⊢
 obtain ⟨wm, hwm⟩ : ∃ wm, wm = w1.alloc (.map #[] 0) := ⟨_, rfl⟩
 rw [← hwm] at hM0 cR h2 hsz2 hbw2 hb2
 have HMB := Lib.hid hmb
 have HWM := Lib.hid hwm
 clear hmb hwm
 go_wp2_with (go_at_call 41; rw [← HWM.out]; refine cR.mono ?_; rintro e w2 ⟨AR, cR', rfl, hIR, hb3⟩)
 have h3 := h2.below hb3
 have hM3 := hM0.below hb3
 have HI : Hid (Ints (fun b => wm.heap.size ≤ b) .u64 w2 AR t.roots) := hIR
 have hbw3 : Below w.heap.size w w2 := hbw2.trans (hb3.mono hbw2.size)
 have HBW := Lib.hid hbw3
 have hs3 := hb3.size
 have hRl : t.roots.length ≤ 1024 := by simp only [Tr.roots, sortI, List.length_mergeSort, keys, List.length_map]; exact hlen
 have HRn := Lib.hid (roots_nodup hok)
 have HSt : Hid (t.gone r = goneL t r t.roots) := rfl
 have HSy : Hid (t.stay r = stayL t r t.roots) := rfl
 generalize t.roots = R at HI hRl HRn HSt HSy ⊢
 clear hIR hb3 hbw3 cR hM0 h2 hc1 hl1 hb1 hb2 cH hlen
 rw [HMB.out]
 go_loopw [6, 27] (fun o i wr => ∃ (j : Nat) (A : Option Addr) (c : Nat), j ≤ R.length ∧ i = .int .i64 j ∧ o = .slice A (goneL t r (R.take j)).length c ∧ Hid (wr.ownsRow w2.heap.size 23 1 (.slice A (goneL t r (R.take j)).length c) (goneL t r (R.take j)).length ((goneL t r (R.take j)).map uV)) ∧ Hid (MapAt wr mb (ndKV (stayL t r (R.take j)))) ∧ Hid (Ext (fun i => i = mb) w2 wr)) (fun _ i _ => R.length - (intOf i).toNat)
 case atStart => exact ⟨0, none, 0, Nat.zero_le _, rfl, rfl, own_nil _ _ _ _, hM3, Ext.refl _ _⟩
 case round =>
  obtain ⟨j, A, c, hj, rfl, rfl, HO, HM, HX⟩ := hrel
  have hT : TreeAt wr tb nb t := h3.ext HX.out (fun e => by have e' : tb = mb := e; omega) (fun e => by have e' : nb = mb := e; omega)
  have hwr : w2.heap.size ≤ wr.heap.size := HX.out.size
  by_cases hlt : j < R.length
  ·obtain ⟨b, o, rfl, hbk, hc⟩ := (Ints.keep (F := fun i => i = mb) HI.out HX.out (fun i hi e => by have e' : i = mb := e; omega)).get hlt
   have HT1 := Lib.hid (stayL_snoc t r R j hlt)
   have HT2 := Lib.hid (goneL_snoc t r R j hlt)
   have HNw := Lib.hid (stayL_new t r R HRn.out j hlt)
   have hgl := goneL_le t r R j
   generalize stayL t r (R.take j) = sj at HM HT1 HNw
   generalize goneL t r (R.take j) = gj at HO HT2 hgl ⊢
   generalize R.getD j 0 = x at hc HT1 HT2 HNw
   have hcT := blk_cell hT.blk 1
   have hlk := hT.look1 x
   have hrx := Tr.nd_rng hok x
   have hrr := Tr.nd_rng hok r
   have hwh : IntKind.i64.wrap ((t.nd x).height - (t.nd r).height) = (t.nd x).height - (t.nd r).height := IntWalk.i64_in _ (by omega)
   have HWH := Lib.hid hwh
   have hba : Below wr.heap.size wr (wr.alloc (.cells #[.int .u64 (t.nd x).parent, .int .i64 (t.nd x).slot, .int .i64 (t.nd x).height] 125)) := below_alloc (Below.refl _ _) _
   have hq := heap_new wr (.cells #[.int .u64 (t.nd x).parent, .int .i64 (t.nd x).slot, .int .i64 (t.nd x).height] 125)
   have cB := Below_calls (hT.below hba) hok x r
   clear hrx hrr
   cases hbl : t.below x r with
   | true =>
    rw [hbl] at cB HT1 HT2
    go_upto_region 11 with (first
     | (refine wpList_box 125 10 _ (.tmp 36) [.int .u64 (t.nd x).parent, .int .i64 (t.nd x).slot, .int .i64 (t.nd x).height] rfl rfl rfl zNd' rfl rfl iNd rfl ?_)
     | (go_at_call 26; refine cB.mono ?_; rintro e w4 ⟨rfl, hb4⟩))
    have hq4 := blk_below hq hb4
    have hbw4 : Below wr.heap.size wr w4 := below_then hba (by simp) hb4
    obtain ⟨y0, y1, y2⟩ := cs3 hq4
    have z2 := blk_frozen hq4 2
    have hq5 : (w4.setCell ⟨wr.heap.size, 2, none⟩ (.int .i64 ((t.nd x).height - (t.nd r).height))).heap[wr.heap.size]? = some (.cells #[.int .u64 (t.nd x).parent, .int .i64 (t.nd x).slot, .int .i64 ((t.nd x).height - (t.nd r).height)] 125 (0, 0)) := blk_set hq4 2 (.int .i64 ((t.nd x).height - (t.nd r).height))
    have hX5 : Ext (fun i => i = wr.heap.size) w4 (w4.setCell ⟨wr.heap.size, 2, none⟩ (.int .i64 ((t.nd x).height - (t.nd r).height))) := (Ext.refl _ _).set1
    have hM4 := HM.out.below hbw4
    have hM5 : MapAt (w4.setCell ⟨wr.heap.size, 2, none⟩ (.int .i64 ((t.nd x).height - (t.nd r).height))) mb (ndKV sj) := hM4.ext hX5 (fun e => by have e' : mb = wr.heap.size := e; have := HM.out.lt; omega)
    have hO5 := own_ext (own_below HO.out hbw4) hX5 (fun b hb e => by
     have e' : b = wr.heap.size := e
     have := own_lt HO.out b hb
     omega)
    have HX5 := Lib.hid ((HX.out.thenBelow hbw4).setCell (p := ⟨wr.heap.size, 2, none⟩) (.inr hwr) (.int .i64 ((t.nd x).height - (t.nd r).height)))
    clear hX5
    go_wp2_with (first
     | (refine wpList_loadP rfl 125 (.tmp 10) rfl wr.heap.size 0 [.int .u64 (t.nd x).parent, .int .i64 (t.nd x).slot, .int .i64 ((t.nd x).height - (t.nd r).height)] _ hq5 rfl rfl _ Tryz.underlying125 rfl iNd ?_)
     | (refine wpList_put rfl (.tmp 46) (.tmp 47) (.tmp 48) 118 rfl 23 125 Tryz.underlying118 Tryz.underlying23 mb _ rfl hM5 x (ndC (stayN t r x)) rfl rfl ?_; intro w6 hm6 hx6 hs6))
    go_roundw
    case rel =>
     refine ⟨j + 1, A, c, by omega, by go_num, by rw [HT2.out]; rfl, ?_, ?_, HX5.out.trans hx6 (fun _ _ e => e)⟩
     ·show World.ownsRow _ _ _ _ _ _ _
      rw [HT2.out]
      exact own_map hO5 hM5 hx6
     ·show MapAt _ _ _
      rw [HT1.out]
      have e1 : put (ndKV sj) x (ndC (stayN t r x)) = ndKV (put sj x (stayN t r x)) := put_map ndC x (stayN t r x) sj
      rw [e1, put_new HNw.out] at hm6
      exact hm6
    case measure => simp [intOf]; omega
   | false =>
    rw [hbl] at cB HT1 HT2
    have hbnd : gj.length + 1 ≤ 1000000 := by omega
    go_upto_region 13 with (first
     | (refine wpList_box 125 10 _ (.tmp 36) [.int .u64 (t.nd x).parent, .int .i64 (t.nd x).slot, .int .i64 (t.nd x).height] rfl rfl rfl zNd' rfl rfl iNd rfl ?_)
     | (go_at_call 26; refine cB.mono ?_; rintro e w4 ⟨rfl, hb4⟩))
    have hbw4 : Below wr.heap.size wr w4 := below_then hba (by simp) hb4
    have hO4 := own_below HO.out hbw4
    have HO5 := Lib.hid (hO4.alloc (.cells #[.int .u64 x] 23))
    have hM4 := Lib.hid (HM.out.below hbw4)
    have HX4 := Lib.hid (HX.out.thenBelow hbw4)
    have hw4 : w2.heap.size ≤ w4.heap.size := Nat.le_trans hwr hbw4.size
    go_wp2_with (at_builtin; refine wpList_app w2.heap.size rfl (.tmp 49) (.tmp 51) 25 23 (.int .u64 0) 1 8 rfl Tryz.underlying25 It.infoU64 rfl (by decide) _ gj.length _ rfl HO5.out (some ⟨w4.heap.size, 0, none⟩) 1 1 [.int .u64 x] rfl rfl (Flat.one _ _ _) (by simp [Value.oneCell']) (by omega) (by omega) (by simp; omega) ?_; intro A7 c7 w7 hown hg _; have HO7 := Lib.hid hown; have HG := Lib.hid hg; clear hown hg)
    go_roundw
    case rel =>
     have hx7 : Ext (fun i => some i = (Value.slice A gj.length c).ownBlock) w4 w7 := ((Ext.refl _ w4).alloc _).grown HG.out (fun b hb => .inl hb.symm)
     refine ⟨j + 1, A7, c7, by omega, by go_num, by rw [HT2.out]; simp, ?_, ?_, (HX4.out.alloc _).grown HG.out (fun b hb => .inr (own_base hO4 b hb))⟩
     ·show World.ownsRow _ _ _ _ _ _ _
      rw [HT2.out]
      simpa using HO7.out
     ·show MapAt _ _ _
      rw [HT1.out]
      refine hM4.out.ext hx7 (fun e => ?_)
      obtain ⟨ds, hd, _⟩ := own_kind hO4 (e : some mb = _).symm
      obtain ⟨es, clk, a, _⟩ := hM4.out
      rw [hd] at a
      cases a
    case measure => simp [intOf]; omega
  ·obtain rfl : j = R.length := by omega
   rw [List.take_length] at HO HM ⊢
   rw [← HSt.out] at HO ⊢
   rw [← HSy.out] at HM
   have hlk := look_nd HM.out r
   obtain ⟨d, hd⟩ : ∃ d, d = (lk (t.stay r) r).getD Nd.zero := ⟨_, rfl⟩
   rw [← hd] at hlk
   have HD := Lib.hid hd
   have hba : Below wr.heap.size wr (wr.alloc (.cells #[.int .u64 d.parent, .int .i64 d.slot, .int .i64 d.height] 125)) := below_alloc (Below.refl _ _) _
   have hq := heap_new wr (.cells #[.int .u64 d.parent, .int .i64 d.slot, .int .i64 d.height] 125)
   clear hd
   go_upto_region 16 with (refine wpList_box 125 11 _ (.tmp 56) [.int .u64 d.parent, .int .i64 d.slot, .int .i64 d.height] rfl rfl rfl zNd' rfl rfl iNd rfl ?_)
   obtain ⟨y0, y1, y2⟩ := cs3 hq
   have z0 := blk_frozen hq 0
   have hM4 := HM.out.below hba
   have hT4 := hT.below hba
   have hO4 := own_below HO.out hba
   have HX4 := Lib.hid (HX.out.thenBelow hba)
   obtain ⟨w4, hw4⟩ : ∃ w4, w4 = wr.alloc (.cells #[.int .u64 d.parent, .int .i64 d.slot, .int .i64 d.height] 125) := ⟨_, rfl⟩
   rw [← hw4] at y0 y1 y2 z0 hM4 hT4 hO4 HX4 hq ⊢
   clear hw4 hlk
   have hq5 : (w4.setCell ⟨wr.heap.size, 0, none⟩ (.int .u64 r)).heap[wr.heap.size]? = some (.cells #[.int .u64 r, .int .i64 d.slot, .int .i64 d.height] 125 (0, 0)) := blk_set hq 0 (.int .u64 r)
   have hX5 : Ext (fun i => i = wr.heap.size) w4 (w4.setCell ⟨wr.heap.size, 0, none⟩ (.int .u64 r)) := (Ext.refl _ _).set1
   have hM5 : MapAt (w4.setCell ⟨wr.heap.size, 0, none⟩ (.int .u64 r)) mb (ndKV (t.stay r)) := hM4.ext hX5 (fun e => by have e' : mb = wr.heap.size := e; have := HM.out.lt; omega)
   have hT5 : TreeAt (w4.setCell ⟨wr.heap.size, 0, none⟩ (.int .u64 r)) tb nb t := hT4.ext hX5 (fun e => by have e' : tb = wr.heap.size := e; omega) (fun e => by have e' : nb = wr.heap.size := e; omega)
   have hO5 := own_ext hO4 hX5 (fun b hb e => by
    have e' : b = wr.heap.size := e
    have := own_lt HO.out b hb
    omega)
   have HX5 : Hid (Ext (fun i => i = mb) w2 (w4.setCell ⟨wr.heap.size, 0, none⟩ (.int .u64 r))) := HX4.out.setCell (p := ⟨wr.heap.size, 0, none⟩) (.inr hwr) (.int .u64 r)
   go_upto_region 18 with (first
    | (refine wpList_loadP rfl 125 (.tmp 11) rfl wr.heap.size 0 [.int .u64 r, .int .i64 d.slot, .int .i64 d.height] _ hq5 rfl rfl _ Tryz.underlying125 rfl iNd ?_)
    | (refine wpList_put rfl (.tmp 59) (.tmp 60) (.tmp 61) 118 rfl 23 125 Tryz.underlying118 Tryz.underlying23 mb _ rfl hM5 r (ndC ⟨r, d.slot, d.height⟩) rfl rfl ?_; intro w6 hm6 hx6 hs6))
   have hT6 := hT5.ext hx6 (fun e => by have e' : tb = mb := e; omega) (fun e => by have e' : nb = mb := e; omega)
   have hO6 := own_map hO5 hM5 hx6
   have HX6 := Lib.hid (HX5.out.trans hx6 (fun _ _ e => e))
   obtain ⟨x0, x1⟩ := cs2 hT6.blk
   have v0 := blk_frozen hT6.blk 0
   have v1 := blk_frozen hT6.blk 1
   clear hx6 hM5 hT5 hO5 hX5 hq5 hM4 hT4 hO4 z0 y0 y1 y2
   go_wp2
   go_ret
   have hX7 : Ext (fun i => i = tb) w6 ((w6.setCell ⟨tb, 0, none⟩ (.int .u64 r)).setCell ⟨tb, 1, none⟩ (.map (some mb))) := (Ext.refl _ _).set1.set1
   have hO7 := own_ext hO6 hX7 (fun b hb e => by
    have e' : b = tb := e
    have := own_base hO6 b hb
    have := HX.out.size
    omega)
   refine ⟨A, c, mb, rfl, (Ints.of_own hO7).mono (fun b hb => by omega), ⟨blk_set (blk_set hT6.blk 0 _) 1 _, ?_⟩, hw1, ?_⟩
   ·have e1 : put (ndKV (t.stay r)) r (ndC ⟨r, d.slot, d.height⟩) = ndKV (t.cut r).nodes := by
       rw [Tr.cut, ← HD.out]
       exact put_map ndC r ⟨r, d.slot, d.height⟩ (t.stay r)
    rw [← e1]
    exact hm6.ext hX7 (fun e => by have e' : mb = tb := e; omega)
   ·refine ((Ext.of_below (F := fun i => i = tb) HBW.out).trans HX6.out (fun i hi e => ?_)).trans hX7 (fun i _ e => e)
    have e' : i = mb := e
    omega
end Go.Proofs.YtnppimhlfcjghaaGreat
