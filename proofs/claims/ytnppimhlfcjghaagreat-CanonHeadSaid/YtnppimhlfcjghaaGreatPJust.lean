import Derived.Test.YtnppimhlfcjghaaGreatPVote2
import Derived.Test.YtnppimhlfcjghaaGreatPOps2
import Derived.Deep.Cut
import Derived.Deep.CutBlock
import Derived.BigRegion
import Derived.Shelf.Abstract
set_option linter.all false
set_option linter.unusedVariables false
set_option linter.unusedSimpArgs false
namespace Go.Proofs.YtnppimhlfcjghaaGreat
open Go.RowKit
set_option maxRecDepth 100000
set_option maxHeartbeats 4000000
theorem cs2 {w : World} {b : Nat} {T : TypeId} {f : Nat × Nat} {a0 a1 : Value} (h : w.heap[b]? = some (.cells #[a0, a1] T f)) : w.cell? ⟨b, 0, none⟩ = some a0 ∧ w.cell? ⟨b, 1, none⟩ = some a1 :=
 ⟨blk_cell h 0, blk_cell h 1⟩
theorem cs3 {w : World} {b : Nat} {T : TypeId} {f : Nat × Nat} {a0 a1 a2 : Value} (h : w.heap[b]? = some (.cells #[a0, a1, a2] T f)) : w.cell? ⟨b, 0, none⟩ = some a0 ∧ w.cell? ⟨b, 1, none⟩ = some a1 ∧ w.cell? ⟨b, 2, none⟩ = some a2 :=
 ⟨blk_cell h 0, blk_cell h 1, blk_cell h 2⟩
theorem cs4 {w : World} {b : Nat} {T : TypeId} {f : Nat × Nat} {a0 a1 a2 a3 : Value} (h : w.heap[b]? = some (.cells #[a0, a1, a2, a3] T f)) : w.cell? ⟨b, 0, none⟩ = some a0 ∧ w.cell? ⟨b, 1, none⟩ = some a1 ∧ w.cell? ⟨b, 2, none⟩ = some a2 ∧ w.cell? ⟨b, 3, none⟩ = some a3 :=
 ⟨blk_cell h 0, blk_cell h 1, blk_cell h 2, blk_cell h 3⟩
theorem cs7 {w : World} {b : Nat} {T : TypeId} {f : Nat × Nat} {a0 a1 a2 a3 a4 a5 a6 : Value} (h : w.heap[b]? = some (.cells #[a0, a1, a2, a3, a4, a5, a6] T f)) : w.cell? ⟨b, 0, none⟩ = some a0 ∧ w.cell? ⟨b, 1, none⟩ = some a1 ∧ w.cell? ⟨b, 2, none⟩ = some a2 ∧ w.cell? ⟨b, 3, none⟩ = some a3 ∧ w.cell? ⟨b, 4, none⟩ = some a4 ∧ w.cell? ⟨b, 5, none⟩ = some a5 ∧ w.cell? ⟨b, 6, none⟩ = some a6 :=
 ⟨blk_cell h 0, blk_cell h 1, blk_cell h 2, blk_cell h 3, blk_cell h 4, blk_cell h 5, blk_cell h 6⟩
theorem cs10 {w : World} {b : Nat} {T : TypeId} {f : Nat × Nat} {a0 a1 a2 a3 a4 a5 a6 a7 a8 a9 : Value} (h : w.heap[b]? = some (.cells #[a0, a1, a2, a3, a4, a5, a6, a7, a8, a9] T f)) : w.cell? ⟨b, 0, none⟩ = some a0 ∧ w.cell? ⟨b, 1, none⟩ = some a1 ∧ w.cell? ⟨b, 2, none⟩ = some a2 ∧ w.cell? ⟨b, 3, none⟩ = some a3 ∧ w.cell? ⟨b, 4, none⟩ = some a4 ∧ w.cell? ⟨b, 5, none⟩ = some a5 ∧ w.cell? ⟨b, 6, none⟩ = some a6 ∧ w.cell? ⟨b, 7, none⟩ = some a7 ∧ w.cell? ⟨b, 8, none⟩ = some a8 ∧ w.cell? ⟨b, 9, none⟩ = some a9 :=
 ⟨blk_cell h 0, blk_cell h 1, blk_cell h 2, blk_cell h 3, blk_cell h 4, blk_cell h 5, blk_cell h 6, blk_cell h 7, blk_cell h 8, blk_cell h 9⟩
theorem cs13 {w : World} {b : Nat} {T : TypeId} {f : Nat × Nat} {a0 a1 a2 a3 a4 a5 a6 a7 a8 a9 a10 a11 a12 : Value} (h : w.heap[b]? = some (.cells #[a0, a1, a2, a3, a4, a5, a6, a7, a8, a9, a10, a11, a12] T f)) : w.cell? ⟨b, 0, none⟩ = some a0 ∧ w.cell? ⟨b, 1, none⟩ = some a1 ∧ w.cell? ⟨b, 2, none⟩ = some a2 ∧ w.cell? ⟨b, 3, none⟩ = some a3 ∧ w.cell? ⟨b, 4, none⟩ = some a4 ∧ w.cell? ⟨b, 5, none⟩ = some a5 ∧ w.cell? ⟨b, 6, none⟩ = some a6 ∧ w.cell? ⟨b, 7, none⟩ = some a7 ∧ w.cell? ⟨b, 8, none⟩ = some a8 ∧ w.cell? ⟨b, 9, none⟩ = some a9 ∧ w.cell? ⟨b, 10, none⟩ = some a10 ∧ w.cell? ⟨b, 11, none⟩ = some a11 ∧ w.cell? ⟨b, 12, none⟩ = some a12 :=
 ⟨blk_cell h 0, blk_cell h 1, blk_cell h 2, blk_cell h 3, blk_cell h 4, blk_cell h 5, blk_cell h 6, blk_cell h 7, blk_cell h 8, blk_cell h 9, blk_cell h 10, blk_cell h 11, blk_cell h 12⟩
def finF (now x1 x2 x3 e1 e2 e3 e4 : Bool) (cu pr fi : Pt) : Pt := if now && x1 && e1 then cu else if now && x1 && x2 && e2 then cu else if x1 && x2 && e3 then pr else if x1 && x2 && x3 && e4 then pr else fi
section
variable {now x1 x2 x3 e1 e2 e3 e4 : Bool} {cu pr fi : Pt}
theorem finL1 (h0 : now = true) (h1 : x1 = true) (h2 : e1 = true) : finF now x1 x2 x3 e1 e2 e3 e4 cu pr fi = cu := by
 simp_all [finF]
theorem finL2 (h0 : now = true) (h1 : x1 = true) (h2 : e1 = false) (h3 : x2 = true) (h4 : e2 = true) : finF now x1 x2 x3 e1 e2 e3 e4 cu pr fi = cu := by
 simp_all [finF]
theorem finL3 (h0 : now = true) (h1 : x1 = true) (h2 : e1 = false) (h3 : x2 = true) (h4 : e2 = false) (h5 : e3 = true) : finF now x1 x2 x3 e1 e2 e3 e4 cu pr fi = pr := by
 simp_all [finF]
theorem finL4 (h0 : now = true) (h1 : x1 = true) (h2 : e1 = false) (h3 : x2 = true) (h4 : e2 = false) (h5 : e3 = false) (h6 : x3 = true) (h7 : e4 = true) : finF now x1 x2 x3 e1 e2 e3 e4 cu pr fi = pr := by
 simp_all [finF]
theorem finL5 (h0 : now = true) (h1 : x1 = true) (h2 : e1 = false) (h3 : x2 = true) (h4 : e2 = false) (h5 : e3 = false) (h6 : x3 = true) (h7 : e4 = false) : finF now x1 x2 x3 e1 e2 e3 e4 cu pr fi = fi := by
 simp_all [finF]
theorem finL6 (h0 : now = true) (h1 : x1 = true) (h2 : e1 = false) (h3 : x2 = true) (h4 : e2 = false) (h5 : e3 = false) (h6 : ¬ x3 = true) : finF now x1 x2 x3 e1 e2 e3 e4 cu pr fi = fi := by
 simp_all [finF]
theorem finL7 (h0 : now = true) (h1 : x1 = true) (h2 : e1 = false) (h3 : ¬ x2 = true) : finF now x1 x2 x3 e1 e2 e3 e4 cu pr fi = fi := by
 simp_all [finF]
theorem finL8 (h0 : now = true) (h1 : ¬ x1 = true) : finF now x1 x2 x3 e1 e2 e3 e4 cu pr fi = fi := by
 simp_all [finF]
theorem finL9 (h0 : ¬ now = true) (h1 : x1 = true) (h2 : x2 = true) (h3 : e3 = true) : finF now x1 x2 x3 e1 e2 e3 e4 cu pr fi = pr := by
 simp_all [finF]
theorem finL10 (h0 : ¬ now = true) (h1 : x1 = true) (h2 : x2 = true) (h3 : e3 = false) (h4 : x3 = true) (h5 : e4 = true) : finF now x1 x2 x3 e1 e2 e3 e4 cu pr fi = pr := by
 simp_all [finF]
theorem finL11 (h0 : ¬ now = true) (h1 : x1 = true) (h2 : x2 = true) (h3 : e3 = false) (h4 : x3 = true) (h5 : e4 = false) : finF now x1 x2 x3 e1 e2 e3 e4 cu pr fi = fi := by
 simp_all [finF]
theorem finL12 (h0 : ¬ now = true) (h1 : x1 = true) (h2 : x2 = true) (h3 : e3 = false) (h4 : ¬ x3 = true) : finF now x1 x2 x3 e1 e2 e3 e4 cu pr fi = fi := by
 simp_all [finF]
theorem finL13 (h0 : ¬ now = true) (h1 : x1 = true) (h2 : ¬ x2 = true) : finF now x1 x2 x3 e1 e2 e3 e4 cu pr fi = fi := by
 simp_all [finF]
theorem finL14 (h0 : ¬ now = true) (h1 : ¬ x1 = true) : finF now x1 x2 x3 e1 e2 e3 e4 cu pr fi = fi := by
 simp_all [finF]
end
def JsB (s : Js) : Prop := (0 ≤ s.prev.e ∧ s.prev.e ≤ 1099511627776) ∧ (0 ≤ s.cur.e ∧ s.cur.e ≤ 1099511627776) ∧ (0 ≤ s.fin.e ∧ s.fin.e ≤ 1099511627776)
theorem iJs : (Tryz.prog.info? 96).map (·.size) = some 10 := by kernel_rfl
theorem zJs (W : World) : (zeroValue 96).run Tryz.prog W = .ok (.agg #[.bool Js.zero.b0, .bool Js.zero.b1, .bool Js.zero.b2, .bool Js.zero.b3, .int .i64 Js.zero.prev.e, .int .u64 Js.zero.prev.r, .int .i64 Js.zero.cur.e, .int .u64 Js.zero.cur.r, .int .i64 Js.zero.fin.e, .int .u64 Js.zero.fin.r]) W := by kernel_rfl
theorem alloc2 (w : World) (o1 o2 : Obj) : ((w.alloc o1).alloc o2).heap[w.heap.size]? = some o1 ∧ ((w.alloc o1).alloc o2).heap[w.heap.size + 1]? = some o2 ∧ Below w.heap.size w ((w.alloc o1).alloc o2) ∧ ((w.alloc o1).alloc o2).heap.size = w.heap.size + 1 + 1 :=
 ⟨blk_below (heap_new w o1) (below_alloc (Below.refl _ _) _), heap_new1 w _ _, below_alloc (below_alloc (Below.refl _ _) _) _, by simp⟩
theorem alloc3 (w : World) (o1 o2 o3 : Obj) : (((w.alloc o1).alloc o2).alloc o3).heap[w.heap.size]? = some o1 ∧ (((w.alloc o1).alloc o2).alloc o3).heap[w.heap.size + 1]? = some o2 ∧ (((w.alloc o1).alloc o2).alloc o3).heap[w.heap.size + 1 + 1]? = some o3 ∧ Below w.heap.size w (((w.alloc o1).alloc o2).alloc o3) ∧ (((w.alloc o1).alloc o2).alloc o3).heap.size = w.heap.size + 1 + 1 + 1 := by
 obtain ⟨h1, h2, h3, h4⟩ := alloc2 w o1 o2
 have hb := below_alloc (Below.refl _ ((w.alloc o1).alloc o2)) o3
 refine ⟨blk_below h1 hb, blk_below h2 hb, ?_, below_alloc h3 _, by simp⟩
 rw [← h4]; exact heap_new _ _
theorem alloc4 (w : World) (o1 o2 o3 o4 : Obj) : ((((w.alloc o1).alloc o2).alloc o3).alloc o4).heap[w.heap.size]? = some o1 ∧ ((((w.alloc o1).alloc o2).alloc o3).alloc o4).heap[w.heap.size + 1]? = some o2 ∧ ((((w.alloc o1).alloc o2).alloc o3).alloc o4).heap[w.heap.size + 1 + 1]? = some o3 ∧ ((((w.alloc o1).alloc o2).alloc o3).alloc o4).heap[w.heap.size + 1 + 1 + 1]? = some o4 ∧ Below w.heap.size w ((((w.alloc o1).alloc o2).alloc o3).alloc o4) ∧ ((((w.alloc o1).alloc o2).alloc o3).alloc o4).heap.size = w.heap.size + 1 + 1 + 1 + 1 := by
 obtain ⟨h1, h2, h3, h4, h5⟩ := alloc3 w o1 o2 o3
 have hb := below_alloc (Below.refl _ (((w.alloc o1).alloc o2).alloc o3)) o4
 refine ⟨blk_below h1 hb, blk_below h2 hb, blk_below h3 hb, ?_, below_alloc h4 _, by simp⟩
 rw [← h5]; exact heap_new _ _
theorem Next_calls (w : World) (s : Js) (ep : Int) (before now : Bool) (p q : Pt) (hs : JsB s) :
    Calls Tryz.prog 76 #[.agg #[.bool s.b0, .bool s.b1, .bool s.b2, .bool s.b3, .int .i64 s.prev.e, .int .u64 s.prev.r, .int .i64 s.cur.e, .int .u64 s.cur.r, .int .i64 s.fin.e, .int .u64 s.fin.r], .int .i64 ep, .bool before, .bool now, .agg #[.int .i64 p.e, .int .u64 p.r], .agg #[.int .i64 q.e, .int .u64 q.r]] w fun e w' => e = .returned (.agg #[.bool (nextJ s ep before now p q).b0, .bool (nextJ s ep before now p q).b1, .bool (nextJ s ep before now p q).b2, .bool (nextJ s ep before now p q).b3, .int .i64 (nextJ s ep before now p q).prev.e, .int .u64 (nextJ s ep before now p q).prev.r, .int .i64 (nextJ s ep before now p q).cur.e, .int .u64 (nextJ s ep before now p q).cur.r, .int .i64 (nextJ s ep before now p q).fin.e, .int .u64 (nextJ s ep before now p q).fin.r]) ∧ Below w.heap.size w w' := by
 obtain ⟨q0, q1, q2, q3, hb, hsz⟩ := alloc4 w (.cells #[.bool s.b0, .bool s.b1, .bool s.b2, .bool s.b3, .int .i64 s.prev.e, .int .u64 s.prev.r, .int .i64 s.cur.e, .int .u64 s.cur.r, .int .i64 s.fin.e, .int .u64 s.fin.r] 96) (.cells #[.int .i64 p.e, .int .u64 p.r] 38) (.cells #[.int .i64 q.e, .int .u64 q.r] 38) (.cells #[.bool Js.zero.b0, .bool Js.zero.b1, .bool Js.zero.b2, .bool Js.zero.b3, .int .i64 Js.zero.prev.e, .int .u64 Js.zero.prev.r, .int .i64 Js.zero.cur.e, .int .u64 Js.zero.cur.r, .int .i64 Js.zero.fin.e, .int .u64 Js.zero.fin.r] 96)
 go_enter Tryz.func76, Tryz.ntmps76
 go_wp2
 generalize hW : World.alloc (World.alloc (World.alloc (World.alloc w _) _) _) _ = W0
 simp only [Js.zero, Pt.zero] at q0 q1 q2 q3 hb hsz
 rw [hW] at q0 q1 q2 q3 hb hsz
 clear hW
 have hsz' := Lib.hid hsz
 clear hsz
 generalize hB : w.heap.size = B at q0 q1 q2 q3 hb hsz' ⊢
 have HB := Lib.hid hB
 clear hB
 obtain ⟨c0, c1, c2, c3, c4, c5, c6, c7, c8, c9⟩ := cs10 q0
 have HH := Lib.hid hb
 clear hb
 go_cut [13, 14] (fun u v w' => ∃ a b, u = .pointer (some ⟨a, 0, none⟩) ∧ v = .pointer (some ⟨b, 0, none⟩) ∧ w'.heap[a]? = some (.cells #[.int .i64 s.cur.e, .int .u64 s.cur.r] 38 (0, 0)) ∧ w'.heap[b]? = some (.cells #[.int .i64 s.prev.e, .int .u64 s.prev.r] 38 (0, 0)) ∧ Below W0.heap.size W0 w')
 case first =>
  have n4 := World.new_ne W0 ⟨B, 4, none⟩ c4
  have hlt := World.block_lt_of_cell? W0 ⟨B, 4, none⟩ c4
  simp only at hlt n4
  go_region_held3 (fun w' => w'.cell? ⟨B, 4, none⟩ = some (.int .i64 s.prev.e) ∧ w'.cell? ⟨B, 5, none⟩ = some (.int .u64 s.prev.r) ∧ w'.cell? ⟨B, 6, none⟩ = some (.int .i64 s.cur.e) ∧ w'.cell? ⟨B, 7, none⟩ = some (.int .u64 s.cur.r)) (first | exact ⟨c4, c5, c6, c7⟩ | go_keep | (simp [*, World.cell?_alloc_some, World.cell?_setCell_far]; omega)) (fail)
  all_goals
   go_wp2
   go_meet
   case rel =>
    first
     | exact ⟨_, _, rfl, rfl, (alloc2 W0 _ _).1, (alloc2 W0 _ _).2.1, (alloc2 W0 _ _).2.2.1.drew⟩
     | exact ⟨_, _, rfl, rfl, (alloc2 W0 _ _).2.1, (alloc2 W0 _ _).1, (alloc2 W0 _ _).2.2.1.drew⟩
 case rest =>
  obtain ⟨a, b, rfl, rfl, ha, hb, hw1⟩ := hcut
  obtain ⟨w1, rfl⟩ : ∃ w1 : World, w1 = wc := ⟨_, rfl⟩
  have r0 := blk_below q0 hw1
  have r1 := blk_below q1 hw1
  have r2 := blk_below q2 hw1
  have r3 := blk_below q3 hw1
  have HB1 : Below B w w1 := HH.out.trans (hw1.mono (by have h1 := hsz'.out; have h2 := HB.out; omega))
  have hBs : B < w1.heap.size := blk_lt r0
  clear q0 q1 q2 q3 c0 c1 c2 c3 c4 c5 c6 c7 c8 c9 hw1 hsz' HH
  obtain ⟨c0, c1, c2, c3, c4, c5, c6, c7, c8, c9⟩ := cs10 r0
  go_upto_region 4 with fail
  have HO := heap_new w1 (.cells #[.bool false, .bool s.b0, .bool s.b1, .bool s.b2, .int .i64 s.cur.e, .int .u64 s.cur.r, .int .i64 s.cur.e, .int .u64 s.cur.r, .int .i64 s.fin.e, .int .u64 s.fin.r] 96)
  have hbn := below_alloc (Below.refl w1.heap.size w1) (.cells #[.bool false, .bool s.b0, .bool s.b1, .bool s.b2, .int .i64 s.cur.e, .int .u64 s.cur.r, .int .i64 s.cur.e, .int .u64 s.cur.r, .int .i64 s.fin.e, .int .u64 s.fin.r] 96)
  have k1 := blk_below r1 hbn
  have k2 := blk_below r2 hbn
  have k3 := blk_below r3 hbn
  have ka := blk_below ha hbn
  have kb := blk_below hb hbn
  have HB2 : Below B w (w1.alloc (.cells #[.bool false, .bool s.b0, .bool s.b1, .bool s.b2, .int .i64 s.cur.e, .int .u64 s.cur.r, .int .i64 s.cur.e, .int .u64 s.cur.r, .int .i64 s.fin.e, .int .u64 s.fin.r] 96)) := HB1.trans (hbn.mono (by omega))
  have hBO : B + 1 + 1 + 1 < w1.heap.size := blk_lt r3
  have haO : a < w1.heap.size := blk_lt ha
  have hbO : b < w1.heap.size := blk_lt hb
  clear r0 r1 r2 r3 ha hb hbn c0 c1 c2 c3 c4 c5 c6 c7 c8 c9 HB1
  generalize World.alloc w1 _ = W2 at HO k1 k2 k3 ka kb HB2 ⊢
  generalize w1.heap.size = O at HO hBO haO hbO hBs ⊢
  obtain ⟨d0, d1, d2, d3, d4, d5, d6, d7, d8, d9⟩ := cs10 HO
  have g1 := cs2 k1
  have g2 := cs2 k2
  obtain ⟨g10, g11⟩ := g1
  obtain ⟨g20, g21⟩ := g2
  have f1 := blk_frozen HO 1
  have f6 := blk_frozen HO 6
  have f7 := blk_frozen HO 7
  go_upto_if 39 with fail
  go_cut [] (fun w' => w'.heap[O]? = some (.cells #[.bool false, .bool (before || s.b0), .bool s.b1, .bool s.b2, .int .i64 s.cur.e, .int .u64 s.cur.r, .int .i64 (if before then p else s.cur).e, .int .u64 (if before then p else s.cur).r, .int .i64 s.fin.e, .int .u64 s.fin.r] 96 (0, 0)) ∧ Ext (fun i => i = O) W2 w')
  case first =>
   go_wp2
   ·go_meet
    case rel =>
     refine ⟨?_, ((Ext.refl (fun i => i = O) _).set1.set1).set1⟩
     have := blk_set (blk_set (blk_set HO 6 (.int .i64 p.e)) 7 (.int .u64 p.r)) 1 (.bool true)
     simpa [show before = true from by assumption] using this
   ·go_meet
    case rel => exact ⟨by simpa [show before = false from by assumption] using HO, Ext.refl _ _⟩
  case rest =>
   obtain ⟨HO3, hx3⟩ := hcut
   obtain ⟨W3, rfl⟩ : ∃ W3 : World, W3 = wc := ⟨_, rfl⟩
   have l1 := blk_ext k1 hx3 (by omega)
   have l2 := blk_ext k2 hx3 (by omega)
   have l3 := blk_ext k3 hx3 (by omega)
   have la := blk_ext ka hx3 (by omega)
   have lb := blk_ext kb hx3 (by omega)
   have HB3 : Below B w W3 := HB2.trans (hx3.below (by have := blk_lt HO; omega) (fun i hi e => by omega))
   clear d0 d1 d2 d3 d4 d5 d6 d7 d8 d9 g10 g11 g20 g21 f1 f6 f7 HO k1 k2 k3 ka kb HB2 hx3
   obtain ⟨g20, g21⟩ := cs2 l2
   obtain ⟨d0, d1, d2, d3, d4, d5, d6, d7, d8, d9⟩ := cs10 HO3
   have f0 := blk_frozen HO3 0
   have f6 := blk_frozen HO3 6
   have f7 := blk_frozen HO3 7
   have eX : Hid ((if now then q else if before then p else s.cur) = (nextJ s ep before now p q).cur) := rfl
   generalize (if before = true then p else s.cur) = X at d6 d7 HO3 eX
   go_upto_if 44 with fail
   go_cut [] (fun w' => w'.heap[O]? = some (.cells #[.bool now, .bool (before || s.b0), .bool s.b1, .bool s.b2, .int .i64 s.cur.e, .int .u64 s.cur.r, .int .i64 (if now then q else X).e, .int .u64 (if now then q else X).r, .int .i64 s.fin.e, .int .u64 s.fin.r] 96 (0, 0)) ∧ Ext (fun i => i = O) W3 w')
   case first =>
    go_wp2
    ·go_meet
     case rel =>
      refine ⟨?_, ((Ext.refl (fun i => i = O) _).set1.set1).set1⟩
      have := blk_set (blk_set (blk_set HO3 6 (.int .i64 q.e)) 7 (.int .u64 q.r)) 0 (.bool true)
      simpa [show now = true from by assumption] using this
    ·go_meet
     case rel => exact ⟨by simpa [show now = false from by assumption] using HO3, Ext.refl _ _⟩
   case rest =>
    obtain ⟨HO4, hx4⟩ := hcut
    obtain ⟨W4, rfl⟩ : ∃ W4 : World, W4 = wc := ⟨_, rfl⟩
    have m3 := blk_ext l3 hx4 (by omega)
    have ma := blk_ext la hx4 (by omega)
    have mb := blk_ext lb hx4 (by omega)
    have HB4 : Below B w W4 := HB3.trans (hx4.below (by have := blk_lt HO3; omega) (fun i hi e => by omega))
    clear d0 d1 d2 d3 d4 d5 d6 d7 d8 d9 g20 g21 f0 f6 f7 HO3 l1 l2 l3 la lb HB3 hx4
    rw [eX.out] at HO4
    obtain ⟨d0, d1, d2, d3, d4, d5, d6, d7, d8, d9⟩ := cs10 HO4
    have f8 := blk_frozen HO4 8
    have f9 := blk_frozen HO4 9
    obtain ⟨a0, a1⟩ := cs2 ma
    obtain ⟨b0, b1⟩ := cs2 mb
    go_upto_block 0 with fail
    have eF : Hid ((nextJ s ep before now p q).fin = finF now (before || s.b0) s.b1 s.b2 (s.cur.e + 1 == ep) (s.cur.e + 2 == ep) (s.prev.e + 2 == ep) (s.prev.e + 3 == ep) s.cur s.prev s.fin) := rfl
    have eJ : Hid (nextJ s ep before now p q = ⟨now, before || s.b0, s.b1, s.b2, s.cur, (nextJ s ep before now p q).cur, (nextJ s ep before now p q).fin⟩) := rfl
    obtain ⟨s1, s2, s3⟩ := hs
    generalize hN : nextJ s ep before now p q = N at eF eJ HO4 d6 d7
    have HN0 := Lib.hid hN
    clear hN
    generalize s.cur = cu at *
    generalize s.prev = pr at *
    generalize s.fin = fi at *
    generalize (before || s.b0) = x1 at *
    generalize s.b1 = x2 at *
    generalize s.b2 = x3 at *
    have hbn := below_alloc (Below.refl W4.heap.size W4) (.cells #[.bool now, .bool x1, .bool x2, .bool x3] 94)
    have HN := heap_new W4 (.cells #[.bool now, .bool x1, .bool x2, .bool x3] 94)
    have n3 := blk_below m3 hbn
    have na := blk_below ma hbn
    have nb := blk_below mb hbn
    have nO := blk_below HO4 hbn
    have HB5 : Below B w (W4.alloc (.cells #[.bool now, .bool x1, .bool x2, .bool x3] 94)) := HB4.trans (hbn.mono (by have := blk_lt m3; omega))
    clear m3 ma mb HO4 hbn HB4 d0 d1 d2 d3 d4 d5 d6 d7 d8 d9 f8 f9 a0 a1 b0 b1
    generalize World.alloc W4 _ = W5 at HN n3 na nb nO HB5 ⊢
    generalize W4.heap.size = S at HN ⊢
    obtain ⟨d0, d1, d2, d3, d4, d5, d6, d7, d8, d9⟩ := cs10 nO
    have f8 := blk_frozen nO 8
    have f9 := blk_frozen nO 9
    obtain ⟨a0, a1⟩ := cs2 na
    obtain ⟨b0, b1⟩ := cs2 nb
    obtain ⟨e0, e1, e2, e3⟩ := cs4 HN
    obtain ⟨r0, r1, r2, r3, r4, r5, r6, r7, r8, r9⟩ := cs10 n3
    obtain ⟨z0, z1, z2, z3, z4, z5, z6, z7, z8, z9⟩ : W5.frozen? ⟨B + 1 + 1 + 1, 0, none⟩ = false ∧ W5.frozen? ⟨B + 1 + 1 + 1, 1, none⟩ = false ∧ W5.frozen? ⟨B + 1 + 1 + 1, 2, none⟩ = false ∧ W5.frozen? ⟨B + 1 + 1 + 1, 3, none⟩ = false ∧ W5.frozen? ⟨B + 1 + 1 + 1, 4, none⟩ = false ∧ W5.frozen? ⟨B + 1 + 1 + 1, 5, none⟩ = false ∧ W5.frozen? ⟨B + 1 + 1 + 1, 6, none⟩ = false ∧ W5.frozen? ⟨B + 1 + 1 + 1, 7, none⟩ = false ∧ W5.frozen? ⟨B + 1 + 1 + 1, 8, none⟩ = false ∧ W5.frozen? ⟨B + 1 + 1 + 1, 9, none⟩ = false := ⟨blk_frozen n3 0, blk_frozen n3 1, blk_frozen n3 2, blk_frozen n3 3, blk_frozen n3 4, blk_frozen n3 5, blk_frozen n3 6, blk_frozen n3 7, blk_frozen n3 8, blk_frozen n3 9⟩
    clear HN na nb
    obtain ⟨FI, hFI⟩ : ∃ FI, FI = N.fin := ⟨_, rfl⟩
    rw [← hFI] at eF eJ
    have HFI := Lib.hid hFI
    clear hFI
    go_cut [0, 2, 3] (fun _ _ _ w' => w'.heap[O]? = some (.cells #[.bool now, .bool x1, .bool x2, .bool x3, .int .i64 cu.e, .int .u64 cu.r, .int .i64 N.cur.e, .int .u64 N.cur.r, .int .i64 FI.e, .int .u64 FI.r] 96 (0, 0)) ∧ Ext (fun i => i = O) W5 w')
    case first =>
     have hcu : FI = cu → ((W5.setCell ⟨O, 8, none⟩ (.int .i64 cu.e)).setCell ⟨O, 9, none⟩ (.int .u64 cu.r)).heap[O]? = some (.cells #[.bool now, .bool x1, .bool x2, .bool x3, .int .i64 cu.e, .int .u64 cu.r, .int .i64 N.cur.e, .int .u64 N.cur.r, .int .i64 FI.e, .int .u64 FI.r] 96 (0, 0)) := fun h => by
      rw [h]; simpa using blk_set (blk_set nO 8 (.int .i64 cu.e)) 9 (.int .u64 cu.r)
     have hpr : FI = pr → ((W5.setCell ⟨O, 8, none⟩ (.int .i64 pr.e)).setCell ⟨O, 9, none⟩ (.int .u64 pr.r)).heap[O]? = some (.cells #[.bool now, .bool x1, .bool x2, .bool x3, .int .i64 cu.e, .int .u64 cu.r, .int .i64 N.cur.e, .int .u64 N.cur.r, .int .i64 FI.e, .int .u64 FI.r] 96 (0, 0)) := fun h => by
      rw [h]; simpa using blk_set (blk_set nO 8 (.int .i64 pr.e)) 9 (.int .u64 pr.r)
     have hfi : FI = fi → W5.heap[O]? = some (.cells #[.bool now, .bool x1, .bool x2, .bool x3, .int .i64 cu.e, .int .u64 cu.r, .int .i64 N.cur.e, .int .u64 N.cur.r, .int .i64 FI.e, .int .u64 FI.r] 96 (0, 0)) := fun h => by
      rw [h]; exact nO
     have HCU := Lib.hid hcu
     have HPR := Lib.hid hpr
     have HFJ := Lib.hid hfi
     clear hcu hpr hfi nO
     go_wp2
     all_goals
      go_meet
      case rel =>
       have hF := eF.out
       first
        | exact ⟨HCU.out (hF.trans (by first | exact finL1 (by assumption) (by assumption) (by assumption) | exact finL2 (by assumption) (by assumption) (by assumption) (by assumption) (by assumption))), ((Ext.refl (fun i => i = O) _).set1).set1⟩
        | exact ⟨HPR.out (hF.trans (by first | exact finL3 (by assumption) (by assumption) (by assumption) (by assumption) (by assumption) (by assumption) | exact finL4 (by assumption) (by assumption) (by assumption) (by assumption) (by assumption) (by assumption) (by assumption) (by assumption) | exact finL9 (by assumption) (by assumption) (by assumption) (by assumption) | exact finL10 (by assumption) (by assumption) (by assumption) (by assumption) (by assumption) (by assumption))), ((Ext.refl (fun i => i = O) _).set1).set1⟩
        | exact ⟨HFJ.out (hF.trans (by first | exact finL5 (by assumption) (by assumption) (by assumption) (by assumption) (by assumption) (by assumption) (by assumption) (by assumption) | exact finL6 (by assumption) (by assumption) (by assumption) (by assumption) (by assumption) (by assumption) (by assumption) | exact finL7 (by assumption) (by assumption) (by assumption) (by assumption) | exact finL8 (by assumption) (by assumption) | exact finL11 (by assumption) (by assumption) (by assumption) (by assumption) (by assumption) (by assumption) | exact finL12 (by assumption) (by assumption) (by assumption) (by assumption) (by assumption) | exact finL13 (by assumption) (by assumption) (by assumption) | exact finL14 (by assumption) (by assumption))), Ext.refl _ _⟩
    case rest =>
     obtain ⟨pO, hx5⟩ := hcut
     obtain ⟨W6, rfl⟩ : ∃ W6 : World, W6 = wc := ⟨_, rfl⟩
     have q3 := blk_ext n3 hx5 (by omega)
     have HB6 : Below B w W6 := HB5.trans (hx5.below (by have := blk_lt n3; omega) (fun i hi e => by omega))
     go_wp2_with (first
      | (refine wpList_loadB rfl 96 (.tmp 15) rfl O [.bool now, .bool x1, .bool x2, .bool x3, .int .i64 cu.e, .int .u64 cu.r, .int .i64 N.cur.e, .int .u64 N.cur.r, .int .i64 FI.e, .int .u64 FI.r] pO rfl _ Tryz.underlying96 rfl iJs ?_)
      | (refine wpList_storeB rfl 96 (.tmp 12) (.tmp 123) rfl (B + 1 + 1 + 1) _ [.bool now, .bool x1, .bool x2, .bool x3, .int .i64 cu.e, .int .u64 cu.r, .int .i64 N.cur.e, .int .u64 N.cur.r, .int .i64 FI.e, .int .u64 FI.r] q3 rfl rfl rfl iJs rfl ?_; intro W7 hR hx7 hs7))
     refine bodyPost_ret (results_cellB rfl _ (B + 1 + 1 + 1) _ hR rfl _ Tryz.underlying96 rfl iJs) rfl ⟨?_, ?_⟩
     ·rw [HN0.out, eJ.out]
     ·rw [HB.out]
      exact HB6.trans (hx7.below (by have := blk_lt q3; omega) (fun i hi e => by omega))
end Go.Proofs.YtnppimhlfcjghaaGreat
namespace Go.Proofs.YtnppimhlfcjghaaGreat
open Go.RowKit
set_option maxRecDepth 100000
set_option maxHeartbeats 4000000
def seqI (a : Int) (n : Nat) : List Int := (List.range n).map fun (k : Nat) => a + (k : Int)
theorem seqI_succ (a : Int) (n : Nat) : seqI a (n + 1) = seqI a n ++ [a + n] := by
 simp [seqI, List.range_succ]
theorem seqI_length (a : Int) (n : Nat) : (seqI a n).length = n := by simp [seqI]
def RetInts (k : IntKind) (xs : List Int) (B : Nat) (w : World) (e : Ending) (w' : World) : Prop := ∃ A c, e = .returned (.slice A xs.length c) ∧ Ints (fun b => B ≤ b) k w' A xs ∧ Below B w w'
theorem Ends_calls (w : World) (a b s : Int) (ha : inI a) (hb : inI b) (hs : inI s) :
    Calls Tryz.prog 79 #[.int .i64 a, .int .i64 b, .int .i64 s] w (RetInts .i64 (endsL a b s) w.heap.size w) := by
 have cA := fun W => EpochOf_calls W a s ha hs
 have cB := fun W => EpochOf_calls W b s hb hs
 have hE0 := epochOf_bd a s ha.2
 have hE1 := epochOf_bd b s hb.2
 obtain ⟨N, hN⟩ : ∃ N, N = min (epochOf b s - epochOf a s).toNat 4096 := ⟨_, rfl⟩
 have hL : endsL a b s = seqI (epochOf a s) N := by rw [hN]; rfl
 rw [hL]
 generalize epochOf a s = E0 at cA hE0 hN ⊢
 generalize epochOf b s = E1 at cB hE1 hN
 have hN1 : N ≤ 4096 := by omega
 have HN := Lib.hid hN
 clear hL hN ha hb hs
 obtain ⟨B, HB, hB1, hB2⟩ := size_hid w
 rw [HB.out]
 have tok : True := trivial
 go_enter Tryz.func79, Tryz.ntmps79
 go_wp2_with (go_at_call 53; refine (cA _).mono ?_; rintro e w' ⟨rfl, rfl⟩)
 go_loopw [7, 8] (fun v i wr => ∃ (k : Nat) (A : Option Addr) (c : Nat), k ≤ N ∧ i = .int .i64 (E0 + k) ∧ v = .slice A k c ∧ Hid (wr.ownsRow B 3 1 (.slice A k c) k ((seqI E0 k).map (Value.int .i64))) ∧ Hid (Below B w wr)) (fun v _ _ => N - (match v with | .slice _ n _ => n | _ => 0))
 case atStart => exact ⟨0, none, 0, Nat.zero_le _, by simp, rfl, own_nil _ _ _ _, by show Below _ _ _; rw [← HB.out]; exact Below.refl _ _⟩
 case round =>
  clear cA
  obtain ⟨k, A, c, hk, rfl, rfl, HO, HW⟩ := hrel
  by_cases hlt : k < N
  ·have h1 : E0 + (k : Int) < E1 := by have := HN.out; omega
   have h2 : (k : Int) < 4096 := by omega
   have hbr : B ≤ wr.heap.size := by have := HW.out.size; omega
   have HO1 := Lib.hid (HO.out.alloc (.cells #[.int .i64 (E0 + k)] 3))
   go_wp2_with (first
    | (go_at_call 53; refine (cB _).mono ?_; rintro e w' ⟨rfl, rfl⟩)
    | (at_builtin; refine wpList_app B rfl (.tmp 24) (.tmp 26) 51 3 (.int .i64 0) 1 8 rfl Tryz.underlying51 infoInt rfl (by decide) _ k _ rfl HO1.out (some ⟨wr.heap.size, 0, none⟩) 1 1 [.int .i64 (E0 + k)] rfl rfl (Flat.one _ _ _) (by simp [Value.oneCell']) (by omega) (by omega) (by simp; omega) ?_; intro A' c' w2 hown hg _; have HO2 := Lib.hid hown; have HG := Lib.hid hg; clear hown hg))
   go_roundw
   case rel =>
    refine ⟨k + 1, A', c', by omega, ?_, rfl, ?_, ?_⟩
    ·congr 1; omega
    ·show World.ownsRow _ _ _ _ _ _ _
     rw [seqI_succ, List.map_append]
     exact HO2.out
    ·show Below _ _ _
     exact ((HW.out.alloc (by omega) _).grown HG.out (by simp; omega) (own_base HO1.out))
   case measure => simp; omega
  ·obtain rfl : k = N := by omega
   by_cases h1 : E0 + (k : Int) < E1
   ·have h2 : ¬ (k : Int) < 4096 := by have := HN.out; omega
    go_wp2_with (go_at_call 53; refine (cB _).mono ?_; rintro e w' ⟨rfl, rfl⟩)
    go_ret
    exact ⟨A, c, by rw [seqI_length]; rfl, Ints.of_own HO.out, HW.out⟩
   ·go_wp2_with (go_at_call 53; refine (cB _).mono ?_; rintro e w' ⟨rfl, rfl⟩)
    go_ret
    exact ⟨A, c, by rw [seqI_length]; rfl, Ints.of_own HO.out, HW.out⟩
def BoolsR (w : World) (A : Option Addr) (xs : List Bool) : Prop := ∃ b cs, A = some ⟨b, 0, none⟩ ∧ w.heap[b]? = some (.cells cs 4 (0, 0)) ∧ xs.map Value.bool <+: cs.toList
theorem BoolsR.below {w w' : World} {A : Option Addr} {xs : List Bool} (h : BoolsR w A xs) (hb : Below w.heap.size w w') : BoolsR w' A xs := by
 obtain ⟨b, cs, rfl, h1, h2⟩ := h
 exact ⟨b, cs, rfl, blk_below h1 hb, h2⟩
theorem BoolsR.cell {w : World} {A : Option Addr} {xs : List Bool} (h : BoolsR w A xs) {j : Nat} (hj : j < xs.length) : ∃ b, A = some ⟨b, 0, none⟩ ∧ w.cell? ⟨b, j, none⟩ = some (.bool (xs.getD j false)) := by
 obtain ⟨b, cs, rfl, h1, h2⟩ := h
 refine ⟨b, rfl, ?_⟩
 rw [blk_cell h1, ← Array.getElem?_toList]
 obtain ⟨t, ht⟩ := h2
 rw [← ht, List.getElem?_append_left (by simpa using hj), List.getElem?_map, List.getD_eq_getElem?_getD, List.getElem?_eq_getElem hj]
 rfl
theorem whoL_take (is : List Bool) (k : Nat) (hk : k ≤ is.length) : (iota k).filter (fun j => is.getD j.toNat false) = (whoL (is.take k)) := by
 unfold whoL
 rw [List.length_take, Nat.min_eq_left hk]
 apply List.filter_congr
 intro x hx
 simp only [iota, List.mem_map, List.mem_range] at hx
 obtain ⟨j, hj, rfl⟩ := hx
 rw [Int.toNat_natCast, List.getD_eq_getElem?_getD, List.getD_eq_getElem?_getD, List.getElem?_take_of_lt hj]
theorem whoL_succ (is : List Bool) (k : Nat) (hk : k < is.length) : whoL (is.take (k + 1)) = whoL (is.take k) ++ (if is.getD k false then [(k : Int)] else []) := by
 rw [← whoL_take is (k + 1) hk, ← whoL_take is k (by omega)]
 rw [show iota (k + 1) = iota k ++ [(k : Int)] from by simp [iota, List.range_succ], List.filter_append]
 simp [List.filter_cons]
theorem whoL_le (is : List Bool) : (whoL is).length ≤ is.length := by
 unfold whoL
 exact Nat.le_trans (List.length_filter_le _ _) (by rw [iota_length]; exact Nat.le_refl _)
theorem who_calls (w : World) (A : Option Addr) (c : Nat) (is : List Bool) (h : BoolsR w A is) (hl : is.length ≤ 4096) :
    Calls Tryz.prog 75 #[.slice A is.length c] w (RetInts .i64 (whoL is) w.heap.size w) := by
 obtain ⟨B, HB, hB1, hB2⟩ := size_hid w
 rw [HB.out]
 have H := Lib.hid h
 clear h
 go_enter Tryz.func75, Tryz.ntmps75
 go_wp2
 go_loopw [3, 4, 5, 8] (fun v _ _ i wr => ∃ (k : Nat) (A' : Option Addr) (c' : Nat), k ≤ is.length ∧ i = .int .i64 k ∧ v = .slice A' (whoL (is.take k)).length c' ∧ Hid (wr.ownsRow B 3 1 (.slice A' (whoL (is.take k)).length c') (whoL (is.take k)).length ((whoL (is.take k)).map (Value.int .i64))) ∧ Hid (Below B w wr)) (fun _ _ _ i _ => is.length - (intOf i).toNat)
 case atStart => exact ⟨0, none, 0, Nat.zero_le _, rfl, rfl, own_nil _ _ _ _, by show Below _ _ _; rw [← HB.out]; exact Below.refl _ _⟩
 case round =>
  obtain ⟨k, A', c', hk, rfl, rfl, HO, HW⟩ := hrel
  have hbr : B ≤ wr.heap.size := by have := HW.out.size; omega
  by_cases hlt : k < is.length
  ·obtain ⟨b, rfl, hc⟩ := (H.out.below (HW.out.mono hB1)).cell hlt
   have HT := Lib.hid (whoL_succ is k hlt)
   have hwl : (whoL (is.take k)).length ≤ k := by have := whoL_le (is.take k); rw [List.length_take] at this; omega
   have HO1 := Lib.hid (HO.out.alloc (.cells #[.int .i64 k] 3))
   generalize hx : is.getD k false = x at hc HT
   clear hx
   generalize whoL (is.take k) = L at HO HO1 HT hwl ⊢
   cases x with
   | true =>
    go_wp2_with (at_builtin; refine wpList_app B rfl (.tmp 14) (.tmp 16) 51 3 (.int .i64 0) 1 8 rfl Tryz.underlying51 infoInt rfl (by decide) _ L.length _ rfl HO1.out (some ⟨wr.heap.size, 0, none⟩) 1 1 [.int .i64 k] rfl rfl (Flat.one _ _ _) (by simp [Value.oneCell']) (by omega) (by omega) (by simp; omega) ?_; intro A2 c2 w2 hown hg _; have HO2 := Lib.hid hown; have HG := Lib.hid hg; clear hown hg)
    go_roundw
    case rel =>
     refine ⟨k + 1, A2, c2, by omega, by go_num, ?_, ?_, ?_⟩
     ·rw [HT.out]; simp
     ·show World.ownsRow _ _ _ _ _ _ _
      rw [HT.out]
      simpa using HO2.out
     ·show Below _ _ _
      exact ((HW.out.alloc (by omega) _).grown HG.out (by simp; omega) (own_base HO1.out))
    case measure => simp [intOf]; omega
   | false =>
    go_wp2
    go_roundw
    case rel =>
     refine ⟨k + 1, A', c', by omega, by go_num, ?_, ?_, HW⟩
     ·rw [HT.out]; simp
     ·show World.ownsRow _ _ _ _ _ _ _
      rw [HT.out]
      simpa using HO.out
    case measure => simp [intOf]; omega
  ·obtain rfl : k = is.length := by omega
   rw [List.take_length] at HO ⊢
   go_wp2
   go_ret
   exact ⟨A', c', rfl, Ints.of_own HO.out, HW.out⟩
structure ChainAt (w : World) (g : Nat) (caps : Array Value) (f : Int → Int) : Prop where
 enters : ∀ args W, (callFunc g args).run Tryz.prog W = .ok (.enter g args) W
 calls : ∀ (W : World) (s : Int), Below w.heap.size w W → Calls Tryz.prog g (#[.int .i64 s] ++ caps) W fun e W' => e = .returned (.int .u64 (f s)) ∧ Below W.heap.size W W'
 rng : ∀ s, inU (f s)
theorem ChainAt.below {w w' : World} {g : Nat} {caps : Array Value} {f : Int → Int} (h : ChainAt w g caps f) (hb : Below w.heap.size w w') : ChainAt w' g caps f :=
 ⟨h.enters, fun W s hW => h.calls W s (hb.trans (hW.mono hb.size)), h.rng⟩
theorem iPt : (Tryz.prog.info? 38).map (·.size) = some 2 := by kernel_rfl
theorem point_calls (w : World) (c : Cf) (A : Option Addr) (k : Nat) (e : Int) (g : Nat) (caps : Array Value) (f : Int → Int) (hok : c.ok) (he : inI e) (he2 : e ≤ 1099511627776) (h : ChainAt w g caps f) :
    Calls Tryz.prog 77 #[cfC c A k, .int .i64 e, .func (.func g) #[] caps] w fun en w' => en = .returned (.agg #[.int .i64 (pointL c e f).e, .int .u64 (pointL c e f).r]) ∧ Below w.heap.size w w' := by
 obtain ⟨q0, q1, hb, hsz⟩ := alloc2 w (.cells #[.slice A c.bal.length k, .int .i64 c.slots, .int .i64 c.boost] 27) (.cells #[.int .i64 0, .int .u64 0] 38)
 have eg := h.enters
 have cS := fun W => EpochStart_calls W e c.slots he hok.s2 he2
 have cC := fun W s hW => h.calls W s hW
 have hp : pointL c e f = ⟨max 0 e, f (epochStart e c.slots)⟩ := rfl
 rw [hp]
 generalize epochStart e c.slots = E at cS ⊢
 clear h hp
 unfold inI at he
 go_enter Tryz.func77, Tryz.ntmps77
 go_upto_region 1 with fail
 generalize World.alloc (World.alloc w _) _ = W0 at q0 q1 hb hsz ⊢
 generalize hB : w.heap.size = B at q0 q1 hb hsz ⊢
 have HB := Lib.hid hB
 obtain ⟨c0, c1, c2⟩ := cs3 q0
 have hs1 := hok.s1
 have hs2 := hok.s2
 have hBs : B ≤ W0.heap.size := by omega
 obtain ⟨p0, p1⟩ := cs2 q1
 have hB1 : w.heap.size ≤ B := by omega
 clear hB
 go_wp2_with (first
  | (go_at_call 64; refine (cS _).mono ?_; rintro e w' ⟨rfl, rfl⟩)
  | (go_at_fn g; refine (cC _ _ (hb.mono hB1)).mono ?_; rintro e w1 ⟨rfl, hb1⟩; obtain ⟨u0, u1⟩ := cs2 (blk_below q1 hb1); have v0 := blk_frozen (blk_below q1 hb1) 0; have v1 := blk_frozen (blk_below q1 hb1) 1))
 all_goals
  have hk := fun x => blk_set (blk_set (blk_below q1 hb1) 0 (.int .i64 x)) 1 (.int .u64 (f E))
  refine bodyPost_ret (results_cellB rfl _ (B + 1) _ (hk _) rfl _ Tryz.underlying38 rfl iPt) rfl ⟨?_, ?_⟩
  ·first
      | (rw [show max 0 e = e from by omega]; rfl)
      | (rw [show max 0 e = 0 from by omega]; rfl)
  ·rw [HB.out]
   exact ((hb.trans (hb1.mono (by omega))).setCell (by simp) _).setCell (by simp) _
end Go.Proofs.YtnppimhlfcjghaaGreat
namespace Go.Proofs.YtnppimhlfcjghaaGreat
open Go.RowKit
set_option maxRecDepth 100000
set_option maxHeartbeats 8000000
structure LsOk (n : Nat) (l : Ls) : Prop where
 j : JsB l.j
 e0 : 0 ≤ l.epoch
 e1 : l.epoch ≤ 1099511627776
 b : l.before.length = n
 n : l.now.length = n
theorem iLs : (Tryz.prog.info? 99).map (·.size) = some 13 := by kernel_rfl
theorem iCf : (Tryz.prog.info? 27).map (·.size) = some 3 := by kernel_rfl
theorem totalW_bd {c : Cf} (hok : c.ok) : 0 ≤ totalW c ∧ totalW c ≤ 17592186044416 := by
 have := sumW_bd hok (iota c.bal.length)
 rw [iota_length] at this
 have := hok.l2
 unfold totalW; omega
theorem whoL_inI (is : List Bool) (h : is.length ≤ 4096) : ∀ x ∈ whoL is, inI x := fun x hx => iota_inI _ h x (List.mem_filter.1 hx).1
structure LsR (w : World) (l : Ls) (A : Option Addr) (A2 : Option Addr) : Prop where
 b : BoolsR w A l.before
 n : BoolsR w A2 l.now
theorem LsR.below {w w' : World} {l : Ls} {A A2 : Option Addr} (h : LsR w l A A2) (hb : Below w.heap.size w w') : LsR w' l A A2 := ⟨h.b.below hb, h.n.below hb⟩
theorem blk_setAll {w : World} {b : Nat} {c : Array Value} {t : TypeId} {f : Nat × Nat} (h : w.heap[b]? = some (.cells c t f)) (vs : List Value) (hl : vs.length = c.size) : (w.setCells b 0 vs).heap[b]? = some (.cells vs.toArray t f) := by
 have := blk_setCells vs c 0 w h
 rwa [setFrom_all vs c hl] at this
theorem Pull_calls (w : World) (c : Cf) (A : Option Addr) (k : Nat) (l : Ls) (A1 : Option Addr) (k1 : Nat) (A2 : Option Addr) (k2 : Nat) (g : Nat) (caps : Array Value) (f : Int → Int) (hok : c.ok) (hb : Ints anyB .u64 w A c.bal) (hl : LsOk c.bal.length l) (hr : LsR w l A1 A2) (h : ChainAt w g caps f) :
    Calls Tryz.prog 54 #[cfC c A k, .agg #[.bool l.j.b0, .bool l.j.b1, .bool l.j.b2, .bool l.j.b3, .int .i64 l.j.prev.e, .int .u64 l.j.prev.r, .int .i64 l.j.cur.e, .int .u64 l.j.cur.r, .int .i64 l.j.fin.e, .int .u64 l.j.fin.r, .int .i64 l.epoch, .slice A1 l.before.length k1, .slice A2 l.now.length k2], .func (.func g) #[] caps] w fun en w' => en = .returned (.agg #[.bool (pullL c l f).b0, .bool (pullL c l f).b1, .bool (pullL c l f).b2, .bool (pullL c l f).b3, .int .i64 (pullL c l f).prev.e, .int .u64 (pullL c l f).prev.r, .int .i64 (pullL c l f).cur.e, .int .u64 (pullL c l f).cur.r, .int .i64 (pullL c l f).fin.e, .int .u64 (pullL c l f).fin.r]) ∧ Below w.heap.size w w' := by
 obtain ⟨q0, q1, q2, hbw, hsz⟩ := alloc3 w (.cells #[.slice A c.bal.length k, .int .i64 c.slots, .int .i64 c.boost] 27) (.cells #[.bool l.j.b0, .bool l.j.b1, .bool l.j.b2, .bool l.j.b3, .int .i64 l.j.prev.e, .int .u64 l.j.prev.r, .int .i64 l.j.cur.e, .int .u64 l.j.cur.r, .int .i64 l.j.fin.e, .int .u64 l.j.fin.r, .int .i64 l.epoch, .slice A1 l.before.length k1, .slice A2 l.now.length k2] 99) (.cells #[.bool Js.zero.b0, .bool Js.zero.b1, .bool Js.zero.b2, .bool Js.zero.b3, .int .i64 Js.zero.prev.e, .int .u64 Js.zero.prev.r, .int .i64 Js.zero.cur.e, .int .u64 Js.zero.cur.r, .int .i64 Js.zero.fin.e, .int .u64 Js.zero.fin.r] 96)
 have hb1 := hb.below hbw
 have hr1 := hr.below hbw
 have h1 := h.below hbw
 have he0 := hl.e0
 have he1 := hl.e1
 simp only [Js.zero, Pt.zero] at q0 q1 q2 hbw hsz hb1 hr1 h1
 clear hb hr h
 go_enter Tryz.func54, Tryz.ntmps54
 go_upto_region 1 with fail
 generalize World.alloc (World.alloc (World.alloc w _) _) _ = W0 at q0 q1 q2 hbw hsz hb1 hr1 h1 ⊢
 generalize hB : w.heap.size = B at q0 q1 q2 hbw hsz ⊢
 have HB := Lib.hid hB
 have hBw : w.heap.size ≤ B := by omega
 clear hB
 have h10 := blk_cell q1 10
 by_cases hlt : l.epoch < 2
 ·have HP : Hid (pullL c l f = l.j) := by show _ = _; rw [pullL, if_pos hlt]
  go_wp2_with (first
   | (refine wpList_loadP rfl 96 (.tmp 13) rfl (B + 1) 0 [.bool l.j.b0, .bool l.j.b1, .bool l.j.b2, .bool l.j.b3, .int .i64 l.j.prev.e, .int .u64 l.j.prev.r, .int .i64 l.j.cur.e, .int .u64 l.j.cur.r, .int .i64 l.j.fin.e, .int .u64 l.j.fin.r] _ q1 rfl rfl _ Tryz.underlying96 rfl iJs ?_)
   | (refine wpList_storeB rfl 96 (.tmp 6) (.tmp 14) rfl (B + 1 + 1) _ [.bool l.j.b0, .bool l.j.b1, .bool l.j.b2, .bool l.j.b3, .int .i64 l.j.prev.e, .int .u64 l.j.prev.r, .int .i64 l.j.cur.e, .int .u64 l.j.cur.r, .int .i64 l.j.fin.e, .int .u64 l.j.fin.r] q2 rfl rfl rfl iJs rfl ?_; intro W1 hR hx1 hs1))
  refine bodyPost_ret (results_cellB rfl _ (B + 1 + 1) _ hR rfl _ Tryz.underlying96 rfl iJs) rfl ⟨?_, ?_⟩
  ·rw [HP.out]
  ·rw [HB.out]
   exact hbw.trans (hx1.below (by omega) (fun i hi e => by omega))
 ·have HP : Hid (pullL c l f = nextJ l.j l.epoch (enough (sumW c.bal (whoL l.before)) (totalW c)) (enough (sumW c.bal (whoL l.now)) (totalW c)) (pointL c (l.epoch - 1) f) (pointL c l.epoch f)) := by show _ = _; rw [pullL, if_neg hlt]
  obtain ⟨c0, c1, c2⟩ := cs3 q0
  go_upto_region 4 with (go_at_call 72; refine (Total_calls _ c A k hok hb1).mono ?_; rintro e W1 ⟨rfl, hbT⟩)
  have hT := totalW_bd hok
  have hB3 : B + 1 + 1 < W0.heap.size := blk_lt q2
  have q0 := blk_below q0 hbT
  have q1 := blk_below q1 hbT
  have q2 := blk_below q2 hbT
  have hb1 := hb1.below hbT
  have hr1 := hr1.below hbT
  have h1 := h1.below hbT
  have hbw := hbw.trans (hbT.mono (by omega))
  clear hbT c0 c1 c2
  have hwb := whoL_le l.before
  have hwn := whoL_le l.now
  have hib := whoL_inI l.before (by rw [hl.b]; exact hok.l2)
  have hin := whoL_inI l.now (by rw [hl.n]; exact hok.l2)
  have hlb : l.before.length ≤ 4096 := by rw [hl.b]; exact hok.l2
  have hln : l.now.length ≤ 4096 := by rw [hl.n]; exact hok.l2
  have cW := fun (W : World) (hW : Below W1.heap.size W1 W) => who_calls W A1 k1 l.before (hr1.b.below hW) hlb
  have cW2 := fun (W : World) (hW : Below W1.heap.size W1 W) => who_calls W A2 k2 l.now (hr1.n.below hW) hln
  have cS := fun (W : World) (hW : Below W1.heap.size W1 W) (A' : Option Addr) (k' : Nat) hi => Sum_calls W c A k A' k' (whoL l.before) hok (hb1.below hW) hi hib (by omega)
  have cS2 := fun (W : World) (hW : Below W1.heap.size W1 W) (A' : Option Addr) (k' : Nat) hi => Sum_calls W c A k A' k' (whoL l.now) hok (hb1.below hW) hi hin (by omega)
  have sb := sumW_bd hok (whoL l.before)
  have sn := sumW_bd hok (whoL l.now)
  have cE := fun W => Enough_calls W (sumW c.bal (whoL l.before)) (totalW c) sb.1 (by omega) hT.1 (by omega)
  have cE2 := fun W => Enough_calls W (sumW c.bal (whoL l.now)) (totalW c) sn.1 (by omega) hT.1 (by omega)
  have cP := fun (W : World) (hW : Below W1.heap.size W1 W) => point_calls W c A k (l.epoch - 1) g caps f hok (by unfold inI; omega) (by omega) (h1.below hW)
  have cP2 := fun (W : World) (hW : Below W1.heap.size W1 W) => point_calls W c A k l.epoch g caps f hok (by unfold inI; omega) (by omega) (h1.below hW)
  have cN := fun (W : World) (x y : Bool) (p q : Pt) => Next_calls W l.j l.epoch x y p q hl.j
  have KB : ∀ W, Below W1.heap.size W1 W → (W.cell? ⟨B, 0, none⟩ = some (.slice A c.bal.length k) ∧ W.cell? ⟨B, 1, none⟩ = some (.int .i64 c.slots) ∧ W.cell? ⟨B, 2, none⟩ = some (.int .i64 c.boost)) ∧ W.cell? ⟨B + 1, 11, none⟩ = some (.slice A1 l.before.length k1) := fun W hW => by
   obtain ⟨x0, x1, x2⟩ := cs3 (blk_below q0 hW)
   exact ⟨⟨x0, x1, x2⟩, blk_cell (blk_below q1 hW) 11⟩
  clear hwb hwn hib hin hlb hln hr1 sb sn hT hb1 h1
  generalize enough (sumW c.bal (whoL l.before)) (totalW c) = EB at cE HP
  generalize enough (sumW c.bal (whoL l.now)) (totalW c) = EN at cE2 HP
  generalize totalW c = T at cE cE2
  generalize sumW c.bal (whoL l.before) = SB at cE cS
  generalize sumW c.bal (whoL l.now) = SN at cE2 cS2
  go_cut [8] (fun v w' => v = .bool EB ∧ Below W1.heap.size W1 w')
  case first =>
   go_region_held3 (fun w' => (w'.cell? ⟨B, 0, none⟩ = some (.slice A c.bal.length k) ∧ w'.cell? ⟨B, 1, none⟩ = some (.int .i64 c.slots) ∧ w'.cell? ⟨B, 2, none⟩ = some (.int .i64 c.boost)) ∧ w'.cell? ⟨B + 1, 11, none⟩ = some (.slice A1 l.before.length k1)) (first | exact KB _ (Below.refl _ _).drew | exact KB _ (by assumption))
    (first
      | (go_at_call 75; refine (cW _ (Below.refl _ _).drew).mono ?_; rintro e w2 ⟨A', c', rfl, hi, hb2'⟩; have hb2 := undrew hb2')
      | (go_at_call 74; refine (cS _ hb2 A' c' hi.any).mono ?_; rintro e w3 ⟨rfl, hb3'⟩; have hb3 := below_trans hb2 hb3')
      | (go_at_call 73; refine (cE _).mono ?_; rintro e w4 ⟨rfl, rfl⟩))
   go_wp2
   go_meet
   case rel => exact ⟨rfl, by assumption⟩
  case rest =>
   obtain ⟨rfl, hb4⟩ := hcut
   obtain ⟨W5, rfl⟩ : ∃ W5 : World, W5 = wc := ⟨_, rfl⟩
   have KN : ∀ W, Below W1.heap.size W1 W → (W.cell? ⟨B, 0, none⟩ = some (.slice A c.bal.length k) ∧ W.cell? ⟨B, 1, none⟩ = some (.int .i64 c.slots) ∧ W.cell? ⟨B, 2, none⟩ = some (.int .i64 c.boost)) ∧ W.cell? ⟨B + 1, 12, none⟩ = some (.slice A2 l.now.length k2) := fun W hW => by
    obtain ⟨x0, x1, x2⟩ := cs3 (blk_below q0 hW)
    exact ⟨⟨x0, x1, x2⟩, blk_cell (blk_below q1 hW) 12⟩
   have hd5 : Below W1.heap.size W1 W5.drew := hb4.drew
   clear KB
   go_upto_region 5 with fail
   go_cut [9] (fun v w' => v = .bool EN ∧ Below W1.heap.size W1 w')
   case first =>
    go_region_held3 (fun w' => (w'.cell? ⟨B, 0, none⟩ = some (.slice A c.bal.length k) ∧ w'.cell? ⟨B, 1, none⟩ = some (.int .i64 c.slots) ∧ w'.cell? ⟨B, 2, none⟩ = some (.int .i64 c.boost)) ∧ w'.cell? ⟨B + 1, 12, none⟩ = some (.slice A2 l.now.length k2)) (exact KN _ (by assumption))
     (first
       | (go_at_call 75; refine (cW2 _ hd5).mono ?_; rintro e w2 ⟨A', c', rfl, hi, hb2'⟩; have hb2 := hd5.trans (hb2'.mono hd5.size))
       | (go_at_call 74; refine (cS2 _ hb2 A' c' hi.any).mono ?_; rintro e w3 ⟨rfl, hb3'⟩; have hb3 := below_trans hb2 hb3')
       | (go_at_call 73; refine (cE2 _).mono ?_; rintro e w4 ⟨rfl, rfl⟩))
    go_wp2
    go_meet
    case rel => exact ⟨rfl, by assumption⟩
   case rest =>
    obtain ⟨rfl, hb6⟩ := hcut
    obtain ⟨W6, rfl⟩ : ∃ W6 : World, W6 = wc := ⟨_, rfl⟩
    clear hd5 hb4 KN cW cW2 cS cS2 cE cE2
    have hd6 : Below W1.heap.size W1 W6.drew := hb6.drew
    have tok : True := trivial
    have hw1 : IntKind.i64.wrap (l.epoch - 1) = l.epoch - 1 := IntWalk.i64_in _ (by omega)
    have KJ : ∀ W, Below W1.heap.size W1 W → (W.cell? ⟨B, 0, none⟩ = some (.slice A c.bal.length k) ∧ W.cell? ⟨B, 1, none⟩ = some (.int .i64 c.slots) ∧ W.cell? ⟨B, 2, none⟩ = some (.int .i64 c.boost)) ∧ (W.cell? ⟨B + 1, 0, none⟩ = some (.bool l.j.b0) ∧ W.cell? ⟨B + 1, 1, none⟩ = some (.bool l.j.b1) ∧ W.cell? ⟨B + 1, 2, none⟩ = some (.bool l.j.b2) ∧ W.cell? ⟨B + 1, 3, none⟩ = some (.bool l.j.b3) ∧ W.cell? ⟨B + 1, 4, none⟩ = some (.int .i64 l.j.prev.e) ∧ W.cell? ⟨B + 1, 5, none⟩ = some (.int .u64 l.j.prev.r) ∧ W.cell? ⟨B + 1, 6, none⟩ = some (.int .i64 l.j.cur.e) ∧ W.cell? ⟨B + 1, 7, none⟩ = some (.int .u64 l.j.cur.r) ∧ W.cell? ⟨B + 1, 8, none⟩ = some (.int .i64 l.j.fin.e) ∧ W.cell? ⟨B + 1, 9, none⟩ = some (.int .u64 l.j.fin.r) ∧ W.cell? ⟨B + 1, 10, none⟩ = some (.int .i64 l.epoch) ∧ W.cell? ⟨B + 1, 11, none⟩ = some (.slice A1 l.before.length k1) ∧ W.cell? ⟨B + 1, 12, none⟩ = some (.slice A2 l.now.length k2)) := fun W hW => by
     exact ⟨cs3 (blk_below q0 hW), cs13 (blk_below q1 hW)⟩
    have KE : ∀ {W W' : World}, Below W1.heap.size W1 W → Ext (fun i => i = B + 1 + 1) W W' → (W'.cell? ⟨B, 0, none⟩ = some (.slice A c.bal.length k) ∧ W'.cell? ⟨B, 1, none⟩ = some (.int .i64 c.slots) ∧ W'.cell? ⟨B, 2, none⟩ = some (.int .i64 c.boost)) ∧ (W'.cell? ⟨B + 1, 0, none⟩ = some (.bool l.j.b0) ∧ W'.cell? ⟨B + 1, 1, none⟩ = some (.bool l.j.b1) ∧ W'.cell? ⟨B + 1, 2, none⟩ = some (.bool l.j.b2) ∧ W'.cell? ⟨B + 1, 3, none⟩ = some (.bool l.j.b3) ∧ W'.cell? ⟨B + 1, 4, none⟩ = some (.int .i64 l.j.prev.e) ∧ W'.cell? ⟨B + 1, 5, none⟩ = some (.int .u64 l.j.prev.r) ∧ W'.cell? ⟨B + 1, 6, none⟩ = some (.int .i64 l.j.cur.e) ∧ W'.cell? ⟨B + 1, 7, none⟩ = some (.int .u64 l.j.cur.r) ∧ W'.cell? ⟨B + 1, 8, none⟩ = some (.int .i64 l.j.fin.e) ∧ W'.cell? ⟨B + 1, 9, none⟩ = some (.int .u64 l.j.fin.r) ∧ W'.cell? ⟨B + 1, 10, none⟩ = some (.int .i64 l.epoch) ∧ W'.cell? ⟨B + 1, 11, none⟩ = some (.slice A1 l.before.length k1) ∧ W'.cell? ⟨B + 1, 12, none⟩ = some (.slice A2 l.now.length k2)) := fun hW hx => by
     exact ⟨cs3 (blk_ext (blk_below q0 hW) hx (by omega)), cs13 (blk_ext (blk_below q1 hW) hx (by omega))⟩
    generalize pointL c (l.epoch - 1) f = P1 at cP HP
    generalize pointL c l.epoch f = P2 at cP2 HP
    have cN := fun W => cN W EB EN P1 P2
    generalize hNJ : nextJ l.j l.epoch EB EN P1 P2 = NJ at cN HP
    clear hNJ
    go_upto_region 6 with fail
    go_region_held3 (fun w' => (w'.cell? ⟨B, 0, none⟩ = some (.slice A c.bal.length k) ∧ w'.cell? ⟨B, 1, none⟩ = some (.int .i64 c.slots) ∧ w'.cell? ⟨B, 2, none⟩ = some (.int .i64 c.boost)) ∧ (w'.cell? ⟨B + 1, 0, none⟩ = some (.bool l.j.b0) ∧ w'.cell? ⟨B + 1, 1, none⟩ = some (.bool l.j.b1) ∧ w'.cell? ⟨B + 1, 2, none⟩ = some (.bool l.j.b2) ∧ w'.cell? ⟨B + 1, 3, none⟩ = some (.bool l.j.b3) ∧ w'.cell? ⟨B + 1, 4, none⟩ = some (.int .i64 l.j.prev.e) ∧ w'.cell? ⟨B + 1, 5, none⟩ = some (.int .u64 l.j.prev.r) ∧ w'.cell? ⟨B + 1, 6, none⟩ = some (.int .i64 l.j.cur.e) ∧ w'.cell? ⟨B + 1, 7, none⟩ = some (.int .u64 l.j.cur.r) ∧ w'.cell? ⟨B + 1, 8, none⟩ = some (.int .i64 l.j.fin.e) ∧ w'.cell? ⟨B + 1, 9, none⟩ = some (.int .u64 l.j.fin.r) ∧ w'.cell? ⟨B + 1, 10, none⟩ = some (.int .i64 l.epoch) ∧ w'.cell? ⟨B + 1, 11, none⟩ = some (.slice A1 l.before.length k1) ∧ w'.cell? ⟨B + 1, 12, none⟩ = some (.slice A2 l.now.length k2))) (first | (with_reducible exact KJ _ (by assumption)) | exact KE hb4 (((((((((((Ext.refl _ _).set1).set1).set1).set1).set1).set1).set1).set1).set1).set1))
     (first
       | (go_at_call 77; have _t := tok; refine (cP _ hd6).mono ?_; rintro e w2 ⟨rfl, hb2'⟩; have hb2 := hd6.trans (hb2'.mono hd6.size); clear _t tok)
       | (go_at_call 77; refine (cP2 _ hb2).mono ?_; rintro e w3 ⟨rfl, hb3'⟩; have hb3 := below_trans hb2 hb3')
       | (go_at_call 76; refine (cN _).mono ?_; rintro e w4 ⟨rfl, hb4'⟩; have hb4 := below_trans hb3 hb4'; have hR := blk_below q2 hb4; obtain ⟨r0, r1, r2, r3, r4, r5, r6, r7, r8, r9⟩ := cs10 hR; have z := blk_frozen hR; have z0 := z 0; have z1 := z 1; have z2 := z 2; have z3 := z 3; have z4 := z 4; have z5 := z 5; have z6 := z 6; have z7 := z 7; have z8 := z 8; have z9 := z 9; clear z))
    go_wp2
    have hF := blk_setAll hR [.bool NJ.b0, .bool NJ.b1, .bool NJ.b2, .bool NJ.b3, .int .i64 NJ.prev.e, .int .u64 NJ.prev.r, .int .i64 NJ.cur.e, .int .u64 NJ.cur.r, .int .i64 NJ.fin.e, .int .u64 NJ.fin.r] rfl
    have hX := (((((((((((Ext.refl (fun i => i = B + 1 + 1) w4).set1 (o := 0) (u := .bool NJ.b0)).set1 (o := 1) (u := .bool NJ.b1)).set1 (o := 2) (u := .bool NJ.b2)).set1 (o := 3) (u := .bool NJ.b3)).set1 (o := 4) (u := .int .i64 NJ.prev.e)).set1 (o := 5) (u := .int .u64 NJ.prev.r)).set1 (o := 6) (u := .int .i64 NJ.cur.e)).set1 (o := 7) (u := .int .u64 NJ.cur.r)).set1 (o := 8) (u := .int .i64 NJ.fin.e)).set1 (o := 9) (u := .int .u64 NJ.fin.r))
    simp only [World.setCells, Nat.zero_add, Nat.reduceAdd] at hF
    generalize World.setCell (World.setCell (World.setCell (World.setCell (World.setCell (World.setCell (World.setCell (World.setCell (World.setCell (World.setCell w4 _ _) _ _) _ _) _ _) _ _) _ _) _ _) _ _) _ _) _ _ = W9 at hF hX ⊢
    refine bodyPost_ret (results_cellB rfl _ (B + 1 + 1) _ hF rfl _ Tryz.underlying96 rfl iJs) rfl ⟨?_, ?_⟩
    ·rw [HP.out]
    ·rw [HB.out]
     exact (hbw.trans (hb4.mono (by have := blk_lt q2; omega))).trans (hX.below (by have := blk_lt hR; omega) (fun i hi e => by omega))
end Go.Proofs.YtnppimhlfcjghaaGreat
