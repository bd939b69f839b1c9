/- justify.Next. -/
import Derived.Test.YtnppimhlfcjghaaVote2
import Derived.Test.YtnppimhlfcjghaaLatest
import Derived.Deep.Cut
import Derived.Deep.CutBlock
import Derived.BigRegion
namespace Go.Proofs.Ytnppimhlfcjghaa
open Go.RowKit
set_option maxRecDepth 100000
set_option maxHeartbeats 4000000
theorem cs2 {w : World} {b : Nat} {T : TypeId} {f : Nat × Nat} {a0 a1 : Value} (h : w.heap[b]? = some (.cells #[a0, a1] T f)) : w.cell? ⟨b, 0, none⟩ = some a0 ∧ w.cell? ⟨b, 1, none⟩ = some a1 :=
  ⟨blk_cell h 0, blk_cell h 1⟩
theorem cs3 {w : World} {b : Nat} {T : TypeId} {f : Nat × Nat} {a0 a1 a2 : Value} (h : w.heap[b]? = some (.cells #[a0, a1, a2] T f)) : w.cell? ⟨b, 0, none⟩ = some a0 ∧ w.cell? ⟨b, 1, none⟩ = some a1 ∧ w.cell? ⟨b, 2, none⟩ = some a2 :=
  ⟨blk_cell h 0, blk_cell h 1, blk_cell h 2⟩
theorem cs4 {w : World} {b : Nat} {T : TypeId} {f : Nat × Nat} {a0 a1 a2 a3 : Value} (h : w.heap[b]? = some (.cells #[a0, a1, a2, a3] T f)) : w.cell? ⟨b, 0, none⟩ = some a0 ∧ w.cell? ⟨b, 1, none⟩ = some a1 ∧ w.cell? ⟨b, 2, none⟩ = some a2 ∧ w.cell? ⟨b, 3, none⟩ = some a3 :=
  ⟨blk_cell h 0, blk_cell h 1, blk_cell h 2, blk_cell h 3⟩
theorem cs7 {w : World} {b : Nat} {T : TypeId} {f : Nat × Nat} {a0 a1 a2 a3 a4 a5 a6 : Value} (h : w.heap[b]? = some (.cells #[a0, a1, a2, a3, a4, a5, a6] T f)) : w.cell? ⟨b, 0, none⟩ = some a0 ∧ w.cell? ⟨b, 1, none⟩ = some a1 ∧ w.cell? ⟨b, 2, none⟩ = some a2 ∧ w.cell? ⟨b, 3, none⟩ = some a3 ∧ w.cell? ⟨b, 4, none⟩ = some a4 ∧ w.cell? ⟨b, 5, none⟩ = some a5 ∧ w.cell? ⟨b, 6, none⟩ = some a6 :=
  ⟨blk_cell h 0, blk_cell h 1, blk_cell h 2, blk_cell h 3, blk_cell h 4, blk_cell h 5, blk_cell h 6⟩
theorem cs10 {w : World} {b : Nat} {T : TypeId} {f : Nat × Nat} {a0 a1 a2 a3 a4 a5 a6 a7 a8 a9 : Value} (h : w.heap[b]? = some (.cells #[a0, a1, a2, a3, a4, a5, a6, a7, a8, a9] T f)) : w.cell? ⟨b, 0, none⟩ = some a0 ∧ w.cell? ⟨b, 1, none⟩ = some a1 ∧ w.cell? ⟨b, 2, none⟩ = some a2 ∧ w.cell? ⟨b, 3, none⟩ = some a3 ∧ w.cell? ⟨b, 4, none⟩ = some a4 ∧ w.cell? ⟨b, 5, none⟩ = some a5 ∧ w.cell? ⟨b, 6, none⟩ = some a6 ∧ w.cell? ⟨b, 7, none⟩ = some a7 ∧ w.cell? ⟨b, 8, none⟩ = some a8 ∧ w.cell? ⟨b, 9, none⟩ = some a9 :=
  ⟨blk_cell h 0, blk_cell h 1, blk_cell h 2, blk_cell h 3, blk_cell h 4, blk_cell h 5, blk_cell h 6, blk_cell h 7, blk_cell h 8, blk_cell h 9⟩
theorem cs13 {w : World} {b : Nat} {T : TypeId} {f : Nat × Nat} {a0 a1 a2 a3 a4 a5 a6 a7 a8 a9 a10 a11 a12 : Value} (h : w.heap[b]? = some (.cells #[a0, a1, a2, a3, a4, a5, a6, a7, a8, a9, a10, a11, a12] T f)) : w.cell? ⟨b, 0, none⟩ = some a0 ∧ w.cell? ⟨b, 1, none⟩ = some a1 ∧ w.cell? ⟨b, 2, none⟩ = some a2 ∧ w.cell? ⟨b, 3, none⟩ = some a3 ∧ w.cell? ⟨b, 4, none⟩ = some a4 ∧ w.cell? ⟨b, 5, none⟩ = some a5 ∧ w.cell? ⟨b, 6, none⟩ = some a6 ∧ w.cell? ⟨b, 7, none⟩ = some a7 ∧ w.cell? ⟨b, 8, none⟩ = some a8 ∧ w.cell? ⟨b, 9, none⟩ = some a9 ∧ w.cell? ⟨b, 10, none⟩ = some a10 ∧ w.cell? ⟨b, 11, none⟩ = some a11 ∧ w.cell? ⟨b, 12, none⟩ = some a12 :=
  ⟨blk_cell h 0, blk_cell h 1, blk_cell h 2, blk_cell h 3, blk_cell h 4, blk_cell h 5, blk_cell h 6, blk_cell h 7, blk_cell h 8, blk_cell h 9, blk_cell h 10, blk_cell h 11, blk_cell h 12⟩
def finF (now x1 x2 x3 e1 e2 e3 e4 : Bool) (cu pr fi : Pt) : Pt := if now && x1 && e1 then cu else if now && x1 && x2 && e2 then cu else if x1 && x2 && e3 then pr else if x1 && x2 && x3 && e4 then pr else fi
section
variable {now x1 x2 x3 e1 e2 e3 e4 : Bool} {cu pr fi : Pt}
theorem finL1 (h0 : now = true) (h1 : x1 = true) (h2 : e1 = true) : finF now x1 x2 x3 e1 e2 e3 e4 cu pr fi = cu := by
  simp_all [finF]
theorem finL2 (h0 : now = true) (h1 : x1 = true) (h2 : e1 = false) (h3 : x2 = true) (h4 : e2 = true) : finF now x1 x2 x3 e1 e2 e3 e4 cu pr fi = cu := by
  simp_all [finF]
theorem finL3 (h0 : now = true) (h1 : x1 = true) (h2 : e1 = false) (h3 : x2 = true) (h4 : e2 = false) (h5 : e3 = true) : finF now x1 x2 x3 e1 e2 e3 e4 cu pr fi = pr := by
  simp_all [finF]
theorem finL4 (h0 : now = true) (h1 : x1 = true) (h2 : e1 = false) (h3 : x2 = true) (h4 : e2 = false) (h5 : e3 = false) (h6 : x3 = true) (h7 : e4 = true) : finF now x1 x2 x3 e1 e2 e3 e4 cu pr fi = pr := by
  simp_all [finF]
theorem finL5 (h0 : now = true) (h1 : x1 = true) (h2 : e1 = false) (h3 : x2 = true) (h4 : e2 = false) (h5 : e3 = false) (h6 : x3 = true) (h7 : e4 = false) : finF now x1 x2 x3 e1 e2 e3 e4 cu pr fi = fi := by
  simp_all [finF]
theorem finL6 (h0 : now = true) (h1 : x1 = true) (h2 : e1 = false) (h3 : x2 = true) (h4 : e2 = false) (h5 : e3 = false) (h6 : ¬ x3 = true) : finF now x1 x2 x3 e1 e2 e3 e4 cu pr fi = fi := by
  simp_all [finF]
theorem finL7 (h0 : now = true) (h1 : x1 = true) (h2 : e1 = false) (h3 : ¬ x2 = true) : finF now x1 x2 x3 e1 e2 e3 e4 cu pr fi = fi := by
  simp_all [finF]
theorem finL8 (h0 : now = true) (h1 : ¬ x1 = true) : finF now x1 x2 x3 e1 e2 e3 e4 cu pr fi = fi := by
  simp_all [finF]
theorem finL9 (h0 : ¬ now = true) (h1 : x1 = true) (h2 : x2 = true) (h3 : e3 = true) : finF now x1 x2 x3 e1 e2 e3 e4 cu pr fi = pr := by
  simp_all [finF]
theorem finL10 (h0 : ¬ now = true) (h1 : x1 = true) (h2 : x2 = true) (h3 : e3 = false) (h4 : x3 = true) (h5 : e4 = true) : finF now x1 x2 x3 e1 e2 e3 e4 cu pr fi = pr := by
  simp_all [finF]
theorem finL11 (h0 : ¬ now = true) (h1 : x1 = true) (h2 : x2 = true) (h3 : e3 = false) (h4 : x3 = true) (h5 : e4 = false) : finF now x1 x2 x3 e1 e2 e3 e4 cu pr fi = fi := by
  simp_all [finF]
theorem finL12 (h0 : ¬ now = true) (h1 : x1 = true) (h2 : x2 = true) (h3 : e3 = false) (h4 : ¬ x3 = true) : finF now x1 x2 x3 e1 e2 e3 e4 cu pr fi = fi := by
  simp_all [finF]
theorem finL13 (h0 : ¬ now = true) (h1 : x1 = true) (h2 : ¬ x2 = true) : finF now x1 x2 x3 e1 e2 e3 e4 cu pr fi = fi := by
  simp_all [finF]
theorem finL14 (h0 : ¬ now = true) (h1 : ¬ x1 = true) : finF now x1 x2 x3 e1 e2 e3 e4 cu pr fi = fi := by
  simp_all [finF]
end
def JsB (s : Js) : Prop := (0 ≤ s.prev.e ∧ s.prev.e ≤ 1099511627776) ∧ (0 ≤ s.cur.e ∧ s.cur.e ≤ 1099511627776) ∧ (0 ≤ s.fin.e ∧ s.fin.e ≤ 1099511627776)
theorem iJs : (Try.prog.info? 84).map (·.size) = some 10 := by kernel_rfl
theorem zJs (W : World) : (zeroValue 84).run Try.prog W = .ok (.agg #[.bool Js.zero.b0, .bool Js.zero.b1, .bool Js.zero.b2, .bool Js.zero.b3, .int .i64 Js.zero.prev.e, .int .u64 Js.zero.prev.r, .int .i64 Js.zero.cur.e, .int .u64 Js.zero.cur.r, .int .i64 Js.zero.fin.e, .int .u64 Js.zero.fin.r]) W := by kernel_rfl
theorem alloc2 (w : World) (o1 o2 : Obj) : ((w.alloc o1).alloc o2).heap[w.heap.size]? = some o1 ∧ ((w.alloc o1).alloc o2).heap[w.heap.size + 1]? = some o2 ∧ Below w.heap.size w ((w.alloc o1).alloc o2) ∧ ((w.alloc o1).alloc o2).heap.size = w.heap.size + 1 + 1 :=
  ⟨blk_below (heap_new w o1) (below_alloc (Below.refl _ _) _), heap_new1 w _ _, below_alloc (below_alloc (Below.refl _ _) _) _, by simp⟩
theorem alloc3 (w : World) (o1 o2 o3 : Obj) : (((w.alloc o1).alloc o2).alloc o3).heap[w.heap.size]? = some o1 ∧ (((w.alloc o1).alloc o2).alloc o3).heap[w.heap.size + 1]? = some o2 ∧ (((w.alloc o1).alloc o2).alloc o3).heap[w.heap.size + 1 + 1]? = some o3 ∧ Below w.heap.size w (((w.alloc o1).alloc o2).alloc o3) ∧ (((w.alloc o1).alloc o2).alloc o3).heap.size = w.heap.size + 1 + 1 + 1 := by
  obtain ⟨h1, h2, h3, h4⟩ := alloc2 w o1 o2
  have hb := below_alloc (Below.refl _ ((w.alloc o1).alloc o2)) o3
  refine ⟨blk_below h1 hb, blk_below h2 hb, ?_, below_alloc h3 _, by simp⟩
  rw [← h4]; exact heap_new _ _
theorem alloc4 (w : World) (o1 o2 o3 o4 : Obj) : ((((w.alloc o1).alloc o2).alloc o3).alloc o4).heap[w.heap.size]? = some o1 ∧ ((((w.alloc o1).alloc o2).alloc o3).alloc o4).heap[w.heap.size + 1]? = some o2 ∧ ((((w.alloc o1).alloc o2).alloc o3).alloc o4).heap[w.heap.size + 1 + 1]? = some o3 ∧ ((((w.alloc o1).alloc o2).alloc o3).alloc o4).heap[w.heap.size + 1 + 1 + 1]? = some o4 ∧ Below w.heap.size w ((((w.alloc o1).alloc o2).alloc o3).alloc o4) ∧ ((((w.alloc o1).alloc o2).alloc o3).alloc o4).heap.size = w.heap.size + 1 + 1 + 1 + 1 := by
  obtain ⟨h1, h2, h3, h4, h5⟩ := alloc3 w o1 o2 o3
  have hb := below_alloc (Below.refl _ (((w.alloc o1).alloc o2).alloc o3)) o4
  refine ⟨blk_below h1 hb, blk_below h2 hb, blk_below h3 hb, ?_, below_alloc h4 _, by simp⟩
  rw [← h5]; exact heap_new _ _
theorem Next_calls (w : World) (s : Js) (ep : Int) (before now : Bool) (p q : Pt) (hs : JsB s) :
    Calls Try.prog 54 #[.agg #[.bool s.b0, .bool s.b1, .bool s.b2, .bool s.b3, .int .i64 s.prev.e, .int .u64 s.prev.r, .int .i64 s.cur.e, .int .u64 s.cur.r, .int .i64 s.fin.e, .int .u64 s.fin.r], .int .i64 ep, .bool before, .bool now, .agg #[.int .i64 p.e, .int .u64 p.r], .agg #[.int .i64 q.e, .int .u64 q.r]] w fun e w' => e = .returned (.agg #[.bool (nextJ s ep before now p q).b0, .bool (nextJ s ep before now p q).b1, .bool (nextJ s ep before now p q).b2, .bool (nextJ s ep before now p q).b3, .int .i64 (nextJ s ep before now p q).prev.e, .int .u64 (nextJ s ep before now p q).prev.r, .int .i64 (nextJ s ep before now p q).cur.e, .int .u64 (nextJ s ep before now p q).cur.r, .int .i64 (nextJ s ep before now p q).fin.e, .int .u64 (nextJ s ep before now p q).fin.r]) ∧ Below w.heap.size w w' := by
  obtain ⟨q0, q1, q2, q3, hb, hsz⟩ := alloc4 w (.cells #[.bool s.b0, .bool s.b1, .bool s.b2, .bool s.b3, .int .i64 s.prev.e, .int .u64 s.prev.r, .int .i64 s.cur.e, .int .u64 s.cur.r, .int .i64 s.fin.e, .int .u64 s.fin.r] 84) (.cells #[.int .i64 p.e, .int .u64 p.r] 47) (.cells #[.int .i64 q.e, .int .u64 q.r] 47) (.cells #[.bool Js.zero.b0, .bool Js.zero.b1, .bool Js.zero.b2, .bool Js.zero.b3, .int .i64 Js.zero.prev.e, .int .u64 Js.zero.prev.r, .int .i64 Js.zero.cur.e, .int .u64 Js.zero.cur.r, .int .i64 Js.zero.fin.e, .int .u64 Js.zero.fin.r] 84)
  go_enter Try.func54, Try.ntmps54
  go_wp2
  generalize hW : World.alloc (World.alloc (World.alloc (World.alloc w _) _) _) _ = W0
  simp only [Js.zero, Pt.zero] at q0 q1 q2 q3 hb hsz
  rw [hW] at q0 q1 q2 q3 hb hsz
  clear hW
  have hsz' := Lib.hid hsz
  clear hsz
  generalize hB : w.heap.size = B at q0 q1 q2 q3 hb hsz' ⊢
  have HB := Lib.hid hB
  clear hB
  obtain ⟨c0, c1, c2, c3, c4, c5, c6, c7, c8, c9⟩ := cs10 q0
  have HH := Lib.hid hb
  clear hb
  go_cut [13, 14] (fun u v w' => ∃ a b, u = .pointer (some ⟨a, 0, none⟩) ∧ v = .pointer (some ⟨b, 0, none⟩) ∧ w'.heap[a]? = some (.cells #[.int .i64 s.cur.e, .int .u64 s.cur.r] 47 (0, 0)) ∧ w'.heap[b]? = some (.cells #[.int .i64 s.prev.e, .int .u64 s.prev.r] 47 (0, 0)) ∧ Below W0.heap.size W0 w')
  case first =>
    have n4 := World.new_ne W0 ⟨B, 4, none⟩ c4
    have hlt := World.block_lt_of_cell? W0 ⟨B, 4, none⟩ c4
    simp only at hlt n4
    go_region_held3 (fun w' => w'.cell? ⟨B, 4, none⟩ = some (.int .i64 s.prev.e) ∧ w'.cell? ⟨B, 5, none⟩ = some (.int .u64 s.prev.r) ∧ w'.cell? ⟨B, 6, none⟩ = some (.int .i64 s.cur.e) ∧ w'.cell? ⟨B, 7, none⟩ = some (.int .u64 s.cur.r)) (first | exact ⟨c4, c5, c6, c7⟩ | go_keep | (simp [*, World.cell?_alloc_some, World.cell?_setCell_far]; omega)) (fail)
    all_goals
      go_wp2
      go_meet
      case rel =>
        first
          | exact ⟨_, _, rfl, rfl, (alloc2 W0 _ _).1, (alloc2 W0 _ _).2.1, (alloc2 W0 _ _).2.2.1.drew⟩
          | exact ⟨_, _, rfl, rfl, (alloc2 W0 _ _).2.1, (alloc2 W0 _ _).1, (alloc2 W0 _ _).2.2.1.drew⟩
  case rest =>
    obtain ⟨a, b, rfl, rfl, ha, hb, hw1⟩ := hcut
    obtain ⟨w1, rfl⟩ : ∃ w1 : World, w1 = wc := ⟨_, rfl⟩
    have r0 := blk_below q0 hw1
    have r1 := blk_below q1 hw1
    have r2 := blk_below q2 hw1
    have r3 := blk_below q3 hw1
    have HB1 : Below B w w1 := HH.out.trans (hw1.mono (by have h1 := hsz'.out; have h2 := HB.out; omega))
    have hBs : B < w1.heap.size := blk_lt r0
    clear q0 q1 q2 q3 c0 c1 c2 c3 c4 c5 c6 c7 c8 c9 hw1 hsz' HH
    obtain ⟨c0, c1, c2, c3, c4, c5, c6, c7, c8, c9⟩ := cs10 r0
    go_upto_region 4 with fail
    have HO := heap_new w1 (.cells #[.bool false, .bool s.b0, .bool s.b1, .bool s.b2, .int .i64 s.cur.e, .int .u64 s.cur.r, .int .i64 s.cur.e, .int .u64 s.cur.r, .int .i64 s.fin.e, .int .u64 s.fin.r] 84)
    have hbn := below_alloc (Below.refl w1.heap.size w1) (.cells #[.bool false, .bool s.b0, .bool s.b1, .bool s.b2, .int .i64 s.cur.e, .int .u64 s.cur.r, .int .i64 s.cur.e, .int .u64 s.cur.r, .int .i64 s.fin.e, .int .u64 s.fin.r] 84)
    have k1 := blk_below r1 hbn
    have k2 := blk_below r2 hbn
    have k3 := blk_below r3 hbn
    have ka := blk_below ha hbn
    have kb := blk_below hb hbn
    have HB2 : Below B w (w1.alloc (.cells #[.bool false, .bool s.b0, .bool s.b1, .bool s.b2, .int .i64 s.cur.e, .int .u64 s.cur.r, .int .i64 s.cur.e, .int .u64 s.cur.r, .int .i64 s.fin.e, .int .u64 s.fin.r] 84)) := HB1.trans (hbn.mono (by omega))
    have hBO : B + 1 + 1 + 1 < w1.heap.size := blk_lt r3
    have haO : a < w1.heap.size := blk_lt ha
    have hbO : b < w1.heap.size := blk_lt hb
    clear r0 r1 r2 r3 ha hb hbn c0 c1 c2 c3 c4 c5 c6 c7 c8 c9 HB1
    generalize World.alloc w1 _ = W2 at HO k1 k2 k3 ka kb HB2 ⊢
    generalize w1.heap.size = O at HO hBO haO hbO hBs ⊢
    obtain ⟨d0, d1, d2, d3, d4, d5, d6, d7, d8, d9⟩ := cs10 HO
    have g1 := cs2 k1
    have g2 := cs2 k2
    obtain ⟨g10, g11⟩ := g1
    obtain ⟨g20, g21⟩ := g2
    have f1 := blk_frozen HO 1
    have f6 := blk_frozen HO 6
    have f7 := blk_frozen HO 7
    go_upto_if 39 with fail
    go_cut [] (fun w' => w'.heap[O]? = some (.cells #[.bool false, .bool (before || s.b0), .bool s.b1, .bool s.b2, .int .i64 s.cur.e, .int .u64 s.cur.r, .int .i64 (if before then p else s.cur).e, .int .u64 (if before then p else s.cur).r, .int .i64 s.fin.e, .int .u64 s.fin.r] 84 (0, 0)) ∧ Ext (fun i => i = O) W2 w')
    case first =>
      go_wp2
      · go_meet
        case rel =>
          refine ⟨?_, ((Ext.refl (fun i => i = O) _).set1.set1).set1⟩
          have := blk_set (blk_set (blk_set HO 6 (.int .i64 p.e)) 7 (.int .u64 p.r)) 1 (.bool true)
          simpa [show before = true from by assumption] using this
      · go_meet
        case rel => exact ⟨by simpa [show before = false from by assumption] using HO, Ext.refl _ _⟩
    case rest =>
      obtain ⟨HO3, hx3⟩ := hcut
      obtain ⟨W3, rfl⟩ : ∃ W3 : World, W3 = wc := ⟨_, rfl⟩
      have l1 := blk_ext k1 hx3 (by omega)
      have l2 := blk_ext k2 hx3 (by omega)
      have l3 := blk_ext k3 hx3 (by omega)
      have la := blk_ext ka hx3 (by omega)
      have lb := blk_ext kb hx3 (by omega)
      have HB3 : Below B w W3 := HB2.trans (hx3.below (by have := blk_lt HO; omega) (fun i hi e => by omega))
      clear d0 d1 d2 d3 d4 d5 d6 d7 d8 d9 g10 g11 g20 g21 f1 f6 f7 HO k1 k2 k3 ka kb HB2 hx3
      obtain ⟨g20, g21⟩ := cs2 l2
      obtain ⟨d0, d1, d2, d3, d4, d5, d6, d7, d8, d9⟩ := cs10 HO3
      have f0 := blk_frozen HO3 0
      have f6 := blk_frozen HO3 6
      have f7 := blk_frozen HO3 7
      have eX : Hid ((if now then q else if before then p else s.cur) = (nextJ s ep before now p q).cur) := rfl
      generalize (if before = true then p else s.cur) = X at d6 d7 HO3 eX
      go_upto_if 44 with fail
      go_cut [] (fun w' => w'.heap[O]? = some (.cells #[.bool now, .bool (before || s.b0), .bool s.b1, .bool s.b2, .int .i64 s.cur.e, .int .u64 s.cur.r, .int .i64 (if now then q else X).e, .int .u64 (if now then q else X).r, .int .i64 s.fin.e, .int .u64 s.fin.r] 84 (0, 0)) ∧ Ext (fun i => i = O) W3 w')
      case first =>
        go_wp2
        · go_meet
          case rel =>
            refine ⟨?_, ((Ext.refl (fun i => i = O) _).set1.set1).set1⟩
            have := blk_set (blk_set (blk_set HO3 6 (.int .i64 q.e)) 7 (.int .u64 q.r)) 0 (.bool true)
            simpa [show now = true from by assumption] using this
        · go_meet
          case rel => exact ⟨by simpa [show now = false from by assumption] using HO3, Ext.refl _ _⟩
      case rest =>
        obtain ⟨HO4, hx4⟩ := hcut
        obtain ⟨W4, rfl⟩ : ∃ W4 : World, W4 = wc := ⟨_, rfl⟩
        have m3 := blk_ext l3 hx4 (by omega)
        have ma := blk_ext la hx4 (by omega)
        have mb := blk_ext lb hx4 (by omega)
        have HB4 : Below B w W4 := HB3.trans (hx4.below (by have := blk_lt HO3; omega) (fun i hi e => by omega))
        clear d0 d1 d2 d3 d4 d5 d6 d7 d8 d9 g20 g21 f0 f6 f7 HO3 l1 l2 l3 la lb HB3 hx4
        rw [eX.out] at HO4
        obtain ⟨d0, d1, d2, d3, d4, d5, d6, d7, d8, d9⟩ := cs10 HO4
        have f8 := blk_frozen HO4 8
        have f9 := blk_frozen HO4 9
        obtain ⟨a0, a1⟩ := cs2 ma
        obtain ⟨b0, b1⟩ := cs2 mb
        go_upto_block 0 with fail
        have eF : Hid ((nextJ s ep before now p q).fin = finF now (before || s.b0) s.b1 s.b2 (s.cur.e + 1 == ep) (s.cur.e + 2 == ep) (s.prev.e + 2 == ep) (s.prev.e + 3 == ep) s.cur s.prev s.fin) := rfl
        have eJ : Hid (nextJ s ep before now p q = ⟨now, before || s.b0, s.b1, s.b2, s.cur, (nextJ s ep before now p q).cur, (nextJ s ep before now p q).fin⟩) := rfl
        obtain ⟨s1, s2, s3⟩ := hs
        generalize hN : nextJ s ep before now p q = N at eF eJ HO4 d6 d7
        have HN0 := Lib.hid hN
        clear hN
        generalize s.cur = cu at *
        generalize s.prev = pr at *
        generalize s.fin = fi at *
        generalize (before || s.b0) = x1 at *
        generalize s.b1 = x2 at *
        generalize s.b2 = x3 at *
        have hbn := below_alloc (Below.refl W4.heap.size W4) (.cells #[.bool now, .bool x1, .bool x2, .bool x3] 82)
        have HN := heap_new W4 (.cells #[.bool now, .bool x1, .bool x2, .bool x3] 82)
        have n3 := blk_below m3 hbn
        have na := blk_below ma hbn
        have nb := blk_below mb hbn
        have nO := blk_below HO4 hbn
        have HB5 : Below B w (W4.alloc (.cells #[.bool now, .bool x1, .bool x2, .bool x3] 82)) := HB4.trans (hbn.mono (by have := blk_lt m3; omega))
        clear m3 ma mb HO4 hbn HB4 d0 d1 d2 d3 d4 d5 d6 d7 d8 d9 f8 f9 a0 a1 b0 b1
        generalize World.alloc W4 _ = W5 at HN n3 na nb nO HB5 ⊢
        generalize W4.heap.size = S at HN ⊢
        obtain ⟨d0, d1, d2, d3, d4, d5, d6, d7, d8, d9⟩ := cs10 nO
        have f8 := blk_frozen nO 8
        have f9 := blk_frozen nO 9
        obtain ⟨a0, a1⟩ := cs2 na
        obtain ⟨b0, b1⟩ := cs2 nb
        obtain ⟨e0, e1, e2, e3⟩ := cs4 HN
        obtain ⟨r0, r1, r2, r3, r4, r5, r6, r7, r8, r9⟩ := cs10 n3
        obtain ⟨z0, z1, z2, z3, z4, z5, z6, z7, z8, z9⟩ : W5.frozen? ⟨B + 1 + 1 + 1, 0, none⟩ = false ∧ W5.frozen? ⟨B + 1 + 1 + 1, 1, none⟩ = false ∧ W5.frozen? ⟨B + 1 + 1 + 1, 2, none⟩ = false ∧ W5.frozen? ⟨B + 1 + 1 + 1, 3, none⟩ = false ∧ W5.frozen? ⟨B + 1 + 1 + 1, 4, none⟩ = false ∧ W5.frozen? ⟨B + 1 + 1 + 1, 5, none⟩ = false ∧ W5.frozen? ⟨B + 1 + 1 + 1, 6, none⟩ = false ∧ W5.frozen? ⟨B + 1 + 1 + 1, 7, none⟩ = false ∧ W5.frozen? ⟨B + 1 + 1 + 1, 8, none⟩ = false ∧ W5.frozen? ⟨B + 1 + 1 + 1, 9, none⟩ = false := ⟨blk_frozen n3 0, blk_frozen n3 1, blk_frozen n3 2, blk_frozen n3 3, blk_frozen n3 4, blk_frozen n3 5, blk_frozen n3 6, blk_frozen n3 7, blk_frozen n3 8, blk_frozen n3 9⟩
        clear HN na nb
        obtain ⟨FI, hFI⟩ : ∃ FI, FI = N.fin := ⟨_, rfl⟩
        rw [← hFI] at eF eJ
        have HFI := Lib.hid hFI
        clear hFI
        go_cut [0, 2, 3] (fun _ _ _ w' => w'.heap[O]? = some (.cells #[.bool now, .bool x1, .bool x2, .bool x3, .int .i64 cu.e, .int .u64 cu.r, .int .i64 N.cur.e, .int .u64 N.cur.r, .int .i64 FI.e, .int .u64 FI.r] 84 (0, 0)) ∧ Ext (fun i => i = O) W5 w')
        case first =>
          have hcu : FI = cu → ((W5.setCell ⟨O, 8, none⟩ (.int .i64 cu.e)).setCell ⟨O, 9, none⟩ (.int .u64 cu.r)).heap[O]? = some (.cells #[.bool now, .bool x1, .bool x2, .bool x3, .int .i64 cu.e, .int .u64 cu.r, .int .i64 N.cur.e, .int .u64 N.cur.r, .int .i64 FI.e, .int .u64 FI.r] 84 (0, 0)) := fun h => by
            rw [h]; simpa using blk_set (blk_set nO 8 (.int .i64 cu.e)) 9 (.int .u64 cu.r)
          have hpr : FI = pr → ((W5.setCell ⟨O, 8, none⟩ (.int .i64 pr.e)).setCell ⟨O, 9, none⟩ (.int .u64 pr.r)).heap[O]? = some (.cells #[.bool now, .bool x1, .bool x2, .bool x3, .int .i64 cu.e, .int .u64 cu.r, .int .i64 N.cur.e, .int .u64 N.cur.r, .int .i64 FI.e, .int .u64 FI.r] 84 (0, 0)) := fun h => by
            rw [h]; simpa using blk_set (blk_set nO 8 (.int .i64 pr.e)) 9 (.int .u64 pr.r)
          have hfi : FI = fi → W5.heap[O]? = some (.cells #[.bool now, .bool x1, .bool x2, .bool x3, .int .i64 cu.e, .int .u64 cu.r, .int .i64 N.cur.e, .int .u64 N.cur.r, .int .i64 FI.e, .int .u64 FI.r] 84 (0, 0)) := fun h => by
            rw [h]; exact nO
          have HCU := Lib.hid hcu
          have HPR := Lib.hid hpr
          have HFJ := Lib.hid hfi
          clear hcu hpr hfi nO
          go_wp2
          all_goals
            go_meet
            case rel =>
              have hF := eF.out
              first
                | exact ⟨HCU.out (hF.trans (by first | exact finL1 (by assumption) (by assumption) (by assumption) | exact finL2 (by assumption) (by assumption) (by assumption) (by assumption) (by assumption))), ((Ext.refl (fun i => i = O) _).set1).set1⟩
                | exact ⟨HPR.out (hF.trans (by first | exact finL3 (by assumption) (by assumption) (by assumption) (by assumption) (by assumption) (by assumption) | exact finL4 (by assumption) (by assumption) (by assumption) (by assumption) (by assumption) (by assumption) (by assumption) (by assumption) | exact finL9 (by assumption) (by assumption) (by assumption) (by assumption) | exact finL10 (by assumption) (by assumption) (by assumption) (by assumption) (by assumption) (by assumption))), ((Ext.refl (fun i => i = O) _).set1).set1⟩
                | exact ⟨HFJ.out (hF.trans (by first | exact finL5 (by assumption) (by assumption) (by assumption) (by assumption) (by assumption) (by assumption) (by assumption) (by assumption) | exact finL6 (by assumption) (by assumption) (by assumption) (by assumption) (by assumption) (by assumption) (by assumption) | exact finL7 (by assumption) (by assumption) (by assumption) (by assumption) | exact finL8 (by assumption) (by assumption) | exact finL11 (by assumption) (by assumption) (by assumption) (by assumption) (by assumption) (by assumption) | exact finL12 (by assumption) (by assumption) (by assumption) (by assumption) (by assumption) | exact finL13 (by assumption) (by assumption) (by assumption) | exact finL14 (by assumption) (by assumption))), Ext.refl _ _⟩
        case rest =>
          obtain ⟨pO, hx5⟩ := hcut
          obtain ⟨W6, rfl⟩ : ∃ W6 : World, W6 = wc := ⟨_, rfl⟩
          have q3 := blk_ext n3 hx5 (by omega)
          have HB6 : Below B w W6 := HB5.trans (hx5.below (by have := blk_lt n3; omega) (fun i hi e => by omega))
          go_wp2_with (first
            | (refine wpList_loadB rfl 84 (.tmp 15) rfl O [.bool now, .bool x1, .bool x2, .bool x3, .int .i64 cu.e, .int .u64 cu.r, .int .i64 N.cur.e, .int .u64 N.cur.r, .int .i64 FI.e, .int .u64 FI.r] pO rfl _ Try.underlying84 rfl iJs ?_)
            | (refine wpList_storeB rfl 84 (.tmp 12) (.tmp 123) rfl (B + 1 + 1 + 1) _ [.bool now, .bool x1, .bool x2, .bool x3, .int .i64 cu.e, .int .u64 cu.r, .int .i64 N.cur.e, .int .u64 N.cur.r, .int .i64 FI.e, .int .u64 FI.r] q3 rfl rfl rfl iJs rfl ?_; intro W7 hR hx7 hs7))
          refine bodyPost_ret (results_cellB rfl _ (B + 1 + 1 + 1) _ hR rfl _ Try.underlying84 rfl iJs) rfl ⟨?_, ?_⟩
          · rw [HN0.out, eJ.out]
          · rw [HB.out]
            exact HB6.trans (hx7.below (by have := blk_lt q3; omega) (fun i hi e => by omega))
end Go.Proofs.Ytnppimhlfcjghaa
