/- ledger.Open, ledger.Advance. -/
import Derived.Test.YtnppimhlfcjghaaPull
namespace Go.Proofs.Ytnppimhlfcjghaa
open Go.RowKit
set_option maxRecDepth 100000
set_option maxHeartbeats 8000000
/-- A ledger is handed back. -/
def RetLs (l : Ls) (B : Nat) (w : World) (e : Ending) (w' : World) : Prop := ∃ A k A2 k2, e = .returned (.agg #[.bool l.j.b0, .bool l.j.b1, .bool l.j.b2, .bool l.j.b3, .int .i64 l.j.prev.e, .int .u64 l.j.prev.r, .int .i64 l.j.cur.e, .int .u64 l.j.cur.r, .int .i64 l.j.fin.e, .int .u64 l.j.fin.r, .int .i64 l.epoch, .slice A l.before.length k, .slice A2 l.now.length k2]) ∧ LsR w' l A A2 ∧ Below B w w'
theorem bools_new {w : World} {b n : Nat} (h : w.heap[b]? = some (.cells (Array.replicate n (.bool false)) 4 (0, 0))) : BoolsR w (some ⟨b, 0, none⟩) (List.replicate n false) :=
  ⟨b, _, rfl, h, by rw [Array.toList_replicate, List.map_replicate]; exact List.prefix_refl _⟩
theorem Open_calls (w : World) (c : Cf) (A : Option Addr) (k : Nat) (r : Int) (hok : c.ok) :
    Calls Try.prog 24 #[cfC c A k, .int .u64 r] w (RetLs (openL c r) w.heap.size w) := by
  have hmk := fun W => run_mk (P := Try.prog) W 85 4 (.bool false) 1 Try.underlying85 infoBool rfl c.bal.length (by have := hok.l2; omega) (by have := hok.l2; omega)
  obtain ⟨q0, q1, q2, hbw, hsz⟩ := alloc3 w (.cells #[.slice A c.bal.length k, .int .i64 c.slots, .int .i64 c.boost] 36) (.cells #[.bool Ls.zero.j.b0, .bool Ls.zero.j.b1, .bool Ls.zero.j.b2, .bool Ls.zero.j.b3, .int .i64 Ls.zero.j.prev.e, .int .u64 Ls.zero.j.prev.r, .int .i64 Ls.zero.j.cur.e, .int .u64 Ls.zero.j.cur.r, .int .i64 Ls.zero.j.fin.e, .int .u64 Ls.zero.j.fin.r, .int .i64 Ls.zero.epoch, .slice (none : Option Addr) Ls.zero.before.length 0, .slice (none : Option Addr) Ls.zero.now.length 0] 87) (.cells #[.int .i64 0, .int .u64 r] 47)
  simp only [Ls.zero, Js.zero, Pt.zero, List.length_nil] at q0 q1 q2 hbw hsz
  go_enter Try.func24, Try.ntmps24
  go_upto_region 2 with fail
  generalize World.alloc (World.alloc (World.alloc w _) _) _ = W0 at q0 q1 q2 hbw hsz ⊢
  generalize hB : w.heap.size = B at q0 q1 q2 hbw hsz ⊢
  have HB := Lib.hid hB
  clear hB
  obtain ⟨n, hn⟩ : ∃ n, n = c.bal.length := ⟨_, rfl⟩
  have hO : openL c r = ⟨⟨false, false, false, false, ⟨0, r⟩, ⟨0, r⟩, ⟨0, r⟩⟩, 0, List.replicate n false, List.replicate n false⟩ := by rw [hn]; rfl
  have HOp := Lib.hid hO
  rw [← hn] at hmk q0
  have HN := Lib.hid hn
  clear hn hO
  obtain ⟨o, ho⟩ : ∃ o, o = Obj.cells (Array.replicate n (.bool false)) 4 := ⟨_, rfl⟩
  rw [← ho] at hmk
  have HOo := Lib.hid ho
  clear ho
  obtain ⟨a1, a2, ab, asz⟩ := alloc2 W0 o o
  have KJ : ∀ W, Below W0.heap.size W0 W → (W.cell? ⟨B, 0, none⟩ = some (.slice A n k) ∧ W.cell? ⟨B, 1, none⟩ = some (.int .i64 c.slots) ∧ W.cell? ⟨B, 2, none⟩ = some (.int .i64 c.boost)) ∧ (W.cell? ⟨B + 1 + 1, 0, none⟩ = some (.int .i64 0) ∧ W.cell? ⟨B + 1 + 1, 1, none⟩ = some (.int .u64 r)) := fun W hW => ⟨cs3 (blk_below q0 hW), cs2 (blk_below q2 hW)⟩
  have hq1 := blk_below q1 ab
  have KE : ∀ {W' : World}, Ext (fun i => i = B + 1) W0 W' → (((W'.alloc o).alloc o).drew.cell? ⟨B, 0, none⟩ = some (.slice A n k) ∧ ((W'.alloc o).alloc o).drew.cell? ⟨B, 1, none⟩ = some (.int .i64 c.slots) ∧ ((W'.alloc o).alloc o).drew.cell? ⟨B, 2, none⟩ = some (.int .i64 c.boost)) ∧ (((W'.alloc o).alloc o).drew.cell? ⟨B + 1 + 1, 0, none⟩ = some (.int .i64 0) ∧ ((W'.alloc o).alloc o).drew.cell? ⟨B + 1 + 1, 1, none⟩ = some (.int .u64 r)) := fun {W'} hx =>
    ⟨cs3 (blk_below (blk_ext q0 hx (by omega)) (alloc2 W' o o).2.2.1.drew), cs2 (blk_below (blk_ext q2 hx (by omega)) (alloc2 W' o o).2.2.1.drew)⟩
  obtain ⟨r0, r1, r2, r3, r4, r5, r6, r7, r8, r9, r10, r11, r12⟩ := cs13 hq1
  have z := blk_frozen hq1
  have z0 := z 0
  have z1 := z 1
  have z2 := z 2
  have z3 := z 3
  have z4 := z 4
  have z5 := z 5
  have z6 := z 6
  have z7 := z 7
  have z8 := z 8
  have z9 := z 9
  have z10 := z 10
  have z11 := z 11
  have z12 := z 12
  have hsz1 : (W0.alloc o).heap.size = W0.heap.size + 1 := by simp
  clear z
  have hB3 : B + 1 + 1 < W0.heap.size := blk_lt q2
  have z := blk_frozen q1
  have y0 := z 0
  have y1 := z 1
  have y2 := z 2
  have y3 := z 3
  have y4 := z 4
  have y5 := z 5
  have y6 := z 6
  have y7 := z 7
  have y8 := z 8
  have y9 := z 9
  have y10 := z 10
  have y11 := z 11
  have y12 := z 12
  obtain ⟨x0, x1, x2, x3, x4, x5, x6, x7, x8, x9, x10, x11, x12⟩ := cs13 q1
  clear z
  have hb31 : B + 1 < W0.heap.size := by omega
  have hb32 : B + 1 < W0.heap.size + 1 := by omega
  have hd0 : Below W0.heap.size W0 W0.drew := (Below.refl _ _).drew
  have hd1 : Below W0.heap.size W0 (W0.alloc o).drew := (below_alloc (Below.refl _ _) _).drew
  have hd2 : Below W0.heap.size W0 ((W0.alloc o).alloc o).drew := ab.drew
  go_region_held3 (fun w' => (w'.cell? ⟨B, 0, none⟩ = some (.slice A n k) ∧ w'.cell? ⟨B, 1, none⟩ = some (.int .i64 c.slots) ∧ w'.cell? ⟨B, 2, none⟩ = some (.int .i64 c.boost)) ∧ (w'.cell? ⟨B + 1 + 1, 0, none⟩ = some (.int .i64 0) ∧ w'.cell? ⟨B + 1 + 1, 1, none⟩ = some (.int .u64 r)))
    (first | (with_reducible exact KJ _ hd0) | (with_reducible exact KJ _ hd1) | (with_reducible exact KJ _ hd2) | ((with_reducible refine KE ?_); (iterate 13 (with_reducible refine Ext.set1 ?_)); exact Ext.refl _ _)) (fail)
  all_goals go_wp2
  · have hF := blk_setAll q1 [.bool false, .bool false, .bool false, .bool false, .int .i64 0, .int .u64 r, .int .i64 0, .int .u64 r, .int .i64 0, .int .u64 r, .int .i64 0, .slice (some ⟨B + 1 + 1 + 1, 0, none⟩) n n, .slice (some ⟨B + 1 + 1 + 1 + 1, 0, none⟩) n n] rfl
    have hX := ext_setCells (B + 1) [.bool false, .bool false, .bool false, .bool false, .int .i64 0, .int .u64 r, .int .i64 0, .int .u64 r, .int .i64 0, .int .u64 r, .int .i64 0, .slice (some ⟨B + 1 + 1 + 1, 0, none⟩) n n, .slice (some ⟨B + 1 + 1 + 1 + 1, 0, none⟩) n n] 0 W0
    obtain ⟨hX, hS⟩ := hX
    simp only [World.setCells, Nat.zero_add, Nat.reduceAdd] at hF hX hS
    generalize World.setCell (World.setCell (World.setCell (World.setCell (World.setCell (World.setCell (World.setCell (World.setCell (World.setCell (World.setCell (World.setCell (World.setCell (World.setCell W0 _ _) _ _) _ _) _ _) _ _) _ _) _ _) _ _) _ _) _ _) _ _) _ _) _ _ = W9 at hF hX hS ⊢
    obtain ⟨e1, e2, eb, es⟩ := alloc2 W9 o o
    have hs9 : W9.heap.size = B + 1 + 1 + 1 := by omega
    have hb9 : Below B W0 W9 := hX.below (by omega) (fun i hi e => by omega)
    have hF2 := blk_below hF eb
    have hBf : Below B w ((W9.alloc o).alloc o) := (hbw.trans hb9).trans (eb.mono (by omega))
    rw [hs9, HOo.out] at e1
    rw [hs9, HOo.out] at e2
    rw [HOo.out] at hF2 hBf ⊢
    generalize World.alloc (World.alloc W9 _) _ = W10 at e1 e2 hF2 hBf ⊢
    refine bodyPost_ret (results_cellB rfl _ (B + 1) _ (w := W10.drew) hF2 rfl _ Try.underlying87 rfl iLs) rfl ?_
    rw [HB.out, HOp.out]
    have d1 := (bools_new (n := n) e1).below (Below.refl _ _).drew
    have d2 := (bools_new (n := n) e2).below (Below.refl _ _).drew
    refine ⟨some ⟨B + 1 + 1 + 1, 0, none⟩, n, some ⟨B + 1 + 1 + 1 + 1, 0, none⟩, n, ?_, ⟨d1, d2⟩, hBf.drew⟩
    simp only [List.length_replicate]
  · have hF := blk_setAll q1 [.bool false, .bool false, .bool false, .bool false, .int .i64 0, .int .u64 r, .int .i64 0, .int .u64 r, .int .i64 0, .int .u64 r, .int .i64 0, .slice (some ⟨B + 1 + 1 + 1 + 1, 0, none⟩) n n, .slice (some ⟨B + 1 + 1 + 1, 0, none⟩) n n] rfl
    have hX := ext_setCells (B + 1) [.bool false, .bool false, .bool false, .bool false, .int .i64 0, .int .u64 r, .int .i64 0, .int .u64 r, .int .i64 0, .int .u64 r, .int .i64 0, .slice (some ⟨B + 1 + 1 + 1 + 1, 0, none⟩) n n, .slice (some ⟨B + 1 + 1 + 1, 0, none⟩) n n] 0 W0
    obtain ⟨hX, hS⟩ := hX
    simp only [World.setCells, Nat.zero_add, Nat.reduceAdd] at hF hX hS
    generalize World.setCell (World.setCell (World.setCell (World.setCell (World.setCell (World.setCell (World.setCell (World.setCell (World.setCell (World.setCell (World.setCell (World.setCell (World.setCell W0 _ _) _ _) _ _) _ _) _ _) _ _) _ _) _ _) _ _) _ _) _ _) _ _) _ _ = W9 at hF hX hS ⊢
    obtain ⟨e1, e2, eb, es⟩ := alloc2 W9 o o
    have hs9 : W9.heap.size = B + 1 + 1 + 1 := by omega
    have hb9 : Below B W0 W9 := hX.below (by omega) (fun i hi e => by omega)
    have hF2 := blk_below hF eb
    have hBf : Below B w ((W9.alloc o).alloc o) := (hbw.trans hb9).trans (eb.mono (by omega))
    rw [hs9, HOo.out] at e1
    rw [hs9, HOo.out] at e2
    rw [HOo.out] at hF2 hBf ⊢
    generalize World.alloc (World.alloc W9 _) _ = W10 at e1 e2 hF2 hBf ⊢
    refine bodyPost_ret (results_cellB rfl _ (B + 1) _ (w := W10.drew) hF2 rfl _ Try.underlying87 rfl iLs) rfl ?_
    rw [HB.out, HOp.out]
    have d1 := (bools_new (n := n) e1).below (Below.refl _ _).drew
    have d2 := (bools_new (n := n) e2).below (Below.refl _ _).drew
    refine ⟨some ⟨B + 1 + 1 + 1 + 1, 0, none⟩, n, some ⟨B + 1 + 1 + 1, 0, none⟩, n, ?_, ⟨d2, d1⟩, hBf.drew⟩
    simp only [List.length_replicate]
end Go.Proofs.Ytnppimhlfcjghaa
