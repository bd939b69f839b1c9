import Derived.Test.YtnppimhlfcjghaaGreatPJust
import Derived.Test.YtnppimhlfcjghaaGreatPMap
import Derived.Test.YtnppimhlfcjghaaGreatProg
import Derived.KernelRfl
import Derived.BigQuiet
import Derived.Deep.QuietTactic
import Derived.Deep.DeepCutAuto
import Derived.Outline
import Derived.IntWalk
import Derived.StillTailTactics
import Derived.Test.YtnppimhlfcjghaaGreatPOps2
set_option linter.all false
set_option linter.unusedVariables false
set_option linter.unusedSimpArgs false
namespace Go.Proofs.YtnppimhlfcjghaaGreat
open Go.RowKit
set_option maxRecDepth 100000
set_option maxHeartbeats 8000000
def RetLs (l : Ls) (B : Nat) (w : World) (e : Ending) (w' : World) : Prop := ∃ A k A2 k2, e = .returned (.agg #[.bool l.j.b0, .bool l.j.b1, .bool l.j.b2, .bool l.j.b3, .int .i64 l.j.prev.e, .int .u64 l.j.prev.r, .int .i64 l.j.cur.e, .int .u64 l.j.cur.r, .int .i64 l.j.fin.e, .int .u64 l.j.fin.r, .int .i64 l.epoch, .slice A l.before.length k, .slice A2 l.now.length k2]) ∧ LsR w' l A A2 ∧ Below B w w'
theorem bools_new {w : World} {b n : Nat} (h : w.heap[b]? = some (.cells (Array.replicate n (.bool false)) 4 (0, 0))) : BoolsR w (some ⟨b, 0, none⟩) (List.replicate n false) :=
 ⟨b, _, rfl, h, by rw [Array.toList_replicate, List.map_replicate]; exact List.prefix_refl _⟩
theorem Open_calls (w : World) (c : Cf) (A : Option Addr) (k : Nat) (r : Int) (hok : c.ok) :
    Calls Tryz.prog 34 #[cfC c A k, .int .u64 r] w (RetLs (openL c r) w.heap.size w) := by
 have hmk := fun W => run_mk (P := Tryz.prog) W 97 4 (.bool false) 1 Tryz.underlying97 infoBool rfl c.bal.length (by have := hok.l2; omega) (by have := hok.l2; omega)
 obtain ⟨q0, q1, q2, hbw, hsz⟩ := alloc3 w (.cells #[.slice A c.bal.length k, .int .i64 c.slots, .int .i64 c.boost] 27) (.cells #[.bool Ls.zero.j.b0, .bool Ls.zero.j.b1, .bool Ls.zero.j.b2, .bool Ls.zero.j.b3, .int .i64 Ls.zero.j.prev.e, .int .u64 Ls.zero.j.prev.r, .int .i64 Ls.zero.j.cur.e, .int .u64 Ls.zero.j.cur.r, .int .i64 Ls.zero.j.fin.e, .int .u64 Ls.zero.j.fin.r, .int .i64 Ls.zero.epoch, .slice (none : Option Addr) Ls.zero.before.length 0, .slice (none : Option Addr) Ls.zero.now.length 0] 99) (.cells #[.int .i64 0, .int .u64 r] 38)
 simp only [Ls.zero, Js.zero, Pt.zero, List.length_nil] at q0 q1 q2 hbw hsz
 go_enter Tryz.func34, Tryz.ntmps34
 go_upto_region 2 with fail
 generalize World.alloc (World.alloc (World.alloc w _) _) _ = W0 at q0 q1 q2 hbw hsz ⊢
 generalize hB : w.heap.size = B at q0 q1 q2 hbw hsz ⊢
 have HB := Lib.hid hB
 clear hB
 obtain ⟨n, hn⟩ : ∃ n, n = c.bal.length := ⟨_, rfl⟩
 have hO : openL c r = ⟨⟨false, false, false, false, ⟨0, r⟩, ⟨0, r⟩, ⟨0, r⟩⟩, 0, List.replicate n false, List.replicate n false⟩ := by rw [hn]; rfl
 have HOp := Lib.hid hO
 rw [← hn] at hmk q0
 have HN := Lib.hid hn
 clear hn hO
 obtain ⟨o, ho⟩ : ∃ o, o = Obj.cells (Array.replicate n (.bool false)) 4 := ⟨_, rfl⟩
 rw [← ho] at hmk
 have HOo := Lib.hid ho
 clear ho
 obtain ⟨a1, a2, ab, asz⟩ := alloc2 W0 o o
 have KJ : ∀ W, Below W0.heap.size W0 W → (W.cell? ⟨B, 0, none⟩ = some (.slice A n k) ∧ W.cell? ⟨B, 1, none⟩ = some (.int .i64 c.slots) ∧ W.cell? ⟨B, 2, none⟩ = some (.int .i64 c.boost)) ∧ (W.cell? ⟨B + 1 + 1, 0, none⟩ = some (.int .i64 0) ∧ W.cell? ⟨B + 1 + 1, 1, none⟩ = some (.int .u64 r)) := fun W hW => ⟨cs3 (blk_below q0 hW), cs2 (blk_below q2 hW)⟩
 have hq1 := blk_below q1 ab
 have KE : ∀ {W' : World}, Ext (fun i => i = B + 1) W0 W' → (((W'.alloc o).alloc o).drew.cell? ⟨B, 0, none⟩ = some (.slice A n k) ∧ ((W'.alloc o).alloc o).drew.cell? ⟨B, 1, none⟩ = some (.int .i64 c.slots) ∧ ((W'.alloc o).alloc o).drew.cell? ⟨B, 2, none⟩ = some (.int .i64 c.boost)) ∧ (((W'.alloc o).alloc o).drew.cell? ⟨B + 1 + 1, 0, none⟩ = some (.int .i64 0) ∧ ((W'.alloc o).alloc o).drew.cell? ⟨B + 1 + 1, 1, none⟩ = some (.int .u64 r)) := fun {W'} hx =>
  ⟨cs3 (blk_below (blk_ext q0 hx (by omega)) (alloc2 W' o o).2.2.1.drew), cs2 (blk_below (blk_ext q2 hx (by omega)) (alloc2 W' o o).2.2.1.drew)⟩
 obtain ⟨r0, r1, r2, r3, r4, r5, r6, r7, r8, r9, r10, r11, r12⟩ := cs13 hq1
 have z := blk_frozen hq1
 have z0 := z 0
 have z1 := z 1
 have z2 := z 2
 have z3 := z 3
 have z4 := z 4
 have z5 := z 5
 have z6 := z 6
 have z7 := z 7
 have z8 := z 8
 have z9 := z 9
 have z10 := z 10
 have z11 := z 11
 have z12 := z 12
 have hsz1 : (W0.alloc o).heap.size = W0.heap.size + 1 := by simp
 clear z
 have hB3 : B + 1 + 1 < W0.heap.size := blk_lt q2
 have z := blk_frozen q1
 have y0 := z 0
 have y1 := z 1
 have y2 := z 2
 have y3 := z 3
 have y4 := z 4
 have y5 := z 5
 have y6 := z 6
 have y7 := z 7
 have y8 := z 8
 have y9 := z 9
 have y10 := z 10
 have y11 := z 11
 have y12 := z 12
 obtain ⟨x0, x1, x2, x3, x4, x5, x6, x7, x8, x9, x10, x11, x12⟩ := cs13 q1
 clear z
 have hb31 : B + 1 < W0.heap.size := by omega
 have hb32 : B + 1 < W0.heap.size + 1 := by omega
 have hd0 : Below W0.heap.size W0 W0.drew := (Below.refl _ _).drew
 have hd1 : Below W0.heap.size W0 (W0.alloc o).drew := (below_alloc (Below.refl _ _) _).drew
 have hd2 : Below W0.heap.size W0 ((W0.alloc o).alloc o).drew := ab.drew
 go_region_held3 (fun w' => (w'.cell? ⟨B, 0, none⟩ = some (.slice A n k) ∧ w'.cell? ⟨B, 1, none⟩ = some (.int .i64 c.slots) ∧ w'.cell? ⟨B, 2, none⟩ = some (.int .i64 c.boost)) ∧ (w'.cell? ⟨B + 1 + 1, 0, none⟩ = some (.int .i64 0) ∧ w'.cell? ⟨B + 1 + 1, 1, none⟩ = some (.int .u64 r)))
  (first | (with_reducible exact KJ _ hd0) | (with_reducible exact KJ _ hd1) | (with_reducible exact KJ _ hd2) | ((with_reducible refine KE ?_); (iterate 13 (with_reducible refine Ext.set1 ?_)); exact Ext.refl _ _)) (fail)
 all_goals go_wp2
 ·have hF := blk_setAll q1 [.bool false, .bool false, .bool false, .bool false, .int .i64 0, .int .u64 r, .int .i64 0, .int .u64 r, .int .i64 0, .int .u64 r, .int .i64 0, .slice (some ⟨B + 1 + 1 + 1, 0, none⟩) n n, .slice (some ⟨B + 1 + 1 + 1 + 1, 0, none⟩) n n] rfl
  have hX := ext_setCells (B + 1) [.bool false, .bool false, .bool false, .bool false, .int .i64 0, .int .u64 r, .int .i64 0, .int .u64 r, .int .i64 0, .int .u64 r, .int .i64 0, .slice (some ⟨B + 1 + 1 + 1, 0, none⟩) n n, .slice (some ⟨B + 1 + 1 + 1 + 1, 0, none⟩) n n] 0 W0
  obtain ⟨hX, hS⟩ := hX
  simp only [World.setCells, Nat.zero_add, Nat.reduceAdd] at hF hX hS
  generalize World.setCell (World.setCell (World.setCell (World.setCell (World.setCell (World.setCell (World.setCell (World.setCell (World.setCell (World.setCell (World.setCell (World.setCell (World.setCell W0 _ _) _ _) _ _) _ _) _ _) _ _) _ _) _ _) _ _) _ _) _ _) _ _) _ _ = W9 at hF hX hS ⊢
  obtain ⟨e1, e2, eb, es⟩ := alloc2 W9 o o
  have hs9 : W9.heap.size = B + 1 + 1 + 1 := by omega
  have hb9 : Below B W0 W9 := hX.below (by omega) (fun i hi e => by omega)
  have hF2 := blk_below hF eb
  have hBf : Below B w ((W9.alloc o).alloc o) := (hbw.trans hb9).trans (eb.mono (by omega))
  rw [hs9, HOo.out] at e1
  rw [hs9, HOo.out] at e2
  rw [HOo.out] at hF2 hBf ⊢
  generalize World.alloc (World.alloc W9 _) _ = W10 at e1 e2 hF2 hBf ⊢
  refine bodyPost_ret (results_cellB rfl _ (B + 1) _ (w := W10.drew) hF2 rfl _ Tryz.underlying99 rfl iLs) rfl ?_
  rw [HB.out, HOp.out]
  have d1 := (bools_new (n := n) e1).below (Below.refl _ _).drew
  have d2 := (bools_new (n := n) e2).below (Below.refl _ _).drew
  refine ⟨some ⟨B + 1 + 1 + 1, 0, none⟩, n, some ⟨B + 1 + 1 + 1 + 1, 0, none⟩, n, ?_, ⟨d1, d2⟩, hBf.drew⟩
  simp only [List.length_replicate]
 ·have hF := blk_setAll q1 [.bool false, .bool false, .bool false, .bool false, .int .i64 0, .int .u64 r, .int .i64 0, .int .u64 r, .int .i64 0, .int .u64 r, .int .i64 0, .slice (some ⟨B + 1 + 1 + 1 + 1, 0, none⟩) n n, .slice (some ⟨B + 1 + 1 + 1, 0, none⟩) n n] rfl
  have hX := ext_setCells (B + 1) [.bool false, .bool false, .bool false, .bool false, .int .i64 0, .int .u64 r, .int .i64 0, .int .u64 r, .int .i64 0, .int .u64 r, .int .i64 0, .slice (some ⟨B + 1 + 1 + 1 + 1, 0, none⟩) n n, .slice (some ⟨B + 1 + 1 + 1, 0, none⟩) n n] 0 W0
  obtain ⟨hX, hS⟩ := hX
  simp only [World.setCells, Nat.zero_add, Nat.reduceAdd] at hF hX hS
  generalize World.setCell (World.setCell (World.setCell (World.setCell (World.setCell (World.setCell (World.setCell (World.setCell (World.setCell (World.setCell (World.setCell (World.setCell (World.setCell W0 _ _) _ _) _ _) _ _) _ _) _ _) _ _) _ _) _ _) _ _) _ _) _ _) _ _ = W9 at hF hX hS ⊢
  obtain ⟨e1, e2, eb, es⟩ := alloc2 W9 o o
  have hs9 : W9.heap.size = B + 1 + 1 + 1 := by omega
  have hb9 : Below B W0 W9 := hX.below (by omega) (fun i hi e => by omega)
  have hF2 := blk_below hF eb
  have hBf : Below B w ((W9.alloc o).alloc o) := (hbw.trans hb9).trans (eb.mono (by omega))
  rw [hs9, HOo.out] at e1
  rw [hs9, HOo.out] at e2
  rw [HOo.out] at hF2 hBf ⊢
  generalize World.alloc (World.alloc W9 _) _ = W10 at e1 e2 hF2 hBf ⊢
  refine bodyPost_ret (results_cellB rfl _ (B + 1) _ (w := W10.drew) hF2 rfl _ Tryz.underlying99 rfl iLs) rfl ?_
  rw [HB.out, HOp.out]
  have d1 := (bools_new (n := n) e1).below (Below.refl _ _).drew
  have d2 := (bools_new (n := n) e2).below (Below.refl _ _).drew
  refine ⟨some ⟨B + 1 + 1 + 1 + 1, 0, none⟩, n, some ⟨B + 1 + 1 + 1, 0, none⟩, n, ?_, ⟨d2, d1⟩, hBf.drew⟩
  simp only [List.length_replicate]
end Go.Proofs.YtnppimhlfcjghaaGreat
namespace Go.Proofs.YtnppimhlfcjghaaGreat
open Go.RowKit
set_option maxRecDepth 100000
set_option maxHeartbeats 1000000
abbrev ndC (n : Nd) : Value := .agg #[.int .u64 n.parent, .int .i64 n.slot, .int .i64 n.height]
def ndKV (l : List (Int × Nd)) : List (Int × Value) := l.map fun p => (p.1, ndC p.2)
theorem zNd (W : World) : (zeroValue 125).run Tryz.prog W = .ok (ndC Nd.zero) W := by kernel_rfl
theorem iNd : (Tryz.prog.info? 125).map (·.size) = some 3 := by kernel_rfl
structure TreeAt (w : World) (tb nb : Nat) (t : Tr) : Prop where
 blk : w.heap[tb]? = some (.cells #[.int .u64 t.first, .map (some nb)] 120 (0, 0))
 map : MapAt w nb (ndKV t.nodes)
theorem TreeAt.below {w w' : World} {tb nb : Nat} {t : Tr} (h : TreeAt w tb nb t) (hb : Below w.heap.size w w') : TreeAt w' tb nb t := ⟨blk_below h.blk hb, h.map.below hb⟩
theorem TreeAt.ext {w w' : World} {F : Nat → Prop} {tb nb : Nat} {t : Tr} (h : TreeAt w tb nb t) (hb : Ext F w w') (h1 : ¬ F tb) (h2 : ¬ F nb) : TreeAt w' tb nb t := ⟨blk_ext h.blk hb h1, h.map.ext hb h2⟩
theorem TreeAt.ne {w : World} {tb nb : Nat} {t : Tr} (h : TreeAt w tb nb t) : tb ≠ nb := by
 rintro rfl
 obtain ⟨es, clk, h1, _⟩ := h.map
 rw [h.blk] at h1
 cases h1
theorem nd_look (t : Tr) (k : Int) : (lk (ndKV t.nodes) k).getD (ndC Nd.zero) = ndC (t.nd k) ∧ (lk (ndKV t.nodes) k).isSome = t.has k := by
 unfold ndKV Tr.nd Tr.has
 rw [lk_map]
 cases lk t.nodes k <;> exact ⟨rfl, rfl⟩
theorem TreeAt.look {w : World} {tb nb : Nat} {t : Tr} (h : TreeAt w tb nb t) (k : Int) : (Instr.lookup 118 (.map (some nb)) (.int .u64 k) true).run Tryz.prog w = .ok (.tuple #[ndC (t.nd k), .bool (t.has k)]) w := by
 have := run_look h.map Tryz.underlying118 Tryz.underlying23 (zNd w) k true
 rw [(nd_look t k).1, (nd_look t k).2] at this
 exact this
theorem TreeAt.look1 {w : World} {tb nb : Nat} {t : Tr} (h : TreeAt w tb nb t) (k : Int) : (Instr.lookup 118 (.map (some nb)) (.int .u64 k) false).run Tryz.prog w = .ok (ndC (t.nd k)) w := by
 have := run_look h.map Tryz.underlying118 Tryz.underlying23 (zNd w) k false
 rw [(nd_look t k).1] at this
 exact this
section
variable {w : World} {tb nb : Nat} {t : Tr}
theorem Has_calls (h : TreeAt w tb nb t) (r : Int) : Calls Tryz.prog 48 #[.pointer (some ⟨tb, 0, none⟩), .int .u64 r] w fun e w' => e = .returned (.bool (t.has r)) ∧ Below w.heap.size w w' := by
 have hc := blk_cell h.blk 1
 have hl := h.look r
 go_enter Tryz.func48, Tryz.ntmps48
 go_wp2
 go_ret
 exact ⟨rfl, below_alloc (Below.refl _ _) _⟩
theorem First_calls' (h : TreeAt w tb nb t) : Calls Tryz.prog 52 #[.pointer (some ⟨tb, 0, none⟩)] w fun e w' => e = .returned (.int .u64 t.first) ∧ w = w' := by
 have hc := blk_cell h.blk 0
 go_enter Tryz.func52, Tryz.ntmps52
 go_wp2
 go_ret
 exact ⟨rfl, rfl⟩
theorem Get_calls (h : TreeAt w tb nb t) (r : Int) : Calls Tryz.prog 42 #[.pointer (some ⟨tb, 0, none⟩), .int .u64 r] w fun e w' => e = .returned (.tuple #[.int .u64 (t.nd r).parent, .int .i64 (t.nd r).slot, .int .i64 (t.nd r).height, .bool (t.has r)]) ∧ Below w.heap.size w w' := by
 have hc := blk_cell h.blk 1
 have hl := h.look r
 go_enter Tryz.func42, Tryz.ntmps42
 go_wp2
 go_quiet (fail)
 go_wp2
 exact bodyPost_ret (v := .tuple #[.int .u64 (t.nd r).parent, .int .i64 (t.nd r).slot, .int .i64 (t.nd r).height, .bool (t.has r)]) (by simp [results, Tryz.results42, go_sem]) rfl ⟨rfl, below_drewN (below_alloc (Below.refl _ _) _) _⟩
theorem Tr.nd_rng (hok : t.ok) (r : Int) : (0 ≤ (t.nd r).parent ∧ (t.nd r).parent ≤ 18446744073709551615) ∧ (0 ≤ (t.nd r).slot ∧ (t.nd r).slot ≤ 1099511627776) ∧ 0 ≤ (t.nd r).height ∧ (t.nd r).height ≤ (t.nd r).slot := by
 unfold Tr.nd
 cases h : lk t.nodes r with
 | none => simp [Nd.zero]
 | some n => exact (hok.rng _ (lk_mem h)).2
theorem At_calls (h : TreeAt w tb nb t) (hok : t.ok) (r s : Int) : Calls Tryz.prog 49 #[.pointer (some ⟨tb, 0, none⟩), .int .u64 r, .int .i64 s] w fun e w' => e = .returned (.int .u64 (t.at_ r s)) ∧ Below w.heap.size w w' := by
 have hc := blk_cell h.blk 1
 have hl := h.look r
 obtain ⟨B, HB, hB1, hB2⟩ := size_hid w
 rw [HB.out]
 cases hh : t.has r with
 | false =>
  rw [hh] at hl
  have HA : Hid (t.at_ r s = 0) := by show _ = _; rw [Tr.at_, hh]; rfl
  go_enter Tryz.func49, Tryz.ntmps49
  go_wp2
  go_loopw [1] (fun v wr => v = .int .u64 r ∧ Below B w wr) (fun _ _ => 0)
  case atStart => exact ⟨rfl, by rw [← HB.out]; exact below_alloc (Below.refl _ _) _⟩
  case round =>
   obtain ⟨rfl, hb⟩ := hrel
   go_wp2
   go_ret
   exact ⟨by rw [HA.out]; rfl, hb⟩
 | true =>
  rw [hh] at hl
  have HA : Hid (t.at_ r s = t.atF s (t.nd r).height.toNat r) := by show _ = _; rw [Tr.at_, hh]; rfl
  have HR := Lib.hid hh
  clear hh
  go_enter Tryz.func49, Tryz.ntmps49
  go_wp2
  have hblk := heap_new w (.cells #[.int .u64 (t.nd r).parent, .int .i64 (t.nd r).slot, .int .i64 (t.nd r).height] 125)
  rw [HB.out] at hblk ⊢
  have hb0 : Below B w (w.alloc (.cells #[.int .u64 (t.nd r).parent, .int .i64 (t.nd r).slot, .int .i64 (t.nd r).height] 125)) := by rw [← HB.out]; exact below_alloc (Below.refl _ _) _
  generalize w.alloc _ = W0 at hblk hb0 ⊢
  go_loopw [1] (fun v wr => ∃ r' : Int, v = .int .u64 r' ∧ Hid (t.has r' = true) ∧ Hid (t.at_ r s = t.atF s (t.nd r').height.toNat r') ∧ wr.heap[B]? = some (.cells #[.int .u64 (t.nd r').parent, .int .i64 (t.nd r').slot, .int .i64 (t.nd r').height] 125 (0, 0)) ∧ Below B w wr) (fun v _ => match v with | .int _ x => (t.nd x).slot.toNat | _ => 0)
  case atStart => exact ⟨r, rfl, HR, HA, hblk, hb0⟩
  case round =>
   clear hblk hb0 hl HR HA
   obtain ⟨r', rfl, HR, HA, hblk, hb⟩ := hrel
   have ht := (h.below (hb.mono hB1))
   have k0 := blk_cell hblk 0
   have k1 := blk_cell hblk 1
   have k2 := blk_cell hblk 2
   have f0 := blk_frozen hblk 0
   have f1 := blk_frozen hblk 1
   have f2 := blk_frozen hblk 2
   have c0 := blk_cell ht.blk 0
   have c1 := blk_cell ht.blk 1
   have HU : Hid (r' ≠ t.first → t.has (t.nd r').parent = true ∧ (t.nd (t.nd r').parent).slot < (t.nd r').slot ∧ (t.nd r').height = (t.nd (t.nd r').parent).height + 1) := hok.up r' HR.out
   have hl1 := ht.look1 (t.nd r').parent
   have HN := Lib.hid (Tr.nd_rng hok (t.nd r').parent)
   have HS : Hid (t.atF s (t.nd r').height.toNat r' = if r' ≠ t.first ∧ s < (t.nd r').slot then t.atF s (t.nd (t.nd r').parent).height.toNat (t.nd r').parent else r') := by
    show _ = _
    by_cases hf : r' = t.first
    ·rw [if_neg (fun h => h.1 hf)]
     cases (t.nd r').height.toNat with
     | zero => rfl
     | succ n => rw [Tr.atF, if_neg (fun h => h.1 hf)]
    ·have e := (HU.out hf).2.2
     have h0 := HN.out.2.2
     rw [show (t.nd r').height.toNat = (t.nd (t.nd r').parent).height.toNat + 1 from by omega, Tr.atF]
   by_cases hf : r' = t.first
   ·have hb1 : (r' != t.first) = false := by simp [hf]
    have HE : Hid (t.at_ r s = r') := by show _ = _; rw [HA.out, HS.out, if_neg (fun h => h.1 hf)]
    clear hl1
    go_wp2
    go_ret
    exact ⟨by rw [HE.out]; rfl, hb⟩
   ·have hb1 : (r' != t.first) = true := by simp [hf]
    by_cases hs : s < (t.nd r').slot
    ·have HE : Hid (t.at_ r s = t.atF s (t.nd (t.nd r').parent).height.toNat (t.nd r').parent) := by show _ = _; rw [HA.out, HS.out, if_pos ⟨hf, hs⟩]
     have HP := Lib.hid (HU.out hf)
     clear hf
     go_wp2
     go_roundw
     case rel =>
      refine ⟨(t.nd r').parent, rfl, Lib.hid HP.out.1, HE, ?_, ?_⟩
      ·simpa using blk_set (blk_set (blk_set hblk 0 (.int .u64 (t.nd (t.nd r').parent).parent)) 1 (.int .i64 (t.nd (t.nd r').parent).slot)) 2 (.int .i64 (t.nd (t.nd r').parent).height)
      ·exact ((hb.setCell (Nat.le_refl _) _).setCell (Nat.le_refl _) _).setCell (Nat.le_refl _) _
     case measure =>
      have := HP.out.2.1
      have := HN.out.2.1.1
      simp
      omega
    ·have HE : Hid (t.at_ r s = r') := by show _ = _; rw [HA.out, HS.out, if_neg (fun h => hs h.2)]
     clear hf hl1
     go_wp2
     go_ret
     exact ⟨by rw [HE.out]; rfl, hb⟩
theorem Below_calls (h : TreeAt w tb nb t) (hok : t.ok) (r on : Int) : Calls Tryz.prog 26 #[.pointer (some ⟨tb, 0, none⟩), .int .u64 r, .int .u64 on] w fun e w' => e = .returned (.bool (t.below r on)) ∧ Below w.heap.size w w' := by
 have hc := blk_cell h.blk 1
 have hl := h.look on
 have hb0 : Below w.heap.size w (w.alloc (.cells #[.int .u64 (t.nd on).parent, .int .i64 (t.nd on).slot, .int .i64 (t.nd on).height] 125)) := below_alloc (Below.refl _ _) _
 have hblk := heap_new w (.cells #[.int .u64 (t.nd on).parent, .int .i64 (t.nd on).slot, .int .i64 (t.nd on).height] 125)
 have ht := h.below hb0
 cases ho : t.has on with
 | false =>
  rw [ho] at hl
  have HE : Hid (t.below r on = false) := by show _ = _; rw [Tr.below, ho]; rfl
  clear ho ht hblk
  go_enter Tryz.func26, Tryz.ntmps26
  go_wp2
  go_ret
  exact ⟨by rw [HE.out]; rfl, hb0⟩
 | true =>
  rw [ho] at hl
  have HO := Lib.hid ho
  clear ho
  have cH := Has_calls ht r
  cases hr : t.has r with
  | false =>
   rw [hr] at cH
   have HE : Hid (t.below r on = false) := by show _ = _; rw [Tr.below, hr, HO.out]; rfl
   clear hr
   go_enter Tryz.func26, Tryz.ntmps26
   go_wp2_with (go_at_call 48; refine cH.mono ?_; rintro e w1 ⟨rfl, hb1⟩)
   go_ret
   exact ⟨by rw [HE.out]; rfl, below_then hb0 (by simp) hb1⟩
  | true =>
   rw [hr] at cH
   have HE : Hid (t.below r on = (t.at_ r (t.nd on).slot == on)) := by show _ = _; rw [Tr.below, hr, HO.out]; rfl
   clear hr
   go_enter Tryz.func26, Tryz.ntmps26
   go_wp2_with (first
    | (go_at_call 48; refine cH.mono ?_; rintro e w1 ⟨rfl, hb1⟩; have hc1 := blk_cell (blk_below hblk hb1) 1)
    | (go_at_call 49; refine (At_calls (ht.below hb1) hok r (t.nd on).slot).mono ?_; rintro e w2 ⟨rfl, hb2⟩))
   go_ret
   exact ⟨by rw [HE.out]; rfl, below_then hb0 (by simp) (below_trans hb1 hb2)⟩
theorem Len_calls (h : TreeAt w tb nb t) : Calls Tryz.prog 21 #[.pointer (some ⟨tb, 0, none⟩)] w fun e w' => e = .returned (.int .i64 t.nodes.length) ∧ w = w' := by
 have hc := blk_cell h.blk 1
 have hl := h.map.len Tryz.underlying118
 simp only [ndKV, List.length_map] at hl
 go_enter Tryz.func21, Tryz.ntmps21
 go_wp2
 go_ret
 exact ⟨rfl, rfl⟩
theorem TreeOf_calls (w : World) (r s : Int) : Calls Tryz.prog 32 #[.int .u64 r, .int .i64 s] w fun e w' => e = .returned (.pointer (some ⟨w.heap.size + 1, 0, none⟩)) ∧ TreeAt w' (w.heap.size + 1) w.heap.size (Tr.of r s) ∧ Below w.heap.size w w' := by
 have hmm := @run_makeMap Tryz.prog
 go_enter Tryz.func32, Tryz.ntmps32
 go_wp2_with (refine wpList_ins rfl _ _ _ _ rfl _ _ Tryz.underlying118 Tryz.underlying23 w.heap.size [] rfl (MapAt.new w) r (ndC ⟨r, s, 0⟩) rfl rfl ?_; intro w1 hm1 hx1 hs1)
 have hs : w1.heap.size = w.heap.size + 1 := by simpa using hs1
 go_ret
 have hb1 : Below w.heap.size w w1 := Ext.below ((Ext.of_below (F := fun i => i = w.heap.size) (below_alloc (Below.refl _ w) (.map #[] 0))).trans hx1 (fun _ _ h => h)) (Nat.le_refl _) (fun i hi e => by omega)
 refine ⟨rfl, ⟨?_, (hm1.below (below_alloc (Below.refl _ _) _))⟩, hb1.alloc (by omega) _⟩
 rw [← hs]
 exact heap_new w1 _
set_option maxHeartbeats 2000000 in
theorem Add_ok (h : TreeAt w tb nb t) (hok : t.ok) (r p s : Int) (he : t.addE r p s = 0) : Calls Tryz.prog 59 #[.pointer (some ⟨tb, 0, none⟩), .int .u64 r, .int .u64 p, .int .i64 s] w fun e w' => e = .returned .nilIface ∧ TreeAt w' tb nb (t.add r p s) ∧ Ext (fun i => i = nb) w w' := by
 have hc := blk_cell h.blk 1
 have hl := h.look p
 have HP := Lib.hid (Tr.nd_rng hok p)
 have hlen := hok.len
 unfold Tr.addE at he
 split at he
 ·cases he
 next h1 =>
 split at he
 ·cases he
 next h2 =>
 split at he
 ·cases he
 next h3 =>
 split at he
 ·cases he
 next h4 =>
 have h1' : t.has r = false := by simpa using h1
 have h2' : t.has p = true := by simpa using h2
 rw [h2'] at hl
 have hg1 := HP.out.2.1
 have hg2 := HP.out.2.2
 obtain ⟨np, hnp⟩ : ∃ np, np = t.nd p := ⟨_, rfl⟩
 rw [← hnp] at hl hg1 hg2 h3
 have hb0 : Below w.heap.size w (w.alloc (.cells #[.int .u64 np.parent, .int .i64 np.slot, .int .i64 np.height] 125)) := below_alloc (Below.refl _ _) _
 have hblk := heap_new w (.cells #[.int .u64 np.parent, .int .i64 np.slot, .int .i64 np.height] 125)
 have ht := h.below hb0
 have cH := Has_calls ht r
 rw [h1'] at cH
 have HNP := Lib.hid hnp
 have hls : ¬ (1024 ≤ (t.nodes.length : Int)) := by omega
 clear h1 h2 h1' h2' hnp
 go_enter Tryz.func59, Tryz.ntmps59
 go_upto_region 10 with (go_at_call 48; refine cH.mono ?_; rintro e w1 ⟨rfl, hb1⟩; have hc1 := blk_cell (blk_below hblk hb1) 1; have hc2 := blk_cell (blk_below hblk hb1) 2; have ht1 := ht.below hb1; have hc3 := blk_cell ht1.blk 1; have hln := ht1.map.len Tryz.underlying118; simp only [ndKV, List.length_map] at hln)
 clear hln hc2
 have hc2 := blk_cell (blk_below hblk hb1) 2
 have hw : IntKind.i64.wrap (np.height + 1) = np.height + 1 := IntWalk.i64_in _ (by omega)
 go_still_tail 11, (by kernel_rfl)
 change wpList _ _ _ _ _ w1.drew
 have hbw : Below w.heap.size w w1.drew := (below_trans hb0 hb1).drew
 have ht2 : TreeAt w1.drew tb nb t := h.below hbw
 generalize w1.drew = w2 at hbw ht2 ⊢
 go_wp2_with (refine wpList_put rfl _ _ _ _ rfl _ _ Tryz.underlying118 Tryz.underlying23 nb _ rfl ht2.map r (ndC ⟨p, s, np.height + 1⟩) rfl rfl ?_; intro w3 hm3 hx3 hs3)
 go_ret
 refine ⟨rfl, ⟨?_, ?_⟩, ?_⟩
 ·exact blk_ext ht2.blk hx3 h.ne
 ·have e : put (ndKV t.nodes) r (ndC ⟨p, s, np.height + 1⟩) = ndKV (t.add r p s).nodes := by
     rw [Tr.add, ← HNP.out]
     exact put_map ndC r ⟨p, s, np.height + 1⟩ t.nodes
  rw [← e]
  exact hm3
 ·exact (Ext.of_below hbw).trans hx3 (fun _ _ h => h)
def errV (n : Int) : Value := if n = 0 then .nilIface else .iface 91 (.int .i64 n)
set_option maxHeartbeats 2000000 in
theorem Add_err (h : TreeAt w tb nb t) (hok : t.ok) (r p s : Int) (he : t.addE r p s ≠ 0) : Calls Tryz.prog 59 #[.pointer (some ⟨tb, 0, none⟩), .int .u64 r, .int .u64 p, .int .i64 s] w fun e w' => e = .returned (errV (t.addE r p s)) ∧ Below w.heap.size w w' := by
 have hc := blk_cell h.blk 1
 have hl := h.look p
 have hlen := hok.len
 have hb0 : Below w.heap.size w (w.alloc (.cells #[.int .u64 (t.nd p).parent, .int .i64 (t.nd p).slot, .int .i64 (t.nd p).height] 125)) := below_alloc (Below.refl _ _) _
 have hblk := heap_new w (.cells #[.int .u64 (t.nd p).parent, .int .i64 (t.nd p).slot, .int .i64 (t.nd p).height] 125)
 have ht := h.below hb0
 have cH := Has_calls ht r
 cases h1 : t.has r with
 | true =>
  have HE : Hid (errV (t.addE r p s) = errV 6) := by show _ = _; rw [Tr.addE, if_pos h1]
  rw [h1] at cH
  clear h1 he
  go_enter Tryz.func59, Tryz.ntmps59
  go_wp2_with (go_at_call 48; refine cH.mono ?_; rintro e w1 ⟨rfl, hb1⟩)
  go_ret
  exact ⟨by rw [HE.out]; rfl, below_trans hb0 hb1⟩
 | false =>
  have h1' : ¬ (t.has r = true) := by simp [h1]
  rw [h1] at cH
  cases h2 : t.has p with
  | false =>
   have HE : Hid (errV (t.addE r p s) = errV 5) := by show _ = _; rw [Tr.addE, if_neg h1', if_pos h2]
   rw [h2] at hl
   clear h1 h1' h2 he
   go_enter Tryz.func59, Tryz.ntmps59
   go_wp2_with (go_at_call 48; refine cH.mono ?_; rintro e w1 ⟨rfl, hb1⟩)
   go_ret
   exact ⟨by rw [HE.out]; rfl, below_trans hb0 hb1⟩
  | true =>
   have h2' : ¬ (t.has p = false) := by simp [h2]
   rw [h2] at hl
   by_cases h3 : s ≤ (t.nd p).slot
   ·have HE : Hid (errV (t.addE r p s) = errV 7) := by show _ = _; rw [Tr.addE, if_neg h1', if_neg h2', if_pos h3]
    clear h1 h1' h2 h2' he
    go_enter Tryz.func59, Tryz.ntmps59
    go_wp2_with (go_at_call 48; refine cH.mono ?_; rintro e w1 ⟨rfl, hb1⟩; have hc1 := blk_cell (blk_below hblk hb1) 1)
    go_ret
    exact ⟨by rw [HE.out]; rfl, below_trans hb0 hb1⟩
   ·by_cases h4 : 1024 ≤ t.nodes.length
    ·have HE : Hid (errV (t.addE r p s) = errV 12) := by show _ = _; rw [Tr.addE, if_neg h1', if_neg h2', if_neg h3, if_pos h4]
     have h4z : (1024 : Int) ≤ t.nodes.length := by omega
     clear h1 h1' h2 h2' he
     go_enter Tryz.func59, Tryz.ntmps59
     go_wp2_with (go_at_call 48; refine cH.mono ?_; rintro e w1 ⟨rfl, hb1⟩; have hc1 := blk_cell (blk_below hblk hb1) 1; have ht1 := ht.below hb1; have hc3 := blk_cell ht1.blk 1; have hln := ht1.map.len Tryz.underlying118; simp only [ndKV, List.length_map] at hln)
     go_ret
     exact ⟨by rw [HE.out]; rfl, below_trans hb0 hb1⟩
    ·exact absurd (by rw [Tr.addE, if_neg h1', if_neg h2', if_neg h3, if_neg h4]) he
end
end Go.Proofs.YtnppimhlfcjghaaGreat
namespace Go.Proofs.YtnppimhlfcjghaaGreat
open Go.RowKit
set_option maxRecDepth 100000
structure Places where
 sb : Nat
 tb : Nat
 nb : Nat
 vb : Nat
 lb : Nat
 gb : Nat
 bb : Nat
 w0 : World
def Places.all (p : Places) : List Nat := [p.sb, p.tb, p.nb, p.vb, p.lb, p.gb, p.bb]
def Places.has (p : Places) (i : Nat) : Prop := i = p.sb ∨ i = p.tb ∨ i = p.nb ∨ i = p.vb ∨ i = p.lb ∨ i = p.gb
def stC (p : Places) (s : St) (k vk : Nat) (ch : Value) : List Value :=
 [.slice (some ⟨p.bb, 0, none⟩) s.c.bal.length k, .int .i64 s.c.slots, .int .i64 s.c.boost, .pointer (some ⟨p.tb, 0, none⟩), .slice (some ⟨p.vb, 0, none⟩) s.votes.length vk, .int .i64 s.slot, .int .u64 s.boosted,
  .int .i64 s.just.e, .int .u64 s.just.r, .int .i64 s.fin.e, .int .u64 s.fin.r, .map (some p.lb), .map (some p.gb), ch]
def LsK (w : World) (l : Ls) (v : Value) : Prop := ∃ A k A2 k2, v = .agg #[.bool l.j.b0, .bool l.j.b1, .bool l.j.b2, .bool l.j.b3, .int .i64 l.j.prev.e, .int .u64 l.j.prev.r, .int .i64 l.j.cur.e, .int .u64 l.j.cur.r, .int .i64 l.j.fin.e, .int .u64 l.j.fin.r, .int .i64 l.epoch, .slice A l.before.length k, .slice A2 l.now.length k2] ∧ LsR w l A A2
theorem LsK.below {w w' : World} {l : Ls} {v : Value} (h : LsK w l v) (hb : Below w.heap.size w w') : LsK w' l v := by
 obtain ⟨A, k, A2, k2, rfl, hr⟩ := h
 exact ⟨A, k, A2, k2, rfl, hr.below hb⟩
def KeepB (w w' : World) : Prop := ∀ (b : Nat) (cs : Array Value), w.heap[b]? = some (.cells cs 4 (0, 0)) → w'.heap[b]? = some (.cells cs 4 (0, 0))
theorem KeepB.refl (w : World) : KeepB w w := fun _ _ h => h
theorem KeepB.trans {a b c : World} (h : KeepB a b) (k : KeepB b c) : KeepB a c := fun i cs hi => k i cs (h i cs hi)
theorem KeepB.of_below {w w' : World} (h : Below w.heap.size w w') : KeepB w w' := fun _ _ hi => blk_below hi h
theorem KeepB.of_ext {w w' : World} {F : Nat → Prop} (h : Ext F w w') (hF : ∀ b cs, w.heap[b]? = some (.cells cs 4 (0, 0)) → ¬ F b) : KeepB w w' := fun b cs hi => blk_ext hi h (hF b cs hi)
theorem BoolsR.keep {w w' : World} {A : Option Addr} {xs : List Bool} (h : BoolsR w A xs) (hb : KeepB w w') : BoolsR w' A xs := by
 obtain ⟨b, cs, rfl, h1, h2⟩ := h
 exact ⟨b, cs, rfl, hb b cs h1, h2⟩
theorem LsK.keep {w w' : World} {l : Ls} {v : Value} (h : LsK w l v) (hb : KeepB w w') : LsK w' l v := by
 obtain ⟨A, k, A2, k2, rfl, hr⟩ := h
 exact ⟨A, k, A2, k2, rfl, ⟨hr.b.keep hb, hr.n.keep hb⟩⟩
def LedAt (w : World) (lb : Nat) (ls : List (Int × Ls)) : Prop := ∃ kvs, MapAt w lb kvs ∧ Rel2 (LsK w) ls kvs
theorem LedAt.below {w w' : World} {lb : Nat} {ls : List (Int × Ls)} (h : LedAt w lb ls) (hb : Below w.heap.size w w') : LedAt w' lb ls := by
 obtain ⟨kvs, h1, h2⟩ := h
 exact ⟨kvs, h1.below hb, h2.mono (fun _ _ h => h.below hb)⟩
theorem LedAt.ext {w w' : World} {lb : Nat} {ls : List (Int × Ls)} {F : Nat → Prop} (h : LedAt w lb ls) (hb : Ext F w w') (hF : ¬ F lb) (hk : KeepB w w') : LedAt w' lb ls := by
 obtain ⟨kvs, h1, h2⟩ := h
 exact ⟨kvs, h1.ext hb hF, h2.mono (fun _ _ h => h.keep hk)⟩
def goneKV (g : List (Int × Bool)) : List (Int × Value) := g.map fun p => (p.1, .bool p.2)
structure StoreAt (w : World) (p : Places) (s : St) (k vk : Nat) (ch : Value) : Prop where
 blk : w.heap[p.sb]? = some (.cells (stC p s k vk ch).toArray 43 (0, 0))
 bal : Ints (fun b => b = p.bb) .u64 w (some ⟨p.bb, 0, none⟩) s.c.bal
 tree : TreeAt w p.tb p.nb s.tree
 votes : VotesAt w p.vb s.votes
 led : LedAt w p.lb s.ledgers
 gone : MapAt w p.gb (goneKV s.gone)
 nd : p.all.Nodup
theorem StoreAt.below {w w' : World} {p : Places} {s : St} {k vk : Nat} {ch : Value} (h : StoreAt w p s k vk ch) (hb : Below w.heap.size w w') : StoreAt w' p s k vk ch :=
 ⟨blk_below h.blk hb, h.bal.below hb, h.tree.below hb, h.votes.below hb, h.led.below hb, h.gone.below hb, h.nd⟩
end Go.Proofs.YtnppimhlfcjghaaGreat
