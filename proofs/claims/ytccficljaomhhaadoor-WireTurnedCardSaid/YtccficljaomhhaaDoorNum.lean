/- api.Number. -/
import Derived.Test.YtccficljaomhhaaDoorAs
namespace Go.Proofs.YtccficljaomhhaaDoor
open Go.RowKit
/-- errors.errorType is as the program's start lays it. -/
def GV (w : World) : Prop := w.cell? ⟨0, 0, none⟩ = some (.iface 96 (.agg #[.pointer (some ⟨1, 45, none⟩)]))
theorem GV.below {w w' : World} (h : GV w) (hb : Below w.heap.size w w') : GV w' := cell_below h hb
theorem Number_calls (w : World) (n : Int) (hg : GV w) :
    Calls Tryd.prog 10 #[.iface 48 (.int .i64 n)] w fun e w' => e = .returned (.int .i64 n) ∧ Below w.heap.size w w' := by
  have hb0 := below_alloc (Below.refl w.heap.size w) (.cells #[.int .i64 0] 48)
  have hg1 := hg.below hb0
  have hblk := heap_new w (.cells #[.int .i64 0] 48)
  have hA := as_hit n ⟨w.heap.size, 0, none⟩ (.int .i64 0) (w.alloc (.cells #[.int .i64 0] 48)) hg1 (blk_cell hblk 0) (blk_frozen hblk 0)
  have hb1 : Below w.heap.size w (((((w.alloc (.cells #[.int .i64 0] 48)).alloc (.cells #[.pointer (some ⟨w.heap.size, 0, none⟩)] 66)).alloc (.cells #[.pointer (some ⟨1, 66, none⟩), .pointer (some ⟨(w.alloc (.cells #[.int .i64 0] 48)).heap.size, 0, none⟩), .int .u64 150] 81)).alloc (.cells #[.pointer (some ⟨1, 66, none⟩), .pointer (some ⟨(w.alloc (.cells #[.int .i64 0] 48)).heap.size, 0, none⟩), .int .u64 150] 81)).alloc (.cells #[.int .i64 n] 48)) :=
    below_alloc (below_alloc (below_alloc (below_alloc hb0 _) _) _) _
  have hblk5 := blk_below (blk_below (blk_below (blk_below hblk (below_alloc (Below.refl _ _) (.cells #[.pointer (some ⟨w.heap.size, 0, none⟩)] 66))) (below_alloc (Below.refl _ _) (.cells #[.pointer (some ⟨1, 66, none⟩), .pointer (some ⟨(w.alloc (.cells #[.int .i64 0] 48)).heap.size, 0, none⟩), .int .u64 150] 81))) (below_alloc (Below.refl _ _) (.cells #[.pointer (some ⟨1, 66, none⟩), .pointer (some ⟨(w.alloc (.cells #[.int .i64 0] 48)).heap.size, 0, none⟩), .int .u64 150] 81))) (below_alloc (Below.refl _ _) (.cells #[.int .i64 n] 48))
  generalize World.alloc (World.alloc (World.alloc (World.alloc (World.alloc _ _) _) _) _) _ = W5 at hA hb1 hblk5
  have hcell := blk_cell (blk_set hblk5 0 (.int .i64 n)) 0
  simp only [List.setIfInBounds_toArray, List.set_cons_zero, List.getElem?_toArray, List.getElem?_cons_zero] at hcell
  have hb2 : Below w.heap.size w (W5.setCell ⟨w.heap.size, 0, none⟩ (.int .i64 n)) := (Ext.below ((Ext.of_below (F := (· = w.heap.size)) hb1).setCell (p := ⟨w.heap.size, 0, none⟩) (.inl rfl) (.int .i64 n)) (Nat.le_refl _) (fun i hi e => by subst e; omega))
  go_enter Tryd.func10, Tryd.ntmps10
  go_wp2_with (go_at_call 18; refine hA.mono ?_; rintro e w1 ⟨rfl, rfl⟩)
  go_ret
  exact ⟨rfl, hb2⟩
end Go.Proofs.YtccficljaomhhaaDoor
