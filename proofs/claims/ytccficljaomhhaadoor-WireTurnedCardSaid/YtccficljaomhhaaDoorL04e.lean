/- The statements of layer 4: the numbers of an event: ticks, votes, blocks. -/
import Derived.Test.YtccficljaomhhaaDoorL04d
namespace Go.Proofs.YtccficljaomhhaaDoor
open Go.RowKit
attribute [local go_sem ↓] Go.wp_at_zero Go.wp_at_succ
set_option maxRecDepth 100000 in
set_option maxHeartbeats 1000000 in
theorem numbers02_calls (w : World) (e : Ev) (A1 : Option Addr) (c1 : Nat) (A2 : Option Addr) (c2 : Nat) (A3 : Option Addr) (c3 : Nat) (A4 : Option Addr) (c4 : Nat) (A5 : Option Addr) (c5 : Nat) (hr : EvR anyB w e A1 c1 A2 c2 A3 c3 A4 c4 A5 c5) (hm : mayB e = true) (hk : e.kind = 0 ∨ e.kind = 2) :
    Calls Tryd.prog 14 #[.agg #[.int .i64 e.kind, .int .i64 e.slot, .int .u64 e.block.root, .int .u64 e.block.parent, .int .i64 e.block.slot, .slice A1 e.block.votes.length c1, .slice A2 e.block.proofs.length c2, .int .i64 e.vote.slot, .int .u64 e.vote.head, .int .i64 e.vote.src.e, .int .u64 e.vote.src.r, .int .i64 e.vote.tgt.e, .int .u64 e.vote.tgt.r, .slice A3 e.vote.who.length c3, .int .i64 e.proof.a.slot, .int .u64 e.proof.a.head, .int .i64 e.proof.a.src.e, .int .u64 e.proof.a.src.r, .int .i64 e.proof.a.tgt.e, .int .u64 e.proof.a.tgt.r, .slice A4 e.proof.a.who.length c4, .int .i64 e.proof.b.slot, .int .u64 e.proof.b.head, .int .i64 e.proof.b.src.e, .int .u64 e.proof.b.src.r, .int .i64 e.proof.b.tgt.e, .int .u64 e.proof.b.tgt.r, .slice A5 e.proof.b.who.length c5]] w fun en w' => ∃ A' n' c', en = .returned (.slice A' n' c') ∧ Own64 w.heap.size w' A' n' c' (evN e) ∧ Below w.heap.size w w' := by
  have HKE : Hid (w64 e.kind = e.kind) := by rcases hk with h | h <;> (show _ = _; rw [h]; rfl)
  obtain ⟨B, HB, hB1, hB2⟩ := size_hid w
  rw [HB.out]
  go_enter Tryd.func14, Tryd.ntmps14
  go_upto_region 1 with fail
  generalize hW0 : w.alloc (Obj.cells _ 40) = W0
  have hb0 : Below w.heap.size w W0 := by rw [← hW0]; exact below_alloc (Below.refl _ _) _
  have hat : EvAt W0 w.heap.size 0 e A1 c1 A2 c2 A3 c3 A4 c4 A5 c5 := EvAt.blk (by rw [← hW0]; exact heap_new _ _)
  clear hW0
  rw [HB.out] at hat ⊢
  obtain ⟨⟨h0, h1, _⟩, hv, _⟩ := hat
  rw [Nat.zero_add] at h1 hv
  have hr0 := hr.below hb0
  clear hr
  have hBlt : B < W0.heap.size := cell_lt h0
  go_upto_region 2 with fail
  generalize hW1 : W0.alloc (Obj.cells _ 27) = W1
  have hb1 : Below W0.heap.size W0 W1 := by rw [← hW1]; exact below_alloc (Below.refl _ _) _
  have ho1 : Own64 B W1 (some ⟨W0.heap.size, 0, none⟩) 1 1 [e.kind] := own_blk (w := W1) (b := W0.heap.size) (cs := #[.int .u64 e.kind]) (by rw [← hW1]; exact heap_new _ _) (by omega) rfl (by simp [maxLen])
  clear hW1
  have g0 := cell_below h0 hb1
  have g1 := cell_below h1 hb1
  have hv1 := hv.below hb1
  have hr1 := hr0.below hb1
  have hbB1 : Below B w W1 := (below_trans hb0 hb1).mono hB2
  have hBs1 : B ≤ W1.heap.size := Nat.le_trans (Nat.le_of_lt hBlt) hb1.size
  clear h0 h1 hv hr0 hb1 hb0 hBlt
  generalize W0.heap.size = B0 at ho1 ⊢
  rcases hk with k0 | k2
  · have K0 : Hid (evN e = [e.kind] ++ [w64 e.slot]) := by show _ = _; simp [evN, k0]; rfl
    have kb : (e.kind == 0) = true := by simp [k0]
    clear k0 hm
    go_wp2_with (at_builtin; refine wpList_app B rfl _ _ 57 27 (.int .u64 0) 1 8 rfl Tryd.underlying57 infoU64 rfl (by decide) _ 1 (u64s [e.kind]) rfl (World.ownsRow.alloc ho1 _) (some ⟨W1.heap.size, 0, none⟩) 1 1 [.int .u64 (w64 e.slot)] rfl rfl (Flat.one _ _ _) (by simp [Value.oneCell']) (by omega) (by omega) (by simp; omega) ?_; intro A6 c6 w3 ho3 hg3 _)
    go_ret
    refine ⟨A6, _, c6, rfl, ?_, (below_alloc' hbB1 hB2 _).grown hg3 (by simp; omega) (own_base ho1)⟩
    rw [K0.out]
    exact ho3
  · have hv2 : voteB e.vote = true := by simpa [mayB, k2] using hm
    have hla : e.vote.who.length ≤ 4096 := by simp [voteB] at hv2; exact hv2.1.2
    have K0 : Hid (evN e = [e.kind] ++ voteN e.vote) := by show _ = _; simp [evN, k2]; rfl
    have kb0 : (e.kind == 0) = false := by simp [k2]
    have kb : (e.kind == 2) = true := by simp [k2]
    clear k2 hm hv2
    obtain ⟨a0, a1, a2, a3, a4, a5, a6⟩ := hv1
    simp only [Nat.reduceAdd] at a1 a2 a3 a4 a5 a6
    go_wp2_with fail
    refine (l04vote_calls _ e.vote A3 c3 hr1.r3 (by omega)).mono ?_
    rintro en w2 ⟨Ra, na, ca, rfl, hoa, hb2⟩
    have hna : na = 7 + e.vote.who.length := by have := hoa.1; simp [voteN_length] at this; exact this.symm
    have HNA := Lib.hid hna
    clear hna
    go_wp2_with (at_builtin; refine wpList_app B rfl _ _ 57 27 (.int .u64 0) 1 8 rfl Tryd.underlying57 infoU64 rfl (by decide) _ 1 (u64s [e.kind]) rfl (own_below ho1 hb2) Ra na ca (u64s (voteN e.vote)) rfl hoa.1 (Flat.of_ints (Ints.of_own hoa)) (by simp [Value.oneCell']) (by have := HNA.out; omega) (by have := HNA.out; omega) (Nat.le_trans hBs1 hb2.size) ?_; intro A6 c6 w3 ho3 hg3 _)
    go_ret
    have hbB2 : Below B w w2 := hbB1.trans (hb2.mono hBs1)
    refine ⟨A6, _, c6, rfl, ?_, hbB2.grown hg3 (Nat.le_trans hBs1 hb2.size) (own_base ho1)⟩
    rw [K0.out]
    have h := ho3
    simp only [u64s, ← List.map_append] at h
    exact h
end Go.Proofs.YtccficljaomhhaaDoor
