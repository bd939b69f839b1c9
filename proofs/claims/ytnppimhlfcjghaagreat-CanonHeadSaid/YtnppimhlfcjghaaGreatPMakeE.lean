import Derived.Test.YtnppimhlfcjghaaGreatPOpsK
import Derived.Test.YtnppimhlfcjghaaGreatPOwn
set_option linter.all false
set_option linter.unusedVariables false
set_option linter.unusedSimpArgs false
namespace Go.Proofs.YtnppimhlfcjghaaGreat
open Go.RowKit
set_option maxRecDepth 100000
set_option maxHeartbeats 8000000
def RetEvent (w : World) (mb base sb : Nat) (bl : List Int) (bv : Value) (e : Ending) (w' : World) : Prop :=
 ∃ (ev : Ev) (A1 : Option Addr) (c1 : Nat) (A2 : Option Addr) (c2 : Nat) (A3 : Option Addr) (c3 : Nat) (A4 : Option Addr) (c4 : Nat) (A5 : Option Addr) (c5 : Nat) (ns : List Int) (An : Option Addr) (kn : Nat), e = .returned (.agg #[.int .i64 ev.kind, .int .i64 ev.slot, .int .u64 ev.block.root, .int .u64 ev.block.parent, .int .i64 ev.block.slot, .slice A1 ev.block.votes.length c1, .slice A2 ev.block.proofs.length c2, .int .i64 ev.vote.slot, .int .u64 ev.vote.head, .int .i64 ev.vote.src.e, .int .u64 ev.vote.src.r, .int .i64 ev.vote.tgt.e, .int .u64 ev.vote.tgt.r, .slice A3 ev.vote.who.length c3, .int .i64 ev.proof.a.slot, .int .u64 ev.proof.a.head, .int .i64 ev.proof.a.src.e, .int .u64 ev.proof.a.src.r, .int .i64 ev.proof.a.tgt.e, .int .u64 ev.proof.a.tgt.r, .slice A4 ev.proof.a.who.length c4, .int .i64 ev.proof.b.slot, .int .u64 ev.proof.b.head, .int .i64 ev.proof.b.src.e, .int .u64 ev.proof.b.src.r, .int .i64 ev.proof.b.tgt.e, .int .u64 ev.proof.b.tgt.r, .slice A5 ev.proof.b.who.length c5]) ∧ ev.wf ∧ EvO w.heap.size w' ev [.int .i64 ev.kind, .int .i64 ev.slot, .int .u64 ev.block.root, .int .u64 ev.block.parent, .int .i64 ev.block.slot, .slice A1 ev.block.votes.length c1, .slice A2 ev.block.proofs.length c2, .int .i64 ev.vote.slot, .int .u64 ev.vote.head, .int .i64 ev.vote.src.e, .int .u64 ev.vote.src.r, .int .i64 ev.vote.tgt.e, .int .u64 ev.vote.tgt.r, .slice A3 ev.vote.who.length c3, .int .i64 ev.proof.a.slot, .int .u64 ev.proof.a.head, .int .i64 ev.proof.a.src.e, .int .u64 ev.proof.a.src.r, .int .i64 ev.proof.a.tgt.e, .int .u64 ev.proof.a.tgt.r, .slice A4 ev.proof.a.who.length c4, .int .i64 ev.proof.b.slot, .int .u64 ev.proof.b.head, .int .i64 ev.proof.b.src.e, .int .u64 ev.proof.b.src.r, .int .i64 ev.proof.b.tgt.e, .int .u64 ev.proof.b.tgt.r, .slice A5 ev.proof.b.who.length c5] ∧ MkAt w' mb base sb ns An kn bl bv ∧ Ext (fun i => i = mb) w w'
theorem zero_wf : Bk.zero.wf ∧ Vt.zero.wf ∧ Pf.zero.wf := by
 have z : inI 0 := ⟨by omega, by omega⟩
 have u : inU 0 := ⟨by omega, by omega⟩
 have v : Vt.zero.wf := ⟨z, u, ⟨z, u⟩, ⟨z, u⟩, by intro x hx; simp [Vt.zero] at hx⟩
 exact ⟨⟨u, u, z, by intro x hx; simp [Bk.zero] at hx, by intro x hx; simp [Bk.zero] at hx⟩, v, ⟨v, v⟩⟩
def RelB8 (w : World) (mb B base : Nat) (bl : List Int) (bv : Value) (p : Places) (s : St) (k vk : Nat) (ch : Value) (zs : List Value) (r2 : Int) (x : Value) (W : World) : Prop :=
 ∃ (b : Nat) (rt st : Int), x = .pointer (some ⟨b, 0, none⟩) ∧ inU rt ∧ inI st ∧ B < b ∧ W.heap[b]? = some (.cells #[.int .u64 rt, .int .u64 r2, .int .i64 st, .slice none 0 0, .slice none 0 0] 50 (0, 0)) ∧ EvM w mb B base bl bv p s k vk ch zs W
def RelVs (w : World) (mb B base : Nat) (bl : List Int) (bv : Value) (p : Places) (s : St) (k vk : Nat) (ch : Value) (zs : List Value) (b : Nat) (rt r2 st : Int) (vs : List Vt) (Av : Option Addr) (cv : Nat) (W : World) : Prop :=
 (∀ v ∈ vs, v.wf) ∧ RowO 53 7 (VtO B W) B W Av cv vs ∧ W.heap[b]? = some (.cells #[.int .u64 rt, .int .u64 r2, .int .i64 st, .slice Av vs.length cv, .slice none 0 0] 50 (0, 0)) ∧ EvM w mb B base bl bv p s k vk ch zs W
def RelPs (w : World) (mb B base : Nat) (bl : List Int) (bv : Value) (p : Places) (s : St) (k vk : Nat) (ch : Value) (zs : List Value) (b : Nat) (rt r2 st : Int) (vs : List Vt) (Av : Option Addr) (cv : Nat) (W : World) : Prop :=
 ∃ (ps : List Pf) (Ap : Option Addr) (cp : Nat), (∀ v ∈ ps, v.wf) ∧ RowO 53 7 (VtO B W) B W Av cv vs ∧ RowO 55 14 (PfO B W) B W Ap cp ps ∧ W.heap[b]? = some (.cells #[.int .u64 rt, .int .u64 r2, .int .i64 st, .slice Av vs.length cv, .slice Ap ps.length cp] 50 (0, 0)) ∧ EvM w mb B base bl bv p s k vk ch zs W
theorem inU_wrap (x : Int) : inU (IntKind.u64.wrap x) := by
 unfold inU
 simp [IntKind.wrap, IntKind.bits, IntKind.signed]; omega
theorem leaf8 {w W W' : World} {mb B base k vk b : Nat} {bl : List Int} {bv ch : Value} {p : Places} {s : St} {zs : List Value} {cs : Array Value} {rt r2 st : Int} (h : EvM w mb B base bl bv p s k vk ch zs W) (hz : W.heap[b]? = some (.cells cs 50 (0, 0))) (q : W'.heap[b]? = some (.cells #[.int .u64 rt, .int .u64 r2, .int .i64 st, .slice none 0 0, .slice none 0 0] 50 (0, 0)))
    (hx : Ext (fun i => i = b) W W') (hB : B < b) (hb : base ≤ B) (hw : w.heap.size = B) (hp : ∀ i ∈ p.all, i < B) (hu : inU rt) (hi : inI st) : RelB8 w mb B base bl bv p s k vk ch zs r2 (.pointer (some ⟨b, 0, none⟩)) W' :=
 ⟨b, rt, st, rfl, hu, hi, hB, q, h.turn hz (by decide) (by omega) (by omega) (fun hi => by have := hp b hi; omega) hx⟩
theorem event_calls {w : World} {mb base : Nat} {ns : List Int} {A : Option Addr} {kn : Nat} {bl : List Int} {bv : Value} {p : Places} {s : St} {k vk : Nat} {ch : Value} (hM : MkAt w mb base p.sb ns A kn bl bv) (hS : StoreAt w p s k vk ch) (hs : s.ok) (hplt : ∀ i ∈ p.all, i < w.heap.size) (hmb : mb ∉ p.all) :
    Calls Tryz.prog 35 #[.pointer (some ⟨mb, 0, none⟩)] w (RetEvent w mb base p.sb bl bv) := by
 have q0 := heap_new w (.cells #[.int .i64 0, .int .i64 0, .int .u64 0, .int .u64 0, .int .i64 0, .slice none 0 0, .slice none 0 0, .int .i64 0, .int .u64 0, .int .i64 0, .int .u64 0, .int .i64 0, .int .u64 0, .slice none 0 0, .int .i64 0, .int .u64 0, .int .i64 0, .int .u64 0, .int .i64 0, .int .u64 0, .slice none 0 0, .int .i64 0, .int .u64 0, .int .i64 0, .int .u64 0, .int .i64 0, .int .u64 0, .slice none 0 0] 57)
 have hb0 : Below w.heap.size w (w.alloc (.cells #[.int .i64 0, .int .i64 0, .int .u64 0, .int .u64 0, .int .i64 0, .slice none 0 0, .slice none 0 0, .int .i64 0, .int .u64 0, .int .i64 0, .int .u64 0, .int .i64 0, .int .u64 0, .slice none 0 0, .int .i64 0, .int .u64 0, .int .i64 0, .int .u64 0, .int .i64 0, .int .u64 0, .slice none 0 0, .int .i64 0, .int .u64 0, .int .i64 0, .int .u64 0, .int .i64 0, .int .u64 0, .slice none 0 0] 57)) := below_alloc (Below.refl _ _) _
 have hM0 := hM.below hb0
 have hS0 := hS.below hb0
 have hmlt : mb < w.heap.size := blk_lt hM.blk
 clear hM hS
 go_enter Tryz.func35, Tryz.ntmps35
 go_upto_region 1 with fail
 generalize w.alloc (.cells #[.int .i64 0, .int .i64 0, .int .u64 0, .int .u64 0, .int .i64 0, .slice none 0 0, .slice none 0 0, .int .i64 0, .int .u64 0, .int .i64 0, .int .u64 0, .int .i64 0, .int .u64 0, .slice none 0 0, .int .i64 0, .int .u64 0, .int .i64 0, .int .u64 0, .int .i64 0, .int .u64 0, .slice none 0 0, .int .i64 0, .int .u64 0, .int .i64 0, .int .u64 0, .int .i64 0, .int .u64 0, .slice none 0 0] 57) = W0 at q0 hb0 hM0 hS0 ⊢
 generalize hB : w.heap.size = B at q0 hb0 hmlt hplt ⊢
 have HB := Lib.hid hB
 clear hB
 obtain ⟨m0, -⟩ := cs3 hM0.blk
 obtain ⟨_, _, _, _, _, c5, _⟩ := hS0.cells
 have c10 := next_calls hM0 10 (by omega)
 go_upto_region 3 with (go_at_call 56; refine c10.mono ?_; rintro e W1 ⟨x1, n1, A1, k1, rfl, hx1, hM1, hxt1⟩)
 have hBm : B ≠ mb := by omega
 have q1 := blk_ext q0 hxt1 (fun e => hBm e)
 have hS1 := hS0.turn hxt1 (fun i hi e => hmb ((show i = mb from e) ▸ hi)) (keep_cells hM0.blk hxt1 (by decide))
 have hX1 : Ext (fun i => i = mb) w W1 := (Ext.of_below (F := fun i => i = mb) (by rw [HB.out]; exact hb0)).trans hxt1 (fun _ _ h => h)
 have hsl0 := hs.sl0
 have hsl1 := hs.sl1
 clear c10 q0 hM0 hS0 hxt1 m0 c5
 by_cases hk : x1 < 3 ∨ s.slot = 0
 ·have c4 := next_calls hM1 4 (by omega)
  have HK := Lib.hid hk
  have h3 : (decide (x1 < 3) || (s.slot == 0)) = true := by rcases hk with h | h <;> simp [h]
  by_cases hd : x1 < 3
  ·clear hk
   go_wp2_with (first
    | (go_at_call 56; refine c4.mono ?_; rintro e W2 ⟨x2, n2, A2, k2, rfl, hx2, hM2, hxt2⟩; have q2 := blk_ext q1 hxt2 (fun e => hBm e); have hwr : IntKind.i64.wrap (s.slot + x2) = s.slot + x2 := IntWalk.i64_in _ (by omega))
    | (refine wpList_storeB rfl 57 (.tmp 2) (.tmp 36) rfl B [.int .i64 0, .int .i64 0, .int .u64 0, .int .u64 0, .int .i64 0, .slice none 0 0, .slice none 0 0, .int .i64 0, .int .u64 0, .int .i64 0, .int .u64 0, .int .i64 0, .int .u64 0, .slice none 0 0, .int .i64 0, .int .u64 0, .int .i64 0, .int .u64 0, .int .i64 0, .int .u64 0, .slice none 0 0, .int .i64 0, .int .u64 0, .int .i64 0, .int .u64 0, .int .i64 0, .int .u64 0, .slice none 0 0] [.int .i64 0, .int .i64 (s.slot + x2), .int .u64 0, .int .u64 0, .int .i64 0, .slice none 0 0, .slice none 0 0, .int .i64 0, .int .u64 0, .int .i64 0, .int .u64 0, .int .i64 0, .int .u64 0, .slice none 0 0, .int .i64 0, .int .u64 0, .int .i64 0, .int .u64 0, .int .i64 0, .int .u64 0, .slice none 0 0, .int .i64 0, .int .u64 0, .int .i64 0, .int .u64 0, .int .i64 0, .int .u64 0, .slice none 0 0] q2 rfl rfl rfl iEv rfl ?_; intro W3 q3 hx3 hs3))
   refine bodyPost_ret (results_cellB rfl _ B _ q3 rfl _ Tryz.underlying57 rfl iEv) rfl ?_
   exact ⟨⟨0, s.slot + x2, Bk.zero, Vt.zero, Pf.zero⟩, none, 0, none, 0, none, 0, none, 0, none, 0, n2, A2, k2, rfl, ⟨by unfold inI; show (_ : Int) ≤ 0 ∧ (0 : Int) ≤ _; omega, by unfold inI; show _ ≤ s.slot + x2 ∧ s.slot + x2 ≤ _; omega, zero_wf.1, zero_wf.2.1, zero_wf.2.2⟩, ⟨_, _, _, rfl, BkO.zero, VtO.zero, PfO.zero⟩, hM2.ext q2 (by decide) (by have := hM2.mb; have := hmlt; omega) hx3, ext_new (hX1.trans hxt2 (fun _ _ h => h)) hx3 (by rw [HB.out]; exact Nat.le_refl _)⟩
  ·have hz : s.slot = 0 := by omega
   have hzb : (s.slot == 0) = true := by simp [hz]
   clear hk hz h3
   go_wp2_with (first
    | (go_at_call 56; refine c4.mono ?_; rintro e W2 ⟨x2, n2, A2, k2, rfl, hx2, hM2, hxt2⟩; have q2 := blk_ext q1 hxt2 (fun e => hBm e); have hwr : IntKind.i64.wrap (s.slot + x2) = s.slot + x2 := IntWalk.i64_in _ (by omega))
    | (refine wpList_storeB rfl 57 (.tmp 2) (.tmp 36) rfl B [.int .i64 0, .int .i64 0, .int .u64 0, .int .u64 0, .int .i64 0, .slice none 0 0, .slice none 0 0, .int .i64 0, .int .u64 0, .int .i64 0, .int .u64 0, .int .i64 0, .int .u64 0, .slice none 0 0, .int .i64 0, .int .u64 0, .int .i64 0, .int .u64 0, .int .i64 0, .int .u64 0, .slice none 0 0, .int .i64 0, .int .u64 0, .int .i64 0, .int .u64 0, .int .i64 0, .int .u64 0, .slice none 0 0] [.int .i64 0, .int .i64 (s.slot + x2), .int .u64 0, .int .u64 0, .int .i64 0, .slice none 0 0, .slice none 0 0, .int .i64 0, .int .u64 0, .int .i64 0, .int .u64 0, .int .i64 0, .int .u64 0, .slice none 0 0, .int .i64 0, .int .u64 0, .int .i64 0, .int .u64 0, .int .i64 0, .int .u64 0, .slice none 0 0, .int .i64 0, .int .u64 0, .int .i64 0, .int .u64 0, .int .i64 0, .int .u64 0, .slice none 0 0] q2 rfl rfl rfl iEv rfl ?_; intro W3 q3 hx3 hs3))
   refine bodyPost_ret (results_cellB rfl _ B _ q3 rfl _ Tryz.underlying57 rfl iEv) rfl ?_
   exact ⟨⟨0, s.slot + x2, Bk.zero, Vt.zero, Pf.zero⟩, none, 0, none, 0, none, 0, none, 0, none, 0, n2, A2, k2, rfl, ⟨by unfold inI; show (_ : Int) ≤ 0 ∧ (0 : Int) ≤ _; omega, by unfold inI; show _ ≤ s.slot + x2 ∧ s.slot + x2 ≤ _; omega, zero_wf.1, zero_wf.2.1, zero_wf.2.2⟩, ⟨_, _, _, rfl, BkO.zero, VtO.zero, PfO.zero⟩, hM2.ext q2 (by decide) (by have := hM2.mb; have := hmlt; omega) hx3, ext_new (hX1.trans hxt2 (fun _ _ h => h)) hx3 (by rw [HB.out]; exact Nat.le_refl _)⟩
 ·have hk1 : ¬ x1 < 3 := fun h => hk (.inl h)
  have hk2 : (s.slot == 0) = false := by simp; exact fun h => hk (.inr h)
  clear hk
  by_cases h7 : x1 < 7
  ·have cB := block_calls hM1
   go_upto_region 8 with (first
    | (go_at_call 57; refine cB.mono ?_; rintro e W2 ⟨r2, n2, A2, k2, rfl, hr2, hM2, hxt2⟩; have hS2 := hS1.turn hxt2 (fun i hi e => hmb ((show i = mb from e) ▸ hi)) (keep_cells hM1.blk hxt2 (by decide)); have q2 := blk_ext q1 hxt2 (fun e => hBm e); have hX2 := hX1.trans hxt2 (fun _ _ h => h); have hB2 := blk_lt q2; obtain ⟨m0, -⟩ := cs3 hM2.blk; obtain ⟨_, _, _, c3, _⟩ := hS2.cells; have cG := Get_calls hS2.tree r2)
    | (go_at_call 42; refine cG.mono ?_; rintro e W3 ⟨rfl, hb3⟩))
   have hE3 : EvM w mb B base bl bv p s k vk ch [.int .i64 0, .int .i64 0, .int .u64 0, .int .u64 0, .int .i64 0, .slice none 0 0, .slice none 0 0, .int .i64 0, .int .u64 0, .int .i64 0, .int .u64 0, .int .i64 0, .int .u64 0, .slice none 0 0, .int .i64 0, .int .u64 0, .int .i64 0, .int .u64 0, .int .i64 0, .int .u64 0, .slice none 0 0, .int .i64 0, .int .u64 0, .int .i64 0, .int .u64 0, .int .i64 0, .int .u64 0, .slice none 0 0] W3 := EvM.below ⟨⟨_, _, _, hM2⟩, hS2, q2, hX2⟩ hb3
   obtain ⟨g, cap, hbv, -⟩ := hM2.last
   have KB : ∀ W, EvM w mb B base bl bv p s k vk ch [.int .i64 0, .int .i64 0, .int .u64 0, .int .u64 0, .int .i64 0, .slice none 0 0, .slice none 0 0, .int .i64 0, .int .u64 0, .int .i64 0, .int .u64 0, .int .i64 0, .int .u64 0, .slice none 0 0, .int .i64 0, .int .u64 0, .int .i64 0, .int .u64 0, .int .i64 0, .int .u64 0, .slice none 0 0, .int .i64 0, .int .u64 0, .int .i64 0, .int .u64 0, .int .i64 0, .int .u64 0, .slice none 0 0] W → W.cell? ⟨mb, 2, none⟩ = some (.slice (some ⟨g, 0, none⟩) bl.length cap) := fun W hE => by
    obtain ⟨_, _, _, hM⟩ := hE.mm
    rw [hM.cell2, hbv]
   have hb0l := hM2.b0
   have hb1l := hM2.b1
   have hBmx : base ≤ B := by have := hM2.mb; omega
   have hts := (Tr.nd_rng hs.t r2).2.1
   generalize (s.tree.nd r2).slot = ts at hts ⊢
   generalize (s.tree.nd r2).parent = tp at ⊢
   generalize (s.tree.nd r2).height = th at ⊢
   have hD3 : Below W3.heap.size W3 W3.drew := (Below.refl _ W3).drew
   have hE0 := hE3.below hD3
   have HS := Lib.hid hs
   have HPL := Lib.hid hplt
   clear hM2 hS2 q2 hX2 hb3 cG hs hplt m0 c3 hS1 q1 hX1 hM1 hxt2 hbv cB hB2 hE3
   go_cut [10] (fun x w' => RelB8 w mb B base bl bv p s k vk ch [.int .i64 0, .int .i64 0, .int .u64 0, .int .u64 0, .int .i64 0, .slice none 0 0, .slice none 0 0, .int .i64 0, .int .u64 0, .int .i64 0, .int .u64 0, .int .i64 0, .int .u64 0, .slice none 0 0, .int .i64 0, .int .u64 0, .int .i64 0, .int .u64 0, .int .i64 0, .int .u64 0, .slice none 0 0, .int .i64 0, .int .u64 0, .int .i64 0, .int .u64 0, .int .i64 0, .int .u64 0, .slice none 0 0] r2 x w')
   case first =>
    refine beginK (fun w' => w'.cell? ⟨mb, 2, none⟩ = some (.slice (some ⟨g, 0, none⟩) bl.length cap)) 21 (by rfl) ?_
    have hHeld := KB _ hE0
    refine kW 0 56 hHeld ?_
    refine kW 1 57 hHeld ?_
    refine kW 2 58 hHeld ?_
    refine kW 3 59 hHeld ?_
    refine kW 4 60 hHeld ?_
    refine kW 5 61 hHeld ?_
    refine kW 6 62 hHeld ?_
    refine kW 11 67 hHeld ?_
    refine kW 12 68 hHeld ?_
    refine kW 13 69 hHeld ?_
    refine kW 14 70 hHeld ?_
    refine kW 15 71 hHeld ?_
    refine readyK (rs := [7, 20]) (by kernel_rfl) (by simp) ?_
    refine AllReadyK.cons rfl (fun K hK => ?_) ?_
    ·go_simp
     refine ((hE0).next hBm hmb 20 (by omega)).mono ?_
     rintro e V7 ⟨y7, rfl, hy7, hV7, hu7⟩
     refine hK.out _ _ (fun _ => KB _ hV7) ?_
     have hHeld := KB _ hV7
     clear hK K
     try simp only [Act.put, sA, sB, sC]
     refine kW 8 64 hHeld ?_
     refine kW 9 65 hHeld ?_
     refine kW 10 66 hHeld ?_
     refine readyK (rs := [16, 20]) (by kernel_rfl) (by simp) ?_
     refine AllReadyK.cons rfl (fun K hK => ?_) ?_
     ·go_simp
      refine ((hV7).next hBm hmb 3 (by omega)).mono ?_
      rintro e V16 ⟨y16, rfl, hy16, hV16, hu16⟩
      have hw16 : IntKind.i64.wrap (s.slot - y16) = s.slot - y16 := IntWalk.i64_in _ (by omega)
      refine hK.out _ _ (fun _ => KB _ hV16) ?_
      have hHeld := KB _ hV16
      clear hK K
      try simp only [Act.put, sA, sB, sC]
      refine kW 17 73 hHeld ?_
      refine kW 18 74 hHeld ?_
      refine kW 19 75 hHeld ?_
      refine readyK (rs := [20]) (by kernel_rfl) (by simp) ?_
      refine AllReadyK.cons rfl (fun K hK => ?_) AllReadyK.nil
      go_simp
      have hz := heap_new (V16) (.cells #[.int .u64 0, .int .u64 0, .int .i64 0, .slice none 0 0, .slice none 0 0] 50)
      have hba : Below (V16).heap.size (V16) ((V16).alloc (.cells #[.int .u64 0, .int .u64 0, .int .i64 0, .slice none 0 0, .slice none 0 0] 50)) := below_alloc (Below.refl _ _) (.cells #[.int .u64 0, .int .u64 0, .int .i64 0, .slice none 0 0, .slice none 0 0] 50)
      have hEa := (hV16).below hba
      have hBb : B < (V16).heap.size := blk_lt (hV16).q
      have hbm : (V16).heap.size ≠ mb := by omega
      refine hK.out _ _ (fun _ => KB _ hEa) ?_
      have hHeld := KB _ hEa
      clear hK K
      try simp only [Act.put, sA, sB, sC]
      refine readyK (rs := [21]) (by kernel_rfl) (by simp) ?_
      refine AllReadyK.cons rfl (fun K hK => ?_) AllReadyK.nil
      refine step_storeB (by rfl) 50 (.tmp 10) (.tmp 75) rfl (V16).heap.size [.int .u64 0, .int .u64 0, .int .i64 0, .slice none 0 0, .slice none 0 0] [_, .int .u64 r2, _, .slice none 0 0, .slice none 0 0] hz (by rfl) rfl rfl iBk (by rfl) ?_
      intro W9 q9 hx9 hs9
      refine hK.out _ _ (fun h => absurd rfl h) ?_
      clear hK K
      try simp only [Act.put, sA, sB, sC]
      refine doneK (by kernel_rfl) ?_ _
      go_wp2
      go_meet
      case rel => exact leaf8 hEa hz q9 hx9 hBb (hBmx) HB.out HPL.out (inU_wrap _) (by rw [show IntKind.i64.wrap (ts + 1) = ts + 1 from IntWalk.i64_in _ (by omega)]; unfold inI; omega)
     refine AllReadyK.cons rfl (fun K hK => ?_) AllReadyK.nil
     go_simp
     have hz := heap_new (V7) (.cells #[.int .u64 0, .int .u64 0, .int .i64 0, .slice none 0 0, .slice none 0 0] 50)
     have hba : Below (V7).heap.size (V7) ((V7).alloc (.cells #[.int .u64 0, .int .u64 0, .int .i64 0, .slice none 0 0, .slice none 0 0] 50)) := below_alloc (Below.refl _ _) (.cells #[.int .u64 0, .int .u64 0, .int .i64 0, .slice none 0 0, .slice none 0 0] 50)
     have hEa := (hV7).below hba
     have hBb : B < (V7).heap.size := blk_lt (hV7).q
     have hbm : (V7).heap.size ≠ mb := by omega
     refine hK.out _ _ (fun _ => KB _ hEa) ?_
     have hHeld := KB _ hEa
     clear hK K
     try simp only [Act.put, sA, sB, sC]
     refine readyK (rs := [16]) (by kernel_rfl) (by simp) ?_
     refine AllReadyK.cons rfl (fun K hK => ?_) AllReadyK.nil
     go_simp
     refine ((hEa).next hBm hmb 3 (by omega)).mono ?_
     rintro e V16 ⟨y16, rfl, hy16, hV16, hu16⟩
     have hw16 : IntKind.i64.wrap (s.slot - y16) = s.slot - y16 := IntWalk.i64_in _ (by omega)
     have hz16 := blk_ext hz hu16 hbm
     refine hK.out _ _ (fun _ => KB _ hV16) ?_
     have hHeld := KB _ hV16
     clear hK K
     try simp only [Act.put, sA, sB, sC]
     refine kW 17 73 hHeld ?_
     refine kW 18 74 hHeld ?_
     refine kW 19 75 hHeld ?_
     refine readyK (rs := [21]) (by kernel_rfl) (by simp) ?_
     refine AllReadyK.cons rfl (fun K hK => ?_) AllReadyK.nil
     refine step_storeB (by rfl) 50 (.tmp 10) (.tmp 75) rfl (V7).heap.size [.int .u64 0, .int .u64 0, .int .i64 0, .slice none 0 0, .slice none 0 0] [_, .int .u64 r2, _, .slice none 0 0, .slice none 0 0] hz16 (by rfl) rfl rfl iBk (by rfl) ?_
     intro W9 q9 hx9 hs9
     refine hK.out _ _ (fun h => absurd rfl h) ?_
     clear hK K
     try simp only [Act.put, sA, sB, sC]
     refine doneK (by kernel_rfl) ?_ _
     go_wp2
     go_meet
     case rel => exact leaf8 hV16 hz16 q9 hx9 hBb (hBmx) HB.out HPL.out (inU_wrap _) (by rw [show IntKind.i64.wrap (ts + 1) = ts + 1 from IntWalk.i64_in _ (by omega)]; unfold inI; omega)
    refine AllReadyK.cons rfl (fun K hK => ?_) AllReadyK.nil
    go_simp
    have hz := heap_new (W3.drew) (.cells #[.int .u64 0, .int .u64 0, .int .i64 0, .slice none 0 0, .slice none 0 0] 50)
    have hba : Below (W3.drew).heap.size (W3.drew) ((W3.drew).alloc (.cells #[.int .u64 0, .int .u64 0, .int .i64 0, .slice none 0 0, .slice none 0 0] 50)) := below_alloc (Below.refl _ _) (.cells #[.int .u64 0, .int .u64 0, .int .i64 0, .slice none 0 0, .slice none 0 0] 50)
    have hEa := (hE0).below hba
    have hBb : B < (W3.drew).heap.size := blk_lt (hE0).q
    have hbm : (W3.drew).heap.size ≠ mb := by omega
    refine hK.out _ _ (fun _ => KB _ hEa) ?_
    have hHeld := KB _ hEa
    clear hK K
    try simp only [Act.put, sA, sB, sC]
    refine readyK (rs := [7]) (by kernel_rfl) (by simp) ?_
    refine AllReadyK.cons rfl (fun K hK => ?_) AllReadyK.nil
    go_simp
    refine ((hEa).next hBm hmb 20 (by omega)).mono ?_
    rintro e V7 ⟨y7, rfl, hy7, hV7, hu7⟩
    have hz7 := blk_ext hz hu7 hbm
    refine hK.out _ _ (fun _ => KB _ hV7) ?_
    have hHeld := KB _ hV7
    clear hK K
    try simp only [Act.put, sA, sB, sC]
    refine kW 8 64 hHeld ?_
    refine kW 9 65 hHeld ?_
    refine kW 10 66 hHeld ?_
    refine readyK (rs := [16]) (by kernel_rfl) (by simp) ?_
    refine AllReadyK.cons rfl (fun K hK => ?_) AllReadyK.nil
    go_simp
    refine ((hV7).next hBm hmb 3 (by omega)).mono ?_
    rintro e V16 ⟨y16, rfl, hy16, hV16, hu16⟩
    have hw16 : IntKind.i64.wrap (s.slot - y16) = s.slot - y16 := IntWalk.i64_in _ (by omega)
    have hz16 := blk_ext hz7 hu16 hbm
    refine hK.out _ _ (fun _ => KB _ hV16) ?_
    have hHeld := KB _ hV16
    clear hK K
    try simp only [Act.put, sA, sB, sC]
    refine kW 17 73 hHeld ?_
    refine kW 18 74 hHeld ?_
    refine kW 19 75 hHeld ?_
    refine readyK (rs := [21]) (by kernel_rfl) (by simp) ?_
    refine AllReadyK.cons rfl (fun K hK => ?_) AllReadyK.nil
    refine step_storeB (by rfl) 50 (.tmp 10) (.tmp 75) rfl (W3.drew).heap.size [.int .u64 0, .int .u64 0, .int .i64 0, .slice none 0 0, .slice none 0 0] [_, .int .u64 r2, _, .slice none 0 0, .slice none 0 0] hz16 (by rfl) rfl rfl iBk (by rfl) ?_
    intro W9 q9 hx9 hs9
    refine hK.out _ _ (fun h => absurd rfl h) ?_
    clear hK K
    try simp only [Act.put, sA, sB, sC]
    refine doneK (by kernel_rfl) ?_ _
    go_wp2
    go_meet
    case rel => exact leaf8 hV16 hz16 q9 hx9 hBb (hBmx) HB.out HPL.out (inU_wrap _) (by rw [show IntKind.i64.wrap (ts + 1) = ts + 1 from IntWalk.i64_in _ (by omega)]; unfold inI; omega)
   case rest =>
    obtain ⟨b, rt, st, rfl, hrt, hst, hbB, qb, hE⟩ := hcut
    obtain ⟨W9, rfl⟩ : ∃ W9 : World, W9 = wc := ⟨_, rfl⟩
    have hbm : b ≠ mb := by omega
    have cN := hE.next hBm hmb 3 (by omega)
    clear KB hE0 hD3
    go_upto_block 1 with (go_at_call 56; refine cN.mono ?_; rintro e W10 ⟨n, rfl, hn, hE10, hxt10⟩)
    have qb10 := blk_ext qb hxt10 hbm
    obtain ⟨n, rfl⟩ : ∃ m : Nat, n = m := ⟨n.toNat, by omega⟩
    have hR10 : RelVs w mb B base bl bv p s k vk ch [.int .i64 0, .int .i64 0, .int .u64 0, .int .u64 0, .int .i64 0, .slice none 0 0, .slice none 0 0, .int .i64 0, .int .u64 0, .int .i64 0, .int .u64 0, .int .i64 0, .int .u64 0, .slice none 0 0, .int .i64 0, .int .u64 0, .int .i64 0, .int .u64 0, .int .i64 0, .int .u64 0, .slice none 0 0, .int .i64 0, .int .u64 0, .int .i64 0, .int .u64 0, .int .i64 0, .int .u64 0, .slice none 0 0] b rt r2 st [] none 0 W10 := ⟨(fun v hv => by cases hv), RowO.nil, qb10, hE10⟩
    clear cN hE10 qb10 qb hE hxt10
    go_cut [] (fun w' => ∃ vs Av cv, Hid (RelVs w mb B base bl bv p s k vk ch [.int .i64 0, .int .i64 0, .int .u64 0, .int .u64 0, .int .i64 0, .slice none 0 0, .slice none 0 0, .int .i64 0, .int .u64 0, .int .i64 0, .int .u64 0, .int .i64 0, .int .u64 0, .slice none 0 0, .int .i64 0, .int .u64 0, .int .i64 0, .int .u64 0, .int .i64 0, .int .u64 0, .slice none 0 0, .int .i64 0, .int .u64 0, .int .i64 0, .int .u64 0, .int .i64 0, .int .u64 0, .slice none 0 0] b rt r2 st vs Av cv w'))
    case first =>
     go_wp2
     go_loopw [11] (fun i wr => ∃ (n : Nat) (vs : List Vt) (Av : Option Addr) (cv : Nat), i = .int .i64 n ∧ vs.length + n ≤ 3 ∧ Hid (RelVs w mb B base bl bv p s k vk ch [.int .i64 0, .int .i64 0, .int .u64 0, .int .u64 0, .int .i64 0, .slice none 0 0, .slice none 0 0, .int .i64 0, .int .u64 0, .int .i64 0, .int .u64 0, .int .i64 0, .int .u64 0, .slice none 0 0, .int .i64 0, .int .u64 0, .int .i64 0, .int .u64 0, .int .i64 0, .int .u64 0, .slice none 0 0, .int .i64 0, .int .u64 0, .int .i64 0, .int .u64 0, .int .i64 0, .int .u64 0, .slice none 0 0] b rt r2 st vs Av cv wr)) (fun i _ => (intOf i).toNat)
     case atStart => exact ⟨n, [], none, 0, rfl, by simp; omega, hR10⟩
     case round =>
      clear hR10 hn
      obtain ⟨n, vs, Av, cv, rfl, hvn, HR⟩ := hrel
      cases n with
      | zero =>
       go_wp2
       go_meet
       case rel => exact ⟨vs, Av, cv, HR⟩
      | succ n =>
       obtain ⟨hvw, hvr, qb, hE⟩ := HR.out
       have HVW := Lib.hid hvw
       have hD : Below wr.heap.size wr wr.drew := (Below.refl _ wr).drew
       have hE1 := hE.below hD
       have qb1 := blk_below qb hD
       have HVR := Lib.hid (hvr.keep (Keep.of_below hD) (fun _ _ x => x.keep (Keep.of_below hD)))
       have hBlt : B < wr.heap.size := blk_lt hE.q
       have K12 : ∀ (W : World), W.heap[b]? = some (.cells #[.int .u64 rt, .int .u64 r2, .int .i64 st, .slice Av vs.length cv, .slice none 0 0] 50 (0, 0)) → W.cell? ⟨b, 3, none⟩ = some (.slice Av vs.length cv) := fun W h => by rw [blk_cell h]; rfl
       clear hvw hvr qb hE HR
       go_upto_region 12 with fail
       refine beginK (fun w' => w'.cell? ⟨b, 3, none⟩ = some (.slice Av vs.length cv)) 13 (by rfl) ?_
       have hHeld := K12 _ qb1
       refine kW 0 82 hHeld ?_
       refine kW 1 83 hHeld ?_
       refine kW 2 84 hHeld ?_
       refine kW 3 85 hHeld ?_
       refine kW 4 86 hHeld ?_
       refine kW 5 87 hHeld ?_
       refine readyK (rs := [6]) (by kernel_rfl) (by simp) ?_
       refine AllReadyK.cons rfl (fun K hK => ?_) AllReadyK.nil
       go_simp
       refine (hE1.next hBm hmb 3 (by omega)).mono ?_
       rintro e w2 ⟨x2, rfl, hx2, hE2, hxt2⟩
       have hq2 := blk_ext qb1 hxt2 hbm
       have kk2 := hE1.keeps hxt2
       have hw2 : IntKind.i64.wrap (s.slot - x2) = s.slot - x2 := IntWalk.i64_in _ (by omega)
       refine hK.out _ _ (fun _ => K12 _ hq2) ?_
       have hHeld := K12 _ hq2
       clear hK K
       try simp only [Act.put, sA, sB, sC]
       refine kW 7 89 hHeld ?_
       refine kW 8 90 hHeld ?_
       refine readyK (rs := [9]) (by kernel_rfl) (by simp) ?_
       refine AllReadyK.cons rfl (fun K hK => ?_) AllReadyK.nil
       go_simp
       refine (hE2.vote hBm hmb HS.out HPL.out r2 _ hr2 (by omega)).mono ?_
       rintro e w3 ⟨v, Avv, cvv, rfl, hvw2, hvo, hE3, hxt3⟩
       have hq3 := blk_ext hq2 hxt3 hbm
       have kk3 := hE2.keeps hxt3
       refine hK.out _ _ (fun _ => K12 _ hq3) ?_
       have hHeld := K12 _ hq3
       clear hK K
       try simp only [Act.put, sA, sB, sC]
       refine readyK (rs := [10]) (by kernel_rfl) (by simp) ?_
       refine AllReadyK.cons rfl (fun K hK => ?_) AllReadyK.nil
       go_simp
       have hba : Below w3.heap.size w3 (w3.alloc (.cells #[.int .i64 v.slot, .int .u64 v.head, .int .i64 v.src.e, .int .u64 v.src.r, .int .i64 v.tgt.e, .int .u64 v.tgt.r, .slice Avv v.who.length cvv] 53)) := below_alloc (Below.refl _ _) (.cells #[.int .i64 v.slot, .int .u64 v.head, .int .i64 v.src.e, .int .u64 v.src.r, .int .i64 v.tgt.e, .int .u64 v.tgt.r, .slice Avv v.who.length cvv] 53)
       have hE4 := hE3.below hba
       have hq4 := blk_below hq3 hba
       obtain ⟨gcs, ho0, hKv⟩ := HVR.out
       have hgl := ho0.1
       have ho4 := (Keep.of_below (T := 53) hba).own ((kk2.v.trans kk3.v).own ho0)
       have hsz4 : B ≤ (w3.alloc (.cells #[.int .i64 v.slot, .int .u64 v.head, .int .i64 v.src.e, .int .u64 v.src.r, .int .i64 v.tgt.e, .int .u64 v.tgt.r, .slice Avv v.who.length cvv] 53)).heap.size := by have := blk_lt hE4.q; omega
       refine hK.out _ _ (fun _ => K12 _ hq4) ?_
       have hHeld := K12 _ hq4
       clear hK K
       try simp only [Act.put, sA, sB, sC]
       refine readyK (rs := [11]) (by kernel_rfl) (by simp) ?_
       refine AllReadyK.cons rfl (fun K hK => ?_) AllReadyK.nil
       refine step_app B (by rfl) (.tmp 83) (.tmp 92) 47 53 _ 7 72 (by rfl) Tryz.underlying47 infoVt rfl (by decide) _ vs.length gcs (by rfl) ho4 (some ⟨w3.heap.size, 0, none⟩) 1 1 [.int .i64 v.slot, .int .u64 v.head, .int .i64 v.src.e, .int .u64 v.src.r, .int .i64 v.tgt.e, .int .u64 v.tgt.r, .slice Avv v.who.length cvv] (by rfl) rfl flat_newO (by simp [Value.oneCell']) (by omega) (by omega) hsz4 ?_
       intro A6 c6 w5 ho5 hg5 _
       have hE5 := hE4.grown ho4 (by decide) (by have := hE4.lowb; omega) (by rw [HB.out]; exact Nat.le_refl _) HPL.out hg5
       have hq5 := blk_app hq4 ho4 (by decide) hg5
       have z5 := blk_frozen hq5 3
       refine hK.out _ _ (fun _ => K12 _ hq5) ?_
       have hHeld := K12 _ hq5
       clear hK K
       try simp only [Act.put, sA, sB, sC]
       refine kW 12 94 hHeld ?_
       refine readyK (rs := [13]) (by kernel_rfl) (by simp) ?_
       refine AllReadyK.cons rfl (fun K hK => ?_) AllReadyK.nil
       go_simp
       refine hK.out _ _ (fun h => absurd rfl h) ?_
       clear hK K
       try simp only [Act.put, sA, sB, sC]
       refine doneK (by kernel_rfl) ?_ _
       go_wp2
       go_roundw
       case rel =>
        have hx6 : Ext (fun i => i = b) w5 (w5.setCell ⟨b, 3, none⟩ (.slice A6 (vs.length + 1) c6)) := (Ext.refl _ _).set1
        have ki5 : Keep 3 w3 w5 := (Keep.of_below hba).trans (Keep.grown ho4 (by decide) hg5)
        have ki6 : Keep 3 w5 (w5.setCell ⟨b, 3, none⟩ (.slice A6 (vs.length + 1) c6)) := Keep.of_ext hx6 hq5 (by decide)
        have ki2 : Keep 3 wr.drew w3 := kk2.i.trans kk3.i
        refine ⟨n, vs ++ [v], A6, c6, by go_num, by simp; omega, ?_, ?_, ?_, ?_⟩
        ·intro x hx
         rcases List.mem_append.1 hx with h1 | h1
         ·exact HVW.out x h1
         ·rw [List.mem_singleton] at h1
          rw [h1]
          exact hvw2
        ·exact RowO.snoc hgl ((Keep.of_ext hx6 hq5 (by decide)).own ho5) (fun j x hx => (hKv j x hx).keep (ki2.trans (ki5.trans ki6))) ⟨Avv, cvv, rfl, (ki5.trans ki6).own (own_weaken hvo (by have := hxt2.size; have : wr.drew.heap.size = wr.heap.size := rfl; omega))⟩ rfl
        ·have := blk_set hq5 3 (.slice A6 (vs.length + 1) c6)
         simpa using this
        ·exact hE5.turn hq5 (by decide) (by have := hE5.lowb; omega) (by rw [HB.out]; omega) (fun hi => by have := HPL.out b hi; omega) hx6
       case measure => simp [intOf]
    case rest =>
     clear hR10
     obtain ⟨vs, Av, cv, HR⟩ := hcut
     obtain ⟨W11, rfl⟩ : ∃ W11 : World, W11 = wc := ⟨_, rfl⟩
     obtain ⟨hvw, hvr, qb, hE⟩ := HR.out
     have HVW := Lib.hid hvw
     clear hvw HR
     have cN := hE.next hBm hmb 16 (by omega)
     go_upto_if 97 with (go_at_call 56; refine cN.mono ?_; rintro e W12 ⟨x16, rfl, hx16, hE12, hxt12⟩)
     have qb12 := blk_ext qb hxt12 hbm
     have kk := hE.keeps hxt12
     have HVR := Lib.hid (hvr.keep kk.v (fun _ _ x => x.keep kk.i))
     clear cN hE qb hxt12 kk hvr
     go_cut [] (fun w' => RelPs w mb B base bl bv p s k vk ch [.int .i64 0, .int .i64 0, .int .u64 0, .int .u64 0, .int .i64 0, .slice none 0 0, .slice none 0 0, .int .i64 0, .int .u64 0, .int .i64 0, .int .u64 0, .int .i64 0, .int .u64 0, .slice none 0 0, .int .i64 0, .int .u64 0, .int .i64 0, .int .u64 0, .int .i64 0, .int .u64 0, .slice none 0 0, .int .i64 0, .int .u64 0, .int .i64 0, .int .u64 0, .int .i64 0, .int .u64 0, .slice none 0 0] b rt r2 st vs Av cv w')
     case first =>
      cases h15 : (x16 == 15) with
      | false =>
       go_wp2
       go_meet
       case rel => exact ⟨[], none, 0, (fun v hv => by cases hv), HVR.out, RowO.nil, qb12, hE12⟩
      | true =>
       have cV := hE12.vote hBm hmb HS.out HPL.out r2 s.slot hr2 (by omega)
       have KP : ∀ (W : World), W.heap[b]? = some (.cells #[.int .u64 rt, .int .u64 r2, .int .i64 st, .slice Av vs.length cv, .slice none 0 0] 50 (0, 0)) → W.cell? ⟨b, 4, none⟩ = some (.slice none 0 0) := fun W h => by rw [blk_cell h]; rfl
       have hB12 := blk_lt hE12.q
       go_upto_region 17 with (first
        | (go_at_call 58; refine cV.mono ?_; rintro e W4 ⟨v, Aw, cw, rfl, hvw, hvo, hE4, hxt4⟩; have qb4 := blk_ext qb12 hxt4 hbm; have kk4 := hE12.keeps hxt4; have hb4 := blk_lt hE4.q; have hnew := heap_new W4 (.cells #[.int .i64 v.slot, .int .u64 v.head, .int .i64 v.src.e, .int .u64 v.src.r, .int .i64 v.tgt.e, .int .u64 v.tgt.r, .slice Aw v.who.length cw] 53))
        | (refine wpList_loadB rfl 53 (.tmp 12) rfl W4.heap.size [.int .i64 v.slot, .int .u64 v.head, .int .i64 v.src.e, .int .u64 v.src.r, .int .i64 v.tgt.e, .int .u64 v.tgt.r, .slice Aw v.who.length cw] hnew rfl _ Tryz.underlying53 rfl iVt ?_))
       obtain ⟨qa6, qc6, hbw, hsz⟩ := alloc2 W4 (.cells #[.int .i64 v.slot, .int .u64 v.head, .int .i64 v.src.e, .int .u64 v.src.r, .int .i64 v.tgt.e, .int .u64 v.tgt.r, .slice Aw v.who.length cw] 53) (.cells #[.int .i64 v.slot, .int .u64 1, .int .i64 v.src.e, .int .u64 v.src.r, .int .i64 v.tgt.e, .int .u64 v.tgt.r, .slice Aw v.who.length cw] 53)
       have hE6 := hE4.below hbw
       have qb6 := blk_below qb4 hbw
       generalize (W4.alloc (.cells #[.int .i64 v.slot, .int .u64 v.head, .int .i64 v.src.e, .int .u64 v.src.r, .int .i64 v.tgt.e, .int .u64 v.tgt.r, .slice Aw v.who.length cw] 53)).alloc (.cells #[.int .i64 v.slot, .int .u64 1, .int .i64 v.src.e, .int .u64 v.src.r, .int .i64 v.tgt.e, .int .u64 v.tgt.r, .slice Aw v.who.length cw] 53) = W6 at qa6 qc6 qb6 hE6 hbw hsz ⊢
       have k6 := KP _ qb6
       have hB6 : B ≤ W6.heap.size := by have := blk_lt qc6; omega
       clear hsz
       go_wp2_with (first
        | (refine wpList_loadB rfl 53 (.tmp 12) rfl W4.heap.size [.int .i64 v.slot, .int .u64 v.head, .int .i64 v.src.e, .int .u64 v.src.r, .int .i64 v.tgt.e, .int .u64 v.tgt.r, .slice Aw v.who.length cw] qa6 rfl _ Tryz.underlying53 rfl iVt ?_)
        | (refine wpList_loadB rfl 53 (.tmp 13) rfl (W4.heap.size + 1) [.int .i64 v.slot, .int .u64 1, .int .i64 v.src.e, .int .u64 v.src.r, .int .i64 v.tgt.e, .int .u64 v.tgt.r, .slice Aw v.who.length cw] qc6 rfl _ Tryz.underlying53 rfl iVt ?_)
        | (at_builtin; refine wpList_app B rfl (.tmp 105) (.tmp 109) 48 55 _ 14 144 rfl Tryz.underlying48 infoPf rfl (by decide) _ 0 [] rfl (own_nil _ _ _ _) (some ⟨W6.heap.size, 0, none⟩) 1 1 [.int .i64 v.slot, .int .u64 v.head, .int .i64 v.src.e, .int .u64 v.src.r, .int .i64 v.tgt.e, .int .u64 v.tgt.r, .slice Aw v.who.length cw, .int .i64 v.slot, .int .u64 1, .int .i64 v.src.e, .int .u64 v.src.r, .int .i64 v.tgt.e, .int .u64 v.tgt.r, .slice Aw v.who.length cw] rfl rfl flat_newO (by simp [Value.oneCell']) (by decide) (by decide) (by have := (below_alloc (Below.refl W6.heap.size W6) (.cells #[.int .i64 v.slot, .int .u64 v.head, .int .i64 v.src.e, .int .u64 v.src.r, .int .i64 v.tgt.e, .int .u64 v.tgt.r, .slice Aw v.who.length cw, .int .i64 v.slot, .int .u64 1, .int .i64 v.src.e, .int .u64 v.src.r, .int .i64 v.tgt.e, .int .u64 v.tgt.r, .slice Aw v.who.length cw] 55)).size; omega) ?_; intro A7 c7 w7 ho7 hg7 _; have qb6a := blk_below qb6 (below_alloc (Below.refl _ _) (.cells #[.int .i64 v.slot, .int .u64 v.head, .int .i64 v.src.e, .int .u64 v.src.r, .int .i64 v.tgt.e, .int .u64 v.tgt.r, .slice Aw v.who.length cw, .int .i64 v.slot, .int .u64 1, .int .i64 v.src.e, .int .u64 v.src.r, .int .i64 v.tgt.e, .int .u64 v.tgt.r, .slice Aw v.who.length cw] 55)); have qb7 := blk_app qb6a (own_nil _ B 55 14) (by decide) hg7; have z7 := blk_frozen qb7 4; have y7 : w7.cell? ⟨b, 4, none⟩ = some (.slice none 0 0) := by rw [blk_cell qb7]; rfl))
       go_meet
       case rel =>
        have hz6 := below_alloc (Below.refl W6.heap.size W6) (.cells #[.int .i64 v.slot, .int .u64 v.head, .int .i64 v.src.e, .int .u64 v.src.r, .int .i64 v.tgt.e, .int .u64 v.tgt.r, .slice Aw v.who.length cw, .int .i64 v.slot, .int .u64 1, .int .i64 v.src.e, .int .u64 v.src.r, .int .i64 v.tgt.e, .int .u64 v.tgt.r, .slice Aw v.who.length cw] 55)
        have hE7 := (hE6.below hz6).grown (own_nil _ B 55 14) (by decide) (by have := hE4.lowb; omega) (by rw [HB.out]; exact Nat.le_refl _) HPL.out hg7
        have hx8 : Ext (fun i => i = b) w7 (w7.setCell ⟨b, 4, none⟩ (.slice A7 1 c7)) := (Ext.refl _ _).set1
        have ki : Keep 3 W4 (w7.setCell ⟨b, 4, none⟩ (.slice A7 1 c7)) := ((Keep.of_below hbw).trans (Keep.of_below hz6)).trans ((Keep.grown (own_nil _ B 55 14) (by decide) hg7).trans (Keep.of_ext hx8 qb7 (by decide)))
        obtain ⟨gv, hov, hKv⟩ := HVR.out
        have hov8 := (Keep.of_ext hx8 qb7 (by decide)).own ((Keep.grown (T := 53) (own_nil _ B 55 14) (by decide) hg7).own (own_below (own_below (kk4.v.own hov) hbw) hz6))
        have hown := ki.own (own_weaken hvo (by omega : B ≤ W12.heap.size))
        refine ⟨[⟨v, { v with head := 1 }⟩], A7, c7, ?_, ⟨gv, hov8, fun j x hx => (hKv j x hx).keep (kk4.i.trans ki)⟩, ?_, ?_, ?_⟩
        ·intro x hx
         rw [List.mem_singleton] at hx
         rw [hx]
         exact ⟨hvw, hvw.1, by unfold inU; show (0 : Int) ≤ 1 ∧ (1 : Int) ≤ _; omega, hvw.2.2⟩
        ·exact RowO.snoc (xs := []) (gcs := []) rfl ((Keep.of_ext hx8 qb7 (by decide)).own ho7) (fun j x hx => by simp at hx) ⟨_, _, rfl, ⟨Aw, cw, rfl, hown⟩, ⟨Aw, cw, rfl, hown⟩⟩ rfl
        ·have := blk_set qb7 4 (.slice A7 1 c7)
         simpa using this
        ·exact hE7.turn qb7 (by decide) (by have := hE4.lowb; omega) (by rw [HB.out]; omega) (fun hi => by have := HPL.out b hi; omega) hx8
     case rest =>
      obtain ⟨ps, Ap, cp, hpw, hvr, hpr, qbx, hE⟩ := hcut
      obtain ⟨W13, rfl⟩ : ∃ W13 : World, W13 = wc := ⟨_, rfl⟩
      have q13 := hE.q
      have HVR2 := Lib.hid hvr
      have HPR2 := Lib.hid hpr
      have HPW := Lib.hid hpw
      have HE := Lib.hid hE
      clear hvr hpr hpw hE hE12 qb12 HVR
      go_wp2_with (first
       | (refine wpList_loadB rfl 50 (.tmp 10) rfl b [.int .u64 rt, .int .u64 r2, .int .i64 st, .slice Av vs.length cv, .slice Ap ps.length cp] qbx rfl _ Tryz.underlying50 rfl iBk ?_)
       | (refine wpList_storeB rfl 57 (.tmp 2) (.tmp 113) rfl B [.int .i64 0, .int .i64 0, .int .u64 0, .int .u64 0, .int .i64 0, .slice none 0 0, .slice none 0 0, .int .i64 0, .int .u64 0, .int .i64 0, .int .u64 0, .int .i64 0, .int .u64 0, .slice none 0 0, .int .i64 0, .int .u64 0, .int .i64 0, .int .u64 0, .int .i64 0, .int .u64 0, .slice none 0 0, .int .i64 0, .int .u64 0, .int .i64 0, .int .u64 0, .int .i64 0, .int .u64 0, .slice none 0 0] [.int .i64 1, .int .i64 0, .int .u64 rt, .int .u64 r2, .int .i64 st, .slice Av vs.length cv, .slice Ap ps.length cp, .int .i64 0, .int .u64 0, .int .i64 0, .int .u64 0, .int .i64 0, .int .u64 0, .slice none 0 0, .int .i64 0, .int .u64 0, .int .i64 0, .int .u64 0, .int .i64 0, .int .u64 0, .slice none 0 0, .int .i64 0, .int .u64 0, .int .i64 0, .int .u64 0, .int .i64 0, .int .u64 0, .slice none 0 0] q13 rfl rfl rfl iEv rfl ?_; intro W14 q14 hx14 hs14))
      refine bodyPost_ret (results_cellB rfl _ B _ q14 rfl _ Tryz.underlying57 rfl iEv) rfl ?_
      obtain ⟨n4, A4, k4, hM4⟩ := HE.out.mm
      have ki := Keep.of_ext (T := 3) hx14 q13 (by decide)
      have kv := Keep.of_ext (T := 53) hx14 q13 (by decide)
      have kp := Keep.of_ext (T := 55) hx14 q13 (by decide)
      exact ⟨⟨1, 0, ⟨rt, r2, st, vs, ps⟩, Vt.zero, Pf.zero⟩, Av, cv, Ap, cp, none, 0, none, 0, none, 0, n4, A4, k4, rfl, ⟨by unfold inI; show (_ : Int) ≤ 1 ∧ (1 : Int) ≤ _; omega, by unfold inI; show (_ : Int) ≤ 0 ∧ (0 : Int) ≤ _; omega, ⟨hrt, hr2, hst, HVW.out, HPW.out⟩, zero_wf.2.1, zero_wf.2.2⟩, ⟨_, _, _, rfl, ⟨Av, cv, Ap, cp, rfl, by rw [HB.out]; exact HVR2.out.keep kv (fun _ _ x => x.keep ki), by rw [HB.out]; exact HPR2.out.keep kp (fun _ _ x => x.keep ki)⟩, VtO.zero, PfO.zero⟩, hM4.ext q13 (by decide) (by have := hM4.mb; omega) hx14, ext_new HE.out.x hx14 (by rw [HB.out]; exact Nat.le_refl _)⟩
  ·by_cases h9 : x1 < 9
   ·have cB := block_calls hM1
    go_wp2_with (first
     | (go_at_call 57; refine cB.mono ?_; rintro e W2 ⟨r2, n2, A2, k2, rfl, hr2, hM2, hxt2⟩; have c4 := next_calls hM2 4 (by omega); have hS2 := hS1.turn hxt2 (fun i hi e => hmb ((show i = mb from e) ▸ hi)) (keep_cells hM1.blk hxt2 (by decide)); have q2 := blk_ext q1 hxt2 (fun e => hBm e); have hX2 := hX1.trans hxt2 (fun _ _ h => h))
     | (go_at_call 56; refine c4.mono ?_; rintro e W3 ⟨x3, n3, A3, k3, rfl, hx3, hM3, hxt3⟩; have hS3 := hS2.turn hxt3 (fun i hi e => hmb ((show i = mb from e) ▸ hi)) (keep_cells hM2.blk hxt3 (by decide)); have q3 := blk_ext q2 hxt3 (fun e => hBm e); have hX3 := hX2.trans hxt3 (fun _ _ h => h); have hwr : IntKind.i64.wrap (s.slot - x3) = s.slot - x3 := IntWalk.i64_in _ (by omega); have hB3 := blk_lt q3; have cV := fun t ht => mvote_calls hM3 hS3 hs (fun i hi => by have := hplt i hi; omega) hmb r2 t hr2 ht)
     | (go_at_call 58; refine (cV _ (by omega)).mono ?_; rintro e W4 ⟨v, Av, cv, n4, A4, k4, rfl, hvw, hvl, hvf, hvo, hM4, hxt4⟩; have q4 := blk_ext q3 hxt4 (fun e => hBm e))
     | (refine wpList_storeB rfl 57 (.tmp 2) (.tmp 126) rfl B [.int .i64 0, .int .i64 0, .int .u64 0, .int .u64 0, .int .i64 0, .slice none 0 0, .slice none 0 0, .int .i64 0, .int .u64 0, .int .i64 0, .int .u64 0, .int .i64 0, .int .u64 0, .slice none 0 0, .int .i64 0, .int .u64 0, .int .i64 0, .int .u64 0, .int .i64 0, .int .u64 0, .slice none 0 0, .int .i64 0, .int .u64 0, .int .i64 0, .int .u64 0, .int .i64 0, .int .u64 0, .slice none 0 0] [.int .i64 2, .int .i64 0, .int .u64 0, .int .u64 0, .int .i64 0, .slice none 0 0, .slice none 0 0, .int .i64 v.slot, .int .u64 v.head, .int .i64 v.src.e, .int .u64 v.src.r, .int .i64 v.tgt.e, .int .u64 v.tgt.r, .slice Av v.who.length cv, .int .i64 0, .int .u64 0, .int .i64 0, .int .u64 0, .int .i64 0, .int .u64 0, .slice none 0 0, .int .i64 0, .int .u64 0, .int .i64 0, .int .u64 0, .int .i64 0, .int .u64 0, .slice none 0 0] q4 rfl rfl rfl iEv rfl ?_; intro W5 q5 hx5 hs5))
    all_goals
     refine bodyPost_ret (results_cellB rfl _ B _ q5 rfl _ Tryz.underlying57 rfl iEv) rfl ?_
     exact ⟨⟨2, 0, Bk.zero, v, Pf.zero⟩, none, 0, none, 0, Av, cv, none, 0, none, 0, n4, A4, k4, rfl, ⟨by unfold inI; show (_ : Int) ≤ 2 ∧ (2 : Int) ≤ _; omega, by unfold inI; show (_ : Int) ≤ 0 ∧ (0 : Int) ≤ _; omega, zero_wf.1, hvw, zero_wf.2.2⟩, ⟨_, _, _, rfl, BkO.zero, ⟨Av, cv, rfl, by rw [HB.out]; exact own_weaken ((Keep.of_ext hx5 q4 (by decide)).own hvo) (by omega)⟩, PfO.zero⟩, hM4.ext q4 (by decide) (by have := hM4.mb; have := hmlt; omega) hx5, ext_new (hX3.trans hxt4 (fun _ _ h => h)) hx5 (by rw [HB.out]; exact Nat.le_refl _)⟩
   ·have cB := block_calls hM1
    go_wp2_with (first
     | (go_at_call 57; refine cB.mono ?_; rintro e W2 ⟨r2, n2, A2, k2, rfl, hr2, hM2, hxt2⟩; have hS2 := hS1.turn hxt2 (fun i hi e => hmb ((show i = mb from e) ▸ hi)) (keep_cells hM1.blk hxt2 (by decide)); have q2 := blk_ext q1 hxt2 (fun e => hBm e); have hX2 := hX1.trans hxt2 (fun _ _ h => h); have hB2 := blk_lt q2; have cV := mvote_calls hM2 hS2 hs (fun i hi => by have := hplt i hi; omega) hmb r2 s.slot hr2 (by omega))
     | (go_at_call 58; refine cV.mono ?_; rintro e W4 ⟨v, Av, cv, n4, A4, k4, rfl, hvw, hvl, hvf, hvo, hM4, hxt4⟩; have q4 := blk_ext q2 hxt4 (fun e => hBm e); have hX4 := hX2.trans hxt4 (fun _ _ h => h); have hB4 := blk_lt q4; obtain ⟨qa, qb, hbw, hsz⟩ := alloc2 W4 (.cells #[.int .i64 v.slot, .int .u64 v.head, .int .i64 v.src.e, .int .u64 v.src.r, .int .i64 v.tgt.e, .int .u64 v.tgt.r, .slice Av v.who.length cv] 53) (.cells #[.int .i64 v.slot, .int .u64 v.head, .int .i64 v.src.e, .int .u64 v.src.r, .int .i64 v.tgt.e, .int .u64 v.tgt.r, .slice Av v.who.length cv] 53); have hM5 := hM4.below hbw; have c4 := next_calls hM5 4 (by omega); have q5 := blk_below q4 hbw; have hnew := heap_new W4 (.cells #[.int .i64 v.slot, .int .u64 v.head, .int .i64 v.src.e, .int .u64 v.src.r, .int .i64 v.tgt.e, .int .u64 v.tgt.r, .slice Av v.who.length cv] 53); have hm4 := blk_lt hM4.blk)
     | (refine wpList_loadB rfl 53 (.tmp 14) rfl W4.heap.size [.int .i64 v.slot, .int .u64 v.head, .int .i64 v.src.e, .int .u64 v.src.r, .int .i64 v.tgt.e, .int .u64 v.tgt.r, .slice Av v.who.length cv] hnew rfl _ Tryz.underlying53 rfl iVt ?_)
     | (go_at_call 56; refine c4.mono ?_; rintro e W6 ⟨x6, n6, A6, k6, rfl, hx6, hM6, hxt6⟩; have qa6 := blk_ext qa hxt6 (fun e => by have e' : W4.heap.size = mb := e; omega); have qb6 := blk_ext qb hxt6 (fun e => by have e' : W4.heap.size + 1 = mb := e; omega); have q6 := blk_ext q5 hxt6 (fun e => hBm e); have zb := blk_frozen qb6 1; obtain ⟨_, y1, _⟩ := cs7 qb6; have qb7 := blk_set qb6 1 (.int .u64 x6); have qa7 := blk_far qa6 (p := ⟨W4.heap.size + 1, 1, none⟩) (by show W4.heap.size ≠ W4.heap.size + 1; omega) (.int .u64 x6); have q7 := blk_far q6 (p := ⟨W4.heap.size + 1, 1, none⟩) (by show B ≠ W4.heap.size + 1; omega) (.int .u64 x6))
     | (refine wpList_loadB rfl 53 (.tmp 14) rfl W4.heap.size [.int .i64 v.slot, .int .u64 v.head, .int .i64 v.src.e, .int .u64 v.src.r, .int .i64 v.tgt.e, .int .u64 v.tgt.r, .slice Av v.who.length cv] qa7 rfl _ Tryz.underlying53 rfl iVt ?_)
     | (refine wpList_loadB rfl 53 (.tmp 15) rfl (W4.heap.size + 1) [.int .i64 v.slot, .int .u64 x6, .int .i64 v.src.e, .int .u64 v.src.r, .int .i64 v.tgt.e, .int .u64 v.tgt.r, .slice Av v.who.length cv] qb7 rfl _ Tryz.underlying53 rfl iVt ?_)
     | (refine wpList_storeB rfl 57 (.tmp 2) (.tmp 140) rfl B [.int .i64 0, .int .i64 0, .int .u64 0, .int .u64 0, .int .i64 0, .slice none 0 0, .slice none 0 0, .int .i64 0, .int .u64 0, .int .i64 0, .int .u64 0, .int .i64 0, .int .u64 0, .slice none 0 0, .int .i64 0, .int .u64 0, .int .i64 0, .int .u64 0, .int .i64 0, .int .u64 0, .slice none 0 0, .int .i64 0, .int .u64 0, .int .i64 0, .int .u64 0, .int .i64 0, .int .u64 0, .slice none 0 0] [.int .i64 3, .int .i64 0, .int .u64 0, .int .u64 0, .int .i64 0, .slice none 0 0, .slice none 0 0, .int .i64 0, .int .u64 0, .int .i64 0, .int .u64 0, .int .i64 0, .int .u64 0, .slice none 0 0, .int .i64 v.slot, .int .u64 v.head, .int .i64 v.src.e, .int .u64 v.src.r, .int .i64 v.tgt.e, .int .u64 v.tgt.r, .slice Av v.who.length cv, .int .i64 v.slot, .int .u64 x6, .int .i64 v.src.e, .int .u64 v.src.r, .int .i64 v.tgt.e, .int .u64 v.tgt.r, .slice Av v.who.length cv] q7 rfl rfl rfl iEv rfl ?_; intro W8 q8 hx8 hs8))
    refine bodyPost_ret (results_cellB rfl _ B _ q8 rfl _ Tryz.underlying57 rfl iEv) rfl ?_
    have hx7 : Ext (fun i => i = W4.heap.size + 1) W6 (W6.setCell ⟨W4.heap.size + 1, 1, none⟩ (.int .u64 x6)) := (Ext.refl _ _).set1
    have hmb6 := hM6.mb
    have hM7 := hM6.ext qb6 (by decide) (by omega) hx7
    have ho8 : W8.ownsRow B 3 1 (.slice Av v.who.length cv) v.who.length (v.who.map (Value.int .i64)) := own_weaken ((((Keep.of_below hbw).trans (Keep.of_ext hxt6 hM5.blk (by decide))).trans ((Keep.of_ext hx7 qb6 (by decide)).trans (Keep.of_ext hx8 q7 (by decide)))).own hvo) (by omega)
    exact ⟨⟨3, 0, Bk.zero, Vt.zero, ⟨v, { v with head := x6 }⟩⟩, none, 0, none, 0, none, 0, Av, cv, Av, cv, n6, A6, k6, rfl, ⟨by unfold inI; show (_ : Int) ≤ 3 ∧ (3 : Int) ≤ _; omega, by unfold inI; show (_ : Int) ≤ 0 ∧ (0 : Int) ≤ _; omega, zero_wf.1, zero_wf.2.1, hvw, hvw.1, by unfold inU; show 0 ≤ x6 ∧ x6 ≤ _; omega, hvw.2.2⟩, ⟨_, _, _, rfl, BkO.zero, VtO.zero, ⟨_, _, rfl, ⟨Av, cv, rfl, by rw [HB.out]; exact ho8⟩, ⟨Av, cv, rfl, by rw [HB.out]; exact ho8⟩⟩⟩, hM7.ext q7 (by decide) (by omega) hx8, ext_new (ext_new ((hX4.thenBelow hbw).trans hxt6 (fun _ _ h => h)) hx7 (by rw [HB.out]; omega)) hx8 (by rw [HB.out]; exact Nat.le_refl _)⟩
end Go.Proofs.YtnppimhlfcjghaaGreat
