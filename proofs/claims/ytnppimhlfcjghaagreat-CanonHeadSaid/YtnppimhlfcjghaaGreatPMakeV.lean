import Derived.Test.YtnppimhlfcjghaaGreatPOpsK
import Derived.Test.YtnppimhlfcjghaaGreatPApp
import Derived.Test.YtnppimhlfcjghaaGreatPPmOk
import Derived.Test.YtnppimhlfcjghaaGreatPSteps
import Derived.Test.YtnppimhlfcjghaaGreatPJust
import Derived.Test.YtnppimhlfcjghaaGreatPRange
import Derived.Deep.CutBlock
set_option linter.all false
set_option linter.unusedVariables false
set_option linter.unusedSimpArgs false
namespace Go.Proofs.YtnppimhlfcjghaaGreat
open Go.RowKit
set_option maxRecDepth 100000
set_option maxHeartbeats 8000000
def RetMVote (w : World) (mb base sb : Nat) (bl : List Int) (bv : Value) (e : Ending) (w' : World) : Prop :=
 ∃ (v : Vt) (A' : Option Addr) (c' : Nat) (ns : List Int) (An : Option Addr) (kn : Nat), e = .returned (.agg #[.int .i64 v.slot, .int .u64 v.head, .int .i64 v.src.e, .int .u64 v.src.r, .int .i64 v.tgt.e, .int .u64 v.tgt.r, .slice A' v.who.length c']) ∧ v.wf ∧ v.who.length ≤ 4096 ∧ Fits v.who.length c' ∧ w'.ownsRow w.heap.size 3 1 (.slice A' v.who.length c') v.who.length (v.who.map (Value.int .i64)) ∧ MkAt w' mb base sb ns An kn bl bv ∧ Ext (fun i => i = mb) w w'
theorem MkAt.ext {w w' : World} {mb base sb : Nat} {ns : List Int} {A : Option Addr} {kn : Nat} {bl : List Int} {bv : Value} (h : MkAt w mb base sb ns A kn bl bv) {b : Nat} {cs : Array Value} {t : TypeId} (hq : w.heap[b]? = some (.cells cs t (0, 0))) (ht : t ≠ 103 ∧ t ≠ 23) (hb : base ≤ b) (hx : Ext (fun i => i = b) w w') : MkAt w' mb base sb ns A kn bl bv := by
 refine ⟨blk_ext h.blk hx (fun e => ?_), h.rn.keep hx (fun i hi e => by have e' : i = b := e; omega), own_ext h.rb hx (fun g hg e => ?_), h.b0, h.b1, h.nr, h.nl, h.br, h.mb⟩
 ·have e' : mb = b := e
  subst e'
  rw [h.blk] at hq
  injection hq with hq
  injection hq with _ e2 _
  exact ht.1 e2.symm
 ·obtain ⟨ds, hd, _⟩ := own_kind h.rb hg
  have e' : g = b := e
  subst e'
  rw [hd] at hq
  injection hq with hq
  injection hq with _ e2 _
  exact ht.2 e2.symm
theorem MkAt.extF {w w' : World} {mb base sb : Nat} {ns : List Int} {A : Option Addr} {kn : Nat} {bl : List Int} {bv : Value} (h : MkAt w mb base sb ns A kn bl bv) {F : Nat → Prop} (hx : Ext F w w') (h1 : ¬ F mb) (h2 : ∀ i, i < base → ¬ F i) (h3 : ∀ g, bv.ownBlock = some g → ¬ F g) : MkAt w' mb base sb ns A kn bl bv :=
 ⟨blk_ext h.blk hx h1, h.rn.keep hx (fun i hi => h2 i hi), own_ext h.rb hx (fun g hg => h3 g hg), h.b0, h.b1, h.nr, h.nl, h.br, h.mb⟩
theorem own_typed {w : World} {base n base' n' : Nat} {e e' : TypeId} {size size' : Nat} {v v' : Value} {xs xs' : List Value} (h : w.ownsRow base e size v n xs) (h' : w.ownsRow base' e' size' v' n' xs') (hne : e ≠ e') {g : Nat} (hg : v.ownBlock = some g) (hg' : v'.ownBlock = some g) : False := by
 obtain ⟨ds, hd, _⟩ := own_kind h hg
 obtain ⟨ds', hd', _⟩ := own_kind h' hg'
 rw [hd] at hd'
 injection hd' with hd'
 injection hd' with _ e2 _
 exact hne e2
theorem ext_new {F : Nat → Prop} {w w1 w2 : World} {b : Nat} (h : Ext F w w1) (hx : Ext (fun i => i = b) w1 w2) (hb : w.heap.size ≤ b) : Ext F w w2 :=
 h.trans hx (fun i hi e => by have e' : i = b := e; omega)
def MvS (w : World) (mb B : Nat) (who : List Int) (Ak : Option Addr) (ck : Nat) (W : World) : Prop :=
 W.ownsRow B 3 1 (.slice Ak who.length ck) who.length (who.map (Value.int .i64)) ∧ W.heap[B]? = some (.cells #[.int .i64 0, .int .u64 0, .int .i64 0, .int .u64 0, .int .i64 0, .int .u64 0, .slice none 0 0] 53 (0, 0)) ∧ Ext (fun i => i = mb) w W
theorem MvS.mb {w W W' : World} {mb B base sb kn : Nat} {who ns bl : List Int} {Ak A : Option Addr} {ck : Nat} {bv : Value} (h : MvS w mb B who Ak ck W) (hM : MkAt W mb base sb ns A kn bl bv) (hx : Ext (fun i => i = mb) W W') (hne : B ≠ mb) : MvS w mb B who Ak ck W' :=
 ⟨own_ext h.1 hx (fun b hb e => by
  obtain ⟨ds, hd, _⟩ := own_kind h.1 hb
  have e' : b = mb := e
  subst e'
  rw [hM.blk] at hd
  injection hd with hd
  injection hd with _ e2 _
  exact absurd e2 (by decide)), blk_ext h.2.1 hx hne, h.2.2.trans hx (fun _ _ h => h)⟩
theorem MvS.bv {w W W' : World} {mb B b : Nat} {who : List Int} {Ak : Option Addr} {ck : Nat} {cs : Array Value} (h : MvS w mb B who Ak ck W) (hq : W.heap[b]? = some (.cells cs 53 (0, 0))) (hx : Ext (fun i => i = b) W W') (hne : B ≠ b) (hb : w.heap.size ≤ b) : MvS w mb B who Ak ck W' :=
 ⟨own_ext h.1 hx (fun g hg e => by
  obtain ⟨ds, hd, _⟩ := own_kind h.1 hg
  have e' : g = b := e
  subst e'
  rw [hq] at hd
  injection hd with hd
  injection hd with _ e2 _
  exact absurd e2 (by decide)), blk_ext h.2.1 hx hne, ext_new h.2.2 hx hb⟩
theorem mvote_calls {w : World} {mb base : Nat} {ns : List Int} {A : Option Addr} {kn : Nat} {bl : List Int} {bv : Value} {p : Places} {s : St} {k vk : Nat} {ch : Value} (hM : MkAt w mb base p.sb ns A kn bl bv) (hS : StoreAt w p s k vk ch) (hs : s.ok) (hplt : ∀ i ∈ p.all, i < w.heap.size) (hmb : mb ∉ p.all) (r t : Int) (hr : inU r) (ht : 0 ≤ t ∧ t ≤ 1099511627776) :
    Calls Tryz.prog 58 #[.pointer (some ⟨mb, 0, none⟩), .int .u64 r, .int .i64 t] w (RetMVote w mb base p.sb bl bv) := by
 have q0 := heap_new w (.cells #[.int .i64 0, .int .u64 0, .int .i64 0, .int .u64 0, .int .i64 0, .int .u64 0, .slice none 0 0] 53)
 have hb0 : Below w.heap.size w (w.alloc (.cells #[.int .i64 0, .int .u64 0, .int .i64 0, .int .u64 0, .int .i64 0, .int .u64 0, .slice none 0 0] 53)) := below_alloc (Below.refl _ _) _
 have hs1 := hs.c.s1
 have hs2 := hs.c.s2
 have cE := fun W => EpochOf_calls W t s.c.slots (by unfold inI; omega) (by unfold inI; omega)
 have hne := hM.mb
 have hbm : base ≤ w.heap.size := by have := blk_lt hM.blk; omega
 have hM0 := hM.below hb0
 have hS0 := hS.below hb0
 have hmlt : mb < w.heap.size := blk_lt hM.blk
 clear hM hS
 go_enter Tryz.func58, Tryz.ntmps58
 go_upto_region 1 with fail
 have hsz0 : (w.alloc (.cells #[.int .i64 0, .int .u64 0, .int .i64 0, .int .u64 0, .int .i64 0, .int .u64 0, .slice none 0 0] 53)).heap.size = w.heap.size + 1 := by simp
 generalize w.alloc (.cells #[.int .i64 0, .int .u64 0, .int .i64 0, .int .u64 0, .int .i64 0, .int .u64 0, .slice none 0 0] 53) = W0 at q0 hb0 hM0 hS0 hsz0 ⊢
 generalize hB : w.heap.size = B at q0 hb0 hsz0 hbm hmlt hplt ⊢
 have HB := Lib.hid hB
 clear hB
 obtain ⟨q1, q2, hbw, hsz⟩ := alloc2 W0 (.cells #[.slice (some ⟨p.bb, 0, none⟩) s.c.bal.length k, .int .i64 s.c.slots, .int .i64 s.c.boost] 27) (.cells #[.int .i64 t, .int .u64 r, .int .i64 0, .int .u64 0, .int .i64 0, .int .u64 0, .slice none 0 0] 53)
 obtain ⟨m0, m1, m2⟩ := cs3 hM0.blk
 obtain ⟨c0, c1, c2, _⟩ := hS0.cells
 go_upto_region 3 with fail
 clear m0 m1 m2 c0 c1 c2
 have hM3 := hM0.below hbw
 have hS3 := hS0.below hbw
 have q03 := blk_below q0 hbw
 have hb3 := hb0.trans (hbw.mono (by omega))
 generalize (W0.alloc _).alloc _ = W3 at q1 q2 hM3 hS3 q03 hb3 hsz ⊢
 generalize hC : W0.heap.size = C at q1 q2 hsz hsz0 ⊢
 subst hsz0
 have hX3 : Ext (fun i => i = mb) w W3 := Ext.of_below (by rw [HB.out]; exact hb3)
 clear q0 hb0 hM0 hS0 hbw hC hb3
 obtain ⟨f0, f1, f2⟩ := cs3 q1
 obtain ⟨ep, hep⟩ : ∃ ep, ep = epochOf t s.c.slots := ⟨_, rfl⟩
 have hepb : 0 ≤ ep ∧ ep ≤ 1099511627776 := by rw [hep]; exact epochOf_bd2 ht.2
 rw [← hep] at cE
 clear hep
 go_upto_region 4 with (go_at_call 53; refine (cE _).mono ?_; rintro e w4 ⟨rfl, rfl⟩)
 have K4 : ∀ W', Below W3.heap.size W3 W' → W'.cell? ⟨mb, 0, none⟩ = some (.pointer (some ⟨p.sb, 0, none⟩)) ∧ W'.cell? ⟨p.sb, 3, none⟩ = some (.pointer (some ⟨p.tb, 0, none⟩)) ∧ (W'.cell? ⟨B + 1, 0, none⟩ = some (.slice (some ⟨p.bb, 0, none⟩) s.c.bal.length k) ∧ W'.cell? ⟨B + 1, 1, none⟩ = some (.int .i64 s.c.slots) ∧ W'.cell? ⟨B + 1, 2, none⟩ = some (.int .i64 s.c.boost)) := fun W' hW => by
  obtain ⟨m0, _⟩ := cs3 (hM3.below hW).blk
  obtain ⟨_, _, _, c3, _⟩ := (hS3.below hW).cells
  exact ⟨m0, c3, cs3 (blk_below q1 hW)⟩
 have cS := fun W => EpochStart_calls W ep s.c.slots (by unfold inI; omega) hs2 hepb.2
 obtain ⟨es, hes⟩ : ∃ es, es = epochStart ep s.c.slots := ⟨_, rfl⟩
 rw [← hes] at cS
 have cA := fun (W : World) (hW : Below W3.heap.size W3 W) => At_calls (hS3.tree.below hW) hs.t r es
 obtain ⟨av, hav⟩ : ∃ av, av = s.tree.at_ r es := ⟨_, rfl⟩
 have havU : inU av := by rw [hav]; exact Tr.at_inU hs.t r es
 rw [← hav] at cA
 have hD3 : Below W3.heap.size W3 W3.drew := (Below.refl _ _).drew
 have HAv := Lib.hid havU
 have HEp := Lib.hid hepb
 clear hes hav f0 f1 f2 cE havU hepb
 go_cut [] (fun w' => w'.heap[B + 1 + 1]? = some (.cells #[.int .i64 t, .int .u64 r, .int .i64 0, .int .u64 0, .int .i64 ep, .int .u64 av, .slice none 0 0] 53 (0, 0)) ∧ Ext (fun i => i = B + 1 + 1) W3 w')
 case first =>
  refine beginK (fun w' => w'.cell? ⟨mb, 0, none⟩ = some (.pointer (some ⟨p.sb, 0, none⟩)) ∧ w'.cell? ⟨p.sb, 3, none⟩ = some (.pointer (some ⟨p.tb, 0, none⟩)) ∧ (w'.cell? ⟨B + 1, 0, none⟩ = some (.slice (some ⟨p.bb, 0, none⟩) s.c.bal.length k) ∧ w'.cell? ⟨B + 1, 1, none⟩ = some (.int .i64 s.c.slots) ∧ w'.cell? ⟨B + 1, 2, none⟩ = some (.int .i64 s.c.boost))) 16 (by rfl) ?_
  have hHeld := K4 _ hD3
  refine kW 0 26 hHeld ?_
  refine kW 1 27 hHeld ?_
  refine kW 2 28 hHeld ?_
  refine kW 3 29 hHeld ?_
  refine kW 4 30 hHeld ?_
  refine kW 5 31 hHeld ?_
  refine kW 6 32 hHeld ?_
  refine kW 7 33 hHeld ?_
  refine kW 8 34 hHeld ?_
  refine kW 9 35 hHeld ?_
  refine kW 10 36 hHeld ?_
  refine kW 11 37 hHeld ?_
  refine readyK (rs := [12]) (by kernel_rfl) (by simp) ?_
  refine AllReadyK.cons rfl (fun K hK => ?_) AllReadyK.nil
  go_simp
  refine (cS _).mono ?_
  rintro e w5 ⟨rfl, rfl⟩
  refine hK.out _ _ (fun _ => K4 _ hD3) ?_
  have hHeld := K4 _ hD3
  clear hK K
  try simp only [Act.put, sA, sB, sC]
  refine readyK (rs := [13]) (by kernel_rfl) (by simp) ?_
  refine AllReadyK.cons rfl (fun K hK => ?_) AllReadyK.nil
  go_simp
  refine (cA _ hD3).mono ?_
  rintro e W4 ⟨rfl, hb4'⟩
  have hW4 := hD3.trans (hb4'.mono hD3.size)
  refine hK.out _ _ (fun _ => K4 _ hW4) ?_
  have hHeld := K4 _ hW4
  clear hK K
  try simp only [Act.put, sA, sB, sC]
  refine kW 14 40 hHeld ?_
  refine kW 15 41 hHeld ?_
  refine readyK (rs := [16]) (by kernel_rfl) (by simp) ?_
  refine AllReadyK.cons rfl (fun K hK => ?_) AllReadyK.nil
  refine step_storeP (by rfl) 38 (.tmp 41) (.tmp 40) rfl (B + 1 + 1) 4 [.int .i64 t, .int .u64 r, .int .i64 0, .int .u64 0, .int .i64 0, .int .u64 0, .slice none 0 0] [.int .i64 ep, .int .u64 av] (blk_below q2 hW4) (by simp) rfl rfl iPt rfl [.int .i64 t, .int .u64 r, .int .i64 0, .int .u64 0, .int .i64 ep, .int .u64 av, .slice none 0 0] rfl ?_; intro W5 q5 hx5 hs5
  refine hK.out _ _ (fun h => absurd rfl h) ?_
  clear hK K
  try simp only [Act.put, sA, sB, sC]
  refine doneK (by kernel_rfl) ?_ _
  go_wp2
  go_meet
  case rel => exact ⟨q5, (Ext.of_below hW4).trans hx5 (fun _ _ h => h)⟩
 case rest =>
  obtain ⟨q5, hx5⟩ := hcut
  obtain ⟨W5, rfl⟩ : ∃ W5 : World, W5 = wc := ⟨_, rfl⟩
  have hmne : mb ≠ B + 1 + 1 := by omega
  have hM5 := hM3.ext q2 (by decide) (by omega) hx5
  have hS5 := hS3.turn hx5 (fun i hi e => by have e' : i = B + 1 + 1 := e; have := hplt i hi; omega) (keep_cells q2 hx5 (by decide))
  have q15 := blk_ext q1 hx5 (fun e => by have e' : B + 1 = B + 1 + 1 := e; omega)
  have q05 := blk_ext q03 hx5 (fun e => by have e' : B = B + 1 + 1 := e; omega)
  have hX5 := ext_new hX3 hx5 (by rw [HB.out]; omega)
  obtain ⟨m0, _⟩ := cs3 hM5.blk
  obtain ⟨v1, hv1⟩ : ∃ v1 : Vt, v1 = ⟨t, r, s.just, ⟨ep, av⟩, []⟩ := ⟨_, rfl⟩
  have HW1 : Hid v1.wf := by
   rw [hv1]
   have a := hs.je
   have b := HEp.out
   exact ⟨by unfold inI; show _ ≤ t ∧ t ≤ _; omega, hr, ⟨by unfold inI; show _ ≤ s.just.e ∧ s.just.e ≤ _; omega, hs.jr⟩, ⟨by unfold inI; show _ ≤ ep ∧ ep ≤ _; omega, HAv.out⟩, fun x hx => by cases hx⟩
  clear cS cA K4 hD3 hM3 hS3 q1 q2 q03 hX3
  go_upto_region 6 with (first
   | (refine wpList_loadP rfl 38 (.tmp 47) rfl p.sb 7 [.int .i64 s.just.e, .int .u64 s.just.r] (stC p s k vk ch) hS5.blk rfl rfl _ Tryz.underlying38 rfl iPt ?_)
   | (refine wpList_storeP rfl 38 (.tmp 49) (.tmp 48) rfl (B + 1 + 1) 2 [.int .i64 t, .int .u64 r, .int .i64 0, .int .u64 0, .int .i64 ep, .int .u64 av, .slice none 0 0] [.int .i64 s.just.e, .int .u64 s.just.r] q5 (by simp) rfl rfl iPt rfl [.int .i64 t, .int .u64 r, .int .i64 s.just.e, .int .u64 s.just.r, .int .i64 ep, .int .u64 av, .slice none 0 0] rfl ?_; intro W6 q6 hx6 hs6))
  have q6' : W6.heap[B + 1 + 1]? = some (.cells #[.int .i64 v1.slot, .int .u64 v1.head, .int .i64 v1.src.e, .int .u64 v1.src.r, .int .i64 v1.tgt.e, .int .u64 v1.tgt.r, .slice (none : Option Addr) v1.who.length 0] 53 (0, 0)) := by rw [hv1]; exact q6
  have hM6 := hM5.ext q5 (by decide) (by omega) hx6
  have q16 := blk_ext q15 hx6 (fun e => by have e' : B + 1 = B + 1 + 1 := e; omega)
  have q06 := blk_ext q05 hx6 (fun e => by have e' : B = B + 1 + 1 := e; omega)
  have hX6 := ext_new hX5 hx6 (by rw [HB.out]; omega)
  have c64 := next_calls hM6 64 (by omega)
  have hwho1 : v1.who = [] := by rw [hv1]
  have HWh := Lib.hid hwho1
  clear hv1 hwho1 q6 hx6 hs6 hM5 hS5 q15 q05 hX5 m0 q5 hx5 hM6
  go_upto_region 7 with (go_at_call 56; refine c64.mono ?_; rintro e W7 ⟨x64, n7, A7, k7, rfl, hx64, hM7, hx7⟩)
  have c4 := next_calls hM7 4 (by omega)
  clear c64
  go_upto_if 54 with (go_at_call 56; refine c4.mono ?_; rintro e W8 ⟨x4, n8, A8, k8, rfl, hx4, hM8, hx8⟩)
  have hx78 := hx7.trans hx8 (fun _ _ h => h)
  have q8 := blk_ext q6' hx78 (fun e => hmne (Eq.symm e))
  have q18 := blk_ext q16 hx78 (fun e => by have e' : B + 1 = mb := e; omega)
  have q08 := blk_ext q06 hx78 (fun e => by have e' : B = mb := e; omega)
  have hX8 := hX6.trans hx78 (fun _ _ h => h)
  clear c4 hx7 hx8 hx78 q6' q16 q06 hX6 hM7
  go_cut [10] (fun x w' => ∃ y : Int, x = .int .i64 y ∧ w' = W8)
  case first =>
   by_cases h4 : 0 < x4
   ·go_wp2
    go_meet
    case rel => exact ⟨_, rfl, rfl⟩
   ·go_wp2
    go_meet
    case rel => exact ⟨_, rfl, rfl⟩
  case rest =>
   obtain ⟨y, rfl, rfl⟩ := hcut
   obtain ⟨f0, -, -⟩ := cs3 q18
   have hl2 := hs.c.l2
   go_upto_block 0 with fail
   clear f0 q18
   go_cut [] (fun w' => ∃ (who : List Int) (Ak : Option Addr) (ck : Nat), who.length ≤ 4096 ∧ (∀ x ∈ who, inI x) ∧ w'.heap[B + 1 + 1]? = some (.cells #[.int .i64 v1.slot, .int .u64 v1.head, .int .i64 v1.src.e, .int .u64 v1.src.r, .int .i64 v1.tgt.e, .int .u64 v1.tgt.r, .slice Ak who.length ck] 53 (0, 0)) ∧ Hid (w'.ownsRow B 3 1 (.slice Ak who.length ck) who.length (who.map (Value.int .i64))) ∧ MkAt w' mb base p.sb n8 A8 k8 bl bv ∧ w'.heap[B]? = some (.cells #[.int .i64 0, .int .u64 0, .int .i64 0, .int .u64 0, .int .i64 0, .int .u64 0, .slice none 0 0] 53 (0, 0)) ∧ Ext (fun i => i = mb) w w')
   case first =>
    go_wp2
    go_loopw [61] (fun i wr => ∃ (j : Nat) (who : List Int) (Ak : Option Addr) (ck : Nat), j ≤ s.c.bal.length ∧ i = .int .i64 j ∧ who.length ≤ j ∧ (∀ x ∈ who, inI x) ∧ wr.heap[B + 1 + 1]? = some (.cells #[.int .i64 v1.slot, .int .u64 v1.head, .int .i64 v1.src.e, .int .u64 v1.src.r, .int .i64 v1.tgt.e, .int .u64 v1.tgt.r, .slice Ak who.length ck] 53 (0, 0)) ∧ Hid (wr.ownsRow B 3 1 (.slice Ak who.length ck) who.length (who.map (Value.int .i64))) ∧ Hid (MkAt wr mb base p.sb n8 A8 k8 bl bv) ∧ Hid (wr.heap[B]? = some (.cells #[.int .i64 0, .int .u64 0, .int .i64 0, .int .u64 0, .int .i64 0, .int .u64 0, .slice none 0 0] 53 (0, 0))) ∧ Hid (Ext (fun i => i = mb) w wr)) (fun i _ => s.c.bal.length - (intOf i).toNat)
    case atStart => exact ⟨0, [], none, 0, Nat.zero_le _, rfl, Nat.le_refl _, (fun x hx => by cases hx), by rw [HWh.out] at q8; exact q8, own_nil _ _ _ _, hM8, q08, hX8⟩
    case round =>
     clear q8 q08
     obtain ⟨j, who, Ak, ck, hj, rfl, hwl, hwi, qv, HO, HMj, HQ0, HXj⟩ := hrel
     by_cases hlt : j < s.c.bal.length
     ·have HWi := Lib.hid hwi
      have hBr : B ≤ wr.heap.size := by have := blk_lt HQ0.out; omega
      have HO1 := Lib.hid (HO.out.alloc (.cells #[.int .i64 j] 3))
      obtain ⟨_, _, _, _, _, _, v6⟩ := cs7 qv
      have HQv := Lib.hid qv
      have HOb : Hid (∀ g, (Value.slice Ak who.length ck).ownBlock = some g → g ≠ B + 1 + 1 ∧ g ≠ mb ∧ g ≠ B) := fun g hg => by
       obtain ⟨ds, hd, _⟩ := own_kind HO.out hg
       refine ⟨fun e => ?_, fun e => ?_, fun e => ?_⟩
       ·subst e; rw [qv] at hd; injection hd with hd; injection hd with _ e2 _; exact absurd e2 (by decide)
       ·subst e; rw [HMj.out.blk] at hd; injection hd with hd; injection hd with _ e2 _; exact absurd e2 (by decide)
       ·subst e; rw [HQ0.out] at hd; injection hd with hd; injection hd with _ e2 _; exact absurd e2 (by decide)
      clear hwi qv
      go_wp2_with (at_builtin; refine wpList_app B rfl (.tmp 70) (.tmp 72) 51 3 (.int .i64 0) 1 8 rfl Tryz.underlying51 infoInt rfl (by decide) _ who.length _ rfl HO1.out (some ⟨wr.heap.size, 0, none⟩) 1 1 [.int .i64 j] rfl rfl (Flat.one _ _ _) (by simp [Value.oneCell']) (by omega) (by omega) (by simp; omega) ?_; intro A' c' w2 hown hg _; have HO2 := Lib.hid hown; have HG := Lib.hid hg; have qv2 := grown_keep hg (blk_below HQv.out (below_alloc (Below.refl _ _) (.cells #[.int .i64 j] 3))) (fun e => (HOb.out _ e.symm).1 rfl); have zv := blk_frozen qv2 6; obtain ⟨_, _, _, _, _, _, v62⟩ := cs7 qv2; have HQv2 := Lib.hid qv2; clear hown hg qv2)
      ·go_roundw
       case rel =>
        have hx : Ext (fun i => i = B + 1 + 1) w2 (w2.setCell ⟨B + 1 + 1, 6, none⟩ (.slice A' (who.length + 1) c')) := (Ext.refl _ _).set1
        have hal : Below wr.heap.size wr (wr.alloc (.cells #[.int .i64 j] 3)) := below_alloc (Below.refl _ _) _
        have hx0 : Ext (fun i => some i = (Value.slice Ak who.length ck).ownBlock) (wr.alloc (.cells #[.int .i64 j] 3)) w2 := (Ext.refl _ _).grown HG.out (fun b hb => .inl hb.symm)
        have hM2 := (HMj.out.below hal).extF hx0 (fun e => (HOb.out _ e.symm).2.1 rfl) (fun i hi e => by have := own_base HO1.out i e.symm; omega) (fun g hg e => own_typed (HMj.out.below hal).rb HO1.out (by decide) hg e.symm)
        have hlen : (who ++ [(j : Int)]).length = who.length + 1 := by simp
        refine ⟨j + 1, who ++ [(j : Int)], A', c', by omega, by go_num, by omega, ?_, ?_, ?_, hM2.ext HQv2.out (by decide) (by omega) hx, ?_, ?_⟩
        ·intro x hx
         rcases List.mem_append.1 hx with h1 | h1
         ·exact HWi.out x h1
         ·simp only [List.mem_singleton] at h1
          subst h1
          unfold inI; omega
        ·rw [hlen]
         exact blk_set HQv2.out 6 _
        ·show World.ownsRow _ _ _ _ _ _ _
         rw [hlen]
         have : w2.ownsRow B 3 1 (.slice A' (who.length + 1) c') (who.length + 1) ((who ++ [(j : Int)]).map (Value.int .i64)) := by simpa using HO2.out
         exact own_ext this hx (fun b hb e => by
          obtain ⟨ds, hd, _⟩ := own_kind this hb
          have e' : b = B + 1 + 1 := e
          subst e'
          rw [HQv2.out] at hd
          injection hd with hd
          injection hd with _ e2 _
          exact absurd e2 (by decide))
        ·exact blk_ext (blk_ext (blk_below HQ0.out hal) hx0 (fun e => (HOb.out _ e.symm).2.2 rfl)) hx (fun e => by have e' : B = B + 1 + 1 := e; omega)
        ·exact ext_new ((HXj.out.alloc _).grown HG.out (fun b hb => .inr (by have := own_base HO1.out b hb; rw [HB.out]; exact this))) hx (by rw [HB.out]; omega)
       case measure => simp [intOf]; omega
      ·go_roundw
       case rel =>
        exact ⟨j + 1, who, Ak, ck, by omega, by go_num, by omega, HWi.out, HQv.out, HO, HMj, HQ0, HXj⟩
       case measure => simp [intOf]; omega
     ·obtain rfl : j = s.c.bal.length := by omega
      go_wp2
      go_meet
      case rel => exact ⟨who, Ak, ck, by omega, hwi, qv, HO, HMj.out, HQ0.out, HXj.out⟩
   case rest =>
    obtain ⟨who, Ak, ck, hwl, hwi, qv, HO, hM9, q09, hX9⟩ := hcut
    obtain ⟨W9, rfl⟩ : ∃ W9 : World, W9 = wc := ⟨_, rfl⟩
    have hv9 : MvS w mb B who Ak ck W9 := ⟨HO.out, q09, hX9⟩
    obtain ⟨v2, hv2⟩ : ∃ v2 : Vt, v2 = { v1 with who := who } := ⟨_, rfl⟩
    have hw2 : v2.who = who := by rw [hv2]
    have qv2 : W9.heap[B + 1 + 1]? = some (.cells #[.int .i64 v2.slot, .int .u64 v2.head, .int .i64 v2.src.e, .int .u64 v2.src.r, .int .i64 v2.tgt.e, .int .u64 v2.tgt.r, .slice Ak v2.who.length ck] 53 (0, 0)) := by rw [hv2]; exact qv
    have HW2 : Hid v2.wf := by
     rw [hv2]
     obtain ⟨a1, a2, a3, a4, _⟩ := HW1.out
     exact ⟨a1, a2, a3, a4, hwi⟩
    have c12 := next_calls hM9 12 (by omega)
    have HM9 := Lib.hid hM9
    have HV9 := Lib.hid hv9
    have HHw2 := Lib.hid hw2
    clear hv2 hwi qv HO q09 hX9 q8 q08 hX8 hM8 hM9 hv9 hw2
    go_upto_block 2 with (go_at_call 56; refine c12.mono ?_; rintro e W10 ⟨x12, n10, A10, k10, rfl, hx12, hM10, hx10⟩)
    have hv10 := HV9.out.mb HM9.out hx10 (by omega)
    have q10 := blk_ext qv2 hx10 (fun e => hmne (Eq.symm e))
    clear c12 qv2 hx10
    go_cut [] (fun w' => ∃ (v : Vt) (nn : List Int) (An : Option Addr) (kn : Nat), v.wf ∧ v.who = who ∧ w'.heap[B + 1 + 1]? = some (.cells #[.int .i64 v.slot, .int .u64 v.head, .int .i64 v.src.e, .int .u64 v.src.r, .int .i64 v.tgt.e, .int .u64 v.tgt.r, .slice Ak v.who.length ck] 53 (0, 0)) ∧ MkAt w' mb base p.sb nn An kn bl bv ∧ MvS w mb B who Ak ck w')
    case first =>
     have HM10 := Lib.hid hM10
     have HV10 := Lib.hid hv10
     clear hv10
     have c3 := next_calls hM10 3 (by omega)
     have cB := block_calls hM10
     have hmB : B ≠ mb := by omega
     clear hM10
     cases h10 : (x12 == 10) with
     | true =>
      clear cB
      go_wp2_with (first
       | (go_at_call 56; refine c3.mono ?_; rintro e W13 ⟨x3, n13, A13, k13, rfl, hx3, hM13, hx13⟩; have q13 := blk_ext q10 hx13 (fun e => hmne (Eq.symm e)))
       | (refine wpList_storeP rfl 38 (.tmp 83) (.tmp 82) rfl (B + 1 + 1) 2 [.int .i64 v2.slot, .int .u64 v2.head, .int .i64 v2.src.e, .int .u64 v2.src.r, .int .i64 v2.tgt.e, .int .u64 v2.tgt.r, .slice Ak v2.who.length ck] [.int .i64 x3, .int .u64 1] q13 (by simp) rfl rfl iPt rfl [.int .i64 v2.slot, .int .u64 v2.head, .int .i64 x3, .int .u64 1, .int .i64 v2.tgt.e, .int .u64 v2.tgt.r, .slice Ak v2.who.length ck] rfl ?_; intro W14 q14 hx14 hs14))
      go_meet
      case rel =>
       refine ⟨{ v2 with src := ⟨x3, 1⟩ }, n13, A13, k13, ?_, HHw2.out, q14, hM13.ext q13 (by decide) (by omega) hx14, (HV10.out.mb HM10.out hx13 hmB).bv q13 hx14 (by omega) (by rw [HB.out]; omega)⟩
       obtain ⟨a1, a2, a3, a4, a5⟩ := HW2.out
       exact ⟨a1, a2, ⟨by unfold inI; show _ ≤ x3 ∧ x3 ≤ _; omega, by unfold inU; show (0 : Int) ≤ 1 ∧ (1 : Int) ≤ _; omega⟩, a4, a5⟩
     | false =>
      cases h11 : (x12 == 11) with
      | true =>
       clear c3
       go_wp2_with (first
        | (go_at_call 57; refine cB.mono ?_; rintro e W13 ⟨rb, n13, A13, k13, rfl, hrb, hM13, hx13⟩; have q13 := blk_ext q10 hx13 (fun e => hmne (Eq.symm e)); obtain ⟨_, _, _, _, _, y5, _⟩ := cs7 q13; have z5 := blk_frozen q13 5))
       go_meet
       case rel =>
        have hx14 : Ext (fun i => i = B + 1 + 1) W13 (W13.setCell ⟨B + 1 + 1, 5, none⟩ (.int .u64 rb)) := (Ext.refl _ _).set1
        refine ⟨{ v2 with tgt := ⟨v2.tgt.e, rb⟩ }, n13, A13, k13, ?_, HHw2.out, blk_set q13 5 _, hM13.ext q13 (by decide) (by omega) hx14, (HV10.out.mb HM10.out hx13 hmB).bv q13 hx14 (by omega) (by rw [HB.out]; omega)⟩
        obtain ⟨a1, a2, a3, a4, a5⟩ := HW2.out
        exact ⟨a1, a2, a3, ⟨a4.1, hrb⟩, a5⟩
      | false =>
       clear c3 cB
       go_wp2
       go_meet
       case rel => exact ⟨v2, n10, A10, k10, HW2.out, HHw2.out, q10, HM10.out, HV10.out⟩
    case rest =>
     obtain ⟨v, nn, An, knn, hvw, hvwho, q11, hM11, hv11⟩ := hcut
     obtain ⟨W11, rfl⟩ : ∃ W11 : World, W11 = wc := ⟨_, rfl⟩
     have HV11 := Lib.hid hv11
     have q011 := hv11.2.1
     clear hv10 q10 hM10 hv11
     go_wp2_with (first
      | (refine wpList_loadB rfl 53 (.tmp 8) rfl (B + 1 + 1) [.int .i64 v.slot, .int .u64 v.head, .int .i64 v.src.e, .int .u64 v.src.r, .int .i64 v.tgt.e, .int .u64 v.tgt.r, .slice Ak v.who.length ck] q11 rfl _ Tryz.underlying53 rfl iVt ?_)
      | (refine wpList_storeB rfl 53 (.tmp 6) (.tmp 90) rfl B [.int .i64 0, .int .u64 0, .int .i64 0, .int .u64 0, .int .i64 0, .int .u64 0, .slice none 0 0] [.int .i64 v.slot, .int .u64 v.head, .int .i64 v.src.e, .int .u64 v.src.r, .int .i64 v.tgt.e, .int .u64 v.tgt.r, .slice Ak v.who.length ck] q011 rfl rfl rfl iVt rfl ?_; intro W12 q12 hx12 hs12))
     refine bodyPost_ret (results_cellB rfl _ B _ q12 rfl _ Tryz.underlying53 rfl iVt) rfl ?_
     have hf : Fits who.length ck := own_fits HV11.out.1
     have hown : W12.ownsRow B 3 1 (.slice Ak who.length ck) who.length (who.map (Value.int .i64)) := own_ext HV11.out.1 hx12 (fun b hb e => by
      obtain ⟨ds, hd, _⟩ := own_kind HV11.out.1 hb
      have e' : b = B := e
      subst e'
      rw [q011] at hd
      injection hd with hd
      injection hd with _ e2 _
      exact absurd e2 (by decide))
     exact ⟨v, Ak, ck, nn, An, knn, rfl, hvw, by rw [hvwho]; exact hwl, by rw [hvwho]; exact hf, by rw [hvwho, HB.out]; exact hown, hM11.ext q011 (by decide) hbm hx12, ext_new HV11.out.2.2 hx12 (by rw [HB.out]; omega)⟩
end Go.Proofs.YtnppimhlfcjghaaGreat
