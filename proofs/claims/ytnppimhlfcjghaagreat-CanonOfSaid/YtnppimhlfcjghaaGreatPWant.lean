import Derived.Test.YtnppimhlfcjghaaGreatPFirst
import Derived.Test.YtnppimhlfcjghaaGreatPOpsK
set_option linter.all false
set_option linter.unusedVariables false
set_option linter.unusedSimpArgs false
namespace Go.Proofs.YtnppimhlfcjghaaGreat
open Go.RowKit
set_option maxRecDepth 100000
set_option maxHeartbeats 4000000
theorem wflag_calls (w : World) (b : Bool) : Calls Tryz.prog 44 #[.bool b] w fun e w' => e = .returned (.int .u64 (bitN b)) ∧ w = w' := by
 cases b <;>
 ·go_enter Tryz.func44, Tryz.ntmps44
  go_wp2
  go_ret
  exact ⟨rfl, rfl⟩
structure WRow (B : Nat) (F : Nat → Prop) (w : World) (A : Option Addr) (c : Nat) (xs : List Int) : Prop where
 own : w.ownsRow B 23 1 (.slice A xs.length c) xs.length (xs.map (Value.int .u64))
 off : ∀ g, (Value.slice A xs.length c).ownBlock = some g → ¬ F g
theorem WRow.below {B : Nat} {F : Nat → Prop} {w w' : World} {A : Option Addr} {c : Nat} {xs : List Int} (h : WRow B F w A c xs) (hb : Below w.heap.size w w') : WRow B F w' A c xs := ⟨own_below h.own hb, h.off⟩
theorem WRow.app {B : Nat} {F : Nat → Prop} {w w' : World} {A A' : Option Addr} {c c' m : Nat} {xs ys : List Int} (h : WRow B F w A c xs) (hm : ys.length = m) (ho : w'.ownsRow B 23 1 (.slice A' (xs.length + m) c') (xs.length + m) (xs.map (Value.int .u64) ++ ys.map (Value.int .u64)))
    (hk : (Value.slice A' (xs.length + m) c').ownBlock = (Value.slice A xs.length c).ownBlock ∨ (Value.slice A' (xs.length + m) c').ownBlock = some w.heap.size) (hF : ¬ F w.heap.size) : WRow B F w' A' c' (xs ++ ys) := by
 subst hm
 refine ⟨by rw [List.length_append, List.map_append]; exact ho, fun g hg => ?_⟩
 rw [List.length_append] at hg
 rcases hk with hk | hk
 ·exact h.off g (hk ▸ hg)
 ·rw [hk] at hg
  injection hg with hg
  rw [← hg]; exact hF
theorem WRow.ext {B : Nat} {F : Nat → Prop} {w w' : World} {A : Option Addr} {c : Nat} {xs : List Int} (h : WRow B F w A c xs) (hg : w.grownBy w' (Value.slice A xs.length c).ownBlock) : Ext (fun i => B ≤ i ∧ ¬ F i) w w' :=
 (Ext.refl _ w).grown hg (fun b hb => .inl ⟨own_base h.own b hb, h.off b hb⟩)
theorem flat_blk {w : World} {b : Nat} {cs : List Value} {t : TypeId} (h : w.heap[b]? = some (.cells cs.toArray t (0, 0))) : Flat w (some ⟨b, 0, none⟩) cs := fun _ => ⟨_, rfl, fun j u hu => by
 have ha : (⟨b, 0, none⟩ : Addr).add j = ⟨b, 0 + j, none⟩ := by unfold Addr.add; split <;> simp_all
 rw [ha, Nat.zero_add, blk_cell h]
 simpa using hu⟩
theorem u64_one (ys : List Int) : ∀ u ∈ ys.map (Value.int .u64), u.oneCell' = true := fun u hu => by
 obtain ⟨y, _, rfl⟩ := List.mem_map.1 hu
 rfl
theorem Want_calls {w : World} {p : Places} {s : St} {k vk : Nat} {ch : Value} (h : StoreAt w p s k vk ch) (hs : s.num) (head : Int) :
    Calls Tryz.prog 16 #[.pointer (some ⟨p.sb, 0, none⟩), .int .u64 head] w (RetBytes (bes (canonL s head)) w) := by
 obtain ⟨sb, tb, nb, vb, lb, gb, bb⟩ := p
 have hq := h.blk
 unfold stC at hq
 simp only at hq
 obtain ⟨sl, je, fe, nl, nd, vl, ve⟩ := hs
 obtain ⟨B, HB, hB1, hB2⟩ := size_hid w
 have K : ∀ W, Below w.heap.size w W → (W.cell? ⟨sb, 0, none⟩ = some (.slice (some ⟨bb, 0, none⟩) s.c.bal.length k) ∧ W.cell? ⟨sb, 1, none⟩ = some (.int .i64 s.c.slots) ∧ W.cell? ⟨sb, 2, none⟩ = some (.int .i64 s.c.boost) ∧ W.cell? ⟨sb, 3, none⟩ = some (.pointer (some ⟨tb, 0, none⟩)) ∧ W.cell? ⟨sb, 4, none⟩ = some (.slice (some ⟨vb, 0, none⟩) s.votes.length vk) ∧ W.cell? ⟨sb, 5, none⟩ = some (.int .i64 s.slot) ∧ W.cell? ⟨sb, 6, none⟩ = some (.int .u64 s.boosted) ∧ W.cell? ⟨sb, 7, none⟩ = some (.int .i64 s.just.e) ∧ W.cell? ⟨sb, 8, none⟩ = some (.int .u64 s.just.r) ∧ W.cell? ⟨sb, 9, none⟩ = some (.int .i64 s.fin.e) ∧ W.cell? ⟨sb, 10, none⟩ = some (.int .u64 s.fin.r) ∧ W.cell? ⟨sb, 11, none⟩ = some (.map (some lb)) ∧ W.cell? ⟨sb, 12, none⟩ = some (.map (some gb)) ∧ W.cell? ⟨sb, 13, none⟩ = some (ch)) := fun W hW => cs14 (blk_below hq hW)
 have cL := fun (W : World) (hW : Below w.heap.size w W) => Len_calls (h.tree.below hW)
 have hD : Below w.heap.size w w.drew := (Below.refl _ _).drew
 have HR := fun (W : World) (hW : Below w.heap.size w W) => Roots_calls (h.tree.below hW) (by omega)
 have HG := fun (W : World) (hW : Below w.heap.size w W) (r : Int) => Get_calls (h.tree.below hW) r
 have HVt := Lib.hid h.votes
 have HND := Lib.hid nd
 have HVE := Lib.hid ve
 obtain ⟨L0, hL0⟩ : ∃ L0, L0 = canonH s head := ⟨_, rfl⟩
 have HL0 := Lib.hid hL0
 have h8 : L0.length = 8 := by rw [hL0]; rfl
 have y1 : IntKind.u64.wrap s.slot = s.slot := IntWalk.u64_in _ (by omega)
 have y2 : IntKind.u64.wrap s.just.e = s.just.e := IntWalk.u64_in _ (by omega)
 have y3 : IntKind.u64.wrap s.fin.e = s.fin.e := IntWalk.u64_in _ (by omega)
 have y4 : IntKind.u64.wrap (s.tree.nodes.length : Int) = s.tree.nodes.length := IntWalk.u64_in _ (by omega)
 clear hL0 h hq nd ve
 go_enter Tryz.func16, Tryz.ntmps16
 go_upto_region 1 with fail
 go_cut [5] (fun v w' => ∃ A c, v = .slice A L0.length c ∧ Hid (WRow w.heap.size (fun i => w'.heap.size ≤ i) w' A c L0) ∧ Below w.heap.size w w')
 case first =>
  go_region_held3 (fun w' => (w'.cell? ⟨sb, 0, none⟩ = some (.slice (some ⟨bb, 0, none⟩) s.c.bal.length k) ∧ w'.cell? ⟨sb, 1, none⟩ = some (.int .i64 s.c.slots) ∧ w'.cell? ⟨sb, 2, none⟩ = some (.int .i64 s.c.boost) ∧ w'.cell? ⟨sb, 3, none⟩ = some (.pointer (some ⟨tb, 0, none⟩)) ∧ w'.cell? ⟨sb, 4, none⟩ = some (.slice (some ⟨vb, 0, none⟩) s.votes.length vk) ∧ w'.cell? ⟨sb, 5, none⟩ = some (.int .i64 s.slot) ∧ w'.cell? ⟨sb, 6, none⟩ = some (.int .u64 s.boosted) ∧ w'.cell? ⟨sb, 7, none⟩ = some (.int .i64 s.just.e) ∧ w'.cell? ⟨sb, 8, none⟩ = some (.int .u64 s.just.r) ∧ w'.cell? ⟨sb, 9, none⟩ = some (.int .i64 s.fin.e) ∧ w'.cell? ⟨sb, 10, none⟩ = some (.int .u64 s.fin.r) ∧ w'.cell? ⟨sb, 11, none⟩ = some (.map (some lb)) ∧ w'.cell? ⟨sb, 12, none⟩ = some (.map (some gb)) ∧ w'.cell? ⟨sb, 13, none⟩ = some (ch)))
   (first | (with_reducible exact K _ hD) | (with_reducible exact K _ (by assumption)) | exact K _ (below_alloc (Below.refl _ _) _).drew)
   (first
     | (go_at_call 21; refine (cL _ hD).mono ?_; rintro e w2 ⟨rfl, rfl⟩))
  go_wp2
  go_meet
  case rel =>
   refine ⟨some ⟨w.heap.size, 0, none⟩, 8, by rw [h8], ?_, (below_alloc (Below.refl _ _) _).drew⟩
   show WRow _ _ _ _ _ _
   rw [HL0.out]
   exact ⟨own_blk (heap_newD w (.cells ((canonH s head).map (Value.int .u64)).toArray 23)) (Nat.le_refl _) rfl (by show 8 ≤ maxLen; decide), fun g hg => by
    have e : w.heap.size = g := by simpa [Value.ownBlock] using hg
    subst e
    simp⟩
 case rest =>
  obtain ⟨A0, c0, rfl, HW0, hb0⟩ := hcut
  obtain ⟨W1, rfl⟩ : ∃ W1 : World, W1 = wc := ⟨_, rfl⟩
  obtain ⟨_, _, _, x3, _⟩ := K _ hb0
  go_wp2_with (go_at_call 41; refine (HR _ hb0).mono ?_; rintro e W2 ⟨AR, cR, rfl, hIR, hbR⟩)
  have hb2 : Below w.heap.size w W2 := hb0.trans (hbR.mono hb0.size)
  have hIR2 : Ints (fun b => W1.heap.size ≤ b ∧ b < W2.heap.size) .u64 W2 AR s.tree.roots := Lie.lt hIR (by decide)
  have hs12 : W1.heap.size ≤ W2.heap.size := hbR.size
  have HW2 : Hid (WRow w.heap.size (fun i => W1.heap.size ≤ i ∧ i < W2.heap.size) W2 A0 c0 L0) := ⟨own_below HW0.out.own hbR, fun g hg hF => HW0.out.off g hg hF.1⟩
  have HIR := Lib.hid hIR2
  have HB2 := Lib.hid hb2
  have HS12 := Lib.hid hs12
  have hRl : s.tree.roots.length ≤ 1024 := by rw [roots_length]; exact nl
  obtain ⟨R, hR⟩ : ∃ R, R = s.tree.roots := ⟨_, rfl⟩
  rw [← hR] at hRl HIR ⊢
  have HRe := Lib.hid hR
  obtain ⟨FF, hFF⟩ : ∃ FF : Nat → Prop, FF = fun i => W1.heap.size ≤ i ∧ i < W2.heap.size := ⟨_, rfl⟩
  rw [← hFF] at HW2 HIR
  have HFF : Hid (∀ i, W2.heap.size ≤ i → ¬ FF i) := fun i hi hF => by rw [hFF] at hF; omega
  clear hR x3 hIR hIR2 hbR hb0 cL HR hD HW0 hs12 hFF
  go_loopw [5, 59] (fun o i wr => ∃ (j : Nat) (A : Option Addr) (c : Nat), j ≤ R.length ∧ i = .int .i64 j ∧ o = .slice A (L0 ++ (R.take j).flatMap (canonN s.tree)).length c ∧ Hid (WRow w.heap.size FF wr A c (L0 ++ (R.take j).flatMap (canonN s.tree))) ∧ Hid (Ints FF .u64 wr AR R) ∧ Hid (Below w.heap.size w wr ∧ W2.heap.size ≤ wr.heap.size)) (fun _ i _ => R.length - (intOf i).toNat)
  case atStart => exact ⟨0, A0, c0, Nat.zero_le _, rfl, by simp [h8], by show WRow _ _ _ _ _ _; simpa using HW2.out, HIR, HB2.out, Nat.le_refl _⟩
  case round =>
   obtain ⟨j, A, c, hj, rfl, rfl, HI, HIr, HW⟩ := hrel
   have hbr : Below w.heap.size w wr := HW.out.1
   have hXl : (L0 ++ (R.take j).flatMap (canonN s.tree)).length ≤ 3100 := by
    rw [List.length_append, flat3, h8, List.length_take]; omega
   by_cases hlt : j < R.length
   ·obtain ⟨b, o, rfl, _, hc⟩ := HIr.out.get hlt
    have HT : Hid (L0 ++ (R.take (j + 1)).flatMap (canonN s.tree) = (L0 ++ (R.take j).flatMap (canonN s.tree)) ++ canonN s.tree (R.getD j 0)) := by
     show _ = _
     rw [flatMap_take _ _ _ hlt, ← List.append_assoc, List.getD_eq_getElem?_getD, List.getElem?_eq_getElem hlt]; rfl
    generalize L0 ++ (R.take j).flatMap (canonN s.tree) = X at HI HT hXl ⊢
    generalize R.getD j 0 = r at hc HT
    obtain ⟨_, _, _, x3, _⟩ := K _ hbr
    have y5 : IntKind.u64.wrap (s.tree.nd r).slot = (s.tree.nd r).slot := IntWalk.u64_in _ (by have := HND.out r; omega)
    go_wp2_with (first
     | (go_at_call 42; refine (HG _ hbr r).mono ?_; rintro e w3 ⟨rfl, hb3⟩)
     | (at_builtin; refine wpList_app w.heap.size rfl (.tmp 74) (.tmp 79) 25 23 (.int .u64 0) 1 8 rfl Tryz.underlying25 It.infoU64 rfl (by decide) _ X.length _ rfl (own_below HI.out.own (below_then hb3 hb3.size (below_alloc (Below.refl _ _) _))) (some ⟨w3.heap.size, 0, none⟩) 3 3 ((canonN s.tree r).map (Value.int .u64)) rfl rfl (flat_blk (heap_new w3 _)) (u64_one _) (by omega) (by omega) (Nat.le_trans hbr.size (Nat.le_trans hb3.size (by simp))) ?_; intro A' c' w4 ho4 hg4 hk4))
    have hba := below_then hb3 hb3.size (below_alloc (Below.refl w3.heap.size w3) (.cells ((canonN s.tree r).map (Value.int .u64)).toArray 23))
    have hI4 := HI.out.below hba
    have hx4 := hI4.ext hg4
    have hn4 : ¬ FF (w3.alloc (.cells ((canonN s.tree r).map (Value.int .u64)).toArray 23)).heap.size := HFF.out _ (Nat.le_trans HW.out.2 hba.size)
    have hr4 := hI4.app (ys := canonN s.tree r) rfl ho4 hk4 hn4
    have hir4 := (HIr.out.below hba).keep hx4 (fun i hi hF => hF.2 hi)
    have hb4 : Below w.heap.size w w4 := (below_then hbr hbr.size hba).trans (hx4.below (below_then hbr hbr.size hba).size (fun i hi hF => by have := hF.1; omega))
    have hs4 : W2.heap.size ≤ w4.heap.size := Nat.le_trans HW.out.2 (Nat.le_trans hba.size hx4.size)
    go_roundw
    case rel =>
     refine ⟨j + 1, A', c', by omega, by go_num, by rw [HT.out, List.length_append]; rfl, ?_, hir4, hb4, hs4⟩
     show WRow _ _ _ _ _ _
     rw [HT.out]; exact hr4
    case measure => simp [intOf]; omega
   ·obtain rfl : j = R.length := by omega
    rw [List.take_length] at HI hXl ⊢
    obtain ⟨L1, hL1⟩ : ∃ L1, L1 = (L0 ++ R.flatMap (canonN s.tree)) ++ [(s.votes.length : Int)] := ⟨_, rfl⟩
    have HLe := Lib.hid hL1
    have h8l : L1.length = 8 + 3 * R.length + 1 := by rw [hL1]; simp only [List.length_append, flat3, List.length_cons, List.length_nil, h8]
    generalize L0 ++ R.flatMap (canonN s.tree) = X at HI hXl hL1 ⊢
    have HL1 := Lib.hid hL1
    obtain ⟨_, _, _, _, x4, _⟩ := K _ hbr
    have y6 : IntKind.u64.wrap (s.votes.length : Int) = s.votes.length := IntWalk.u64_in _ (by omega)
    clear hL1
    go_upto_region 9 with (at_builtin; refine wpList_app w.heap.size rfl (.tmp 82) (.tmp 89) 25 23 (.int .u64 0) 1 8 rfl Tryz.underlying25 It.infoU64 rfl (by decide) _ X.length _ rfl (own_below HI.out.own (below_alloc (Below.refl _ _) _)) (some ⟨wr.heap.size, 0, none⟩) 1 1 ([(s.votes.length : Int)].map (Value.int .u64)) rfl rfl (flat_blk (heap_new wr _)) (u64_one _) (by omega) (by omega) (Nat.le_trans hbr.size (by simp)) ?_; intro A5 c5 W4 ho5 hg5 hk5)
    have hba5 := below_alloc (Below.refl wr.heap.size wr) (.cells ([(s.votes.length : Int)].map (Value.int .u64)).toArray 23)
    have hI5 := HI.out.below hba5
    have hx5 := hI5.ext hg5
    have hr5 := hI5.app (ys := [(s.votes.length : Int)]) rfl ho5 hk5 (HFF.out _ (Nat.le_trans HW.out.2 hba5.size))
    have hb5 : Below w.heap.size w W4 := (below_then hbr hbr.size hba5).trans (hx5.below (below_then hbr hbr.size hba5).size (fun i hi hF => by have := hF.1; omega))
    have hs5 : W2.heap.size ≤ W4.heap.size := Nat.le_trans HW.out.2 (Nat.le_trans hba5.size hx5.size)
    have HR5 : Hid (WRow w.heap.size FF W4 A5 c5 L1) := by
     show WRow _ _ _ _ _ _
     rw [HL1.out]; exact hr5
    have HL5 : Hid (X.length + 1 = L1.length) := by show _ = _; rw [HL1.out]; simp
    have HW5 := Lib.hid (And.intro hb5 hs5)
    obtain ⟨_, _, _, _, x5, _⟩ := K _ hb5
    clear hba5 hI5 hx5 hr5 hb5 hs5 ho5 hg5 hk5 x4 HI HIr hbr HB2 HW2 HIR
    go_wp2
    go_loopw [5, 96] (fun o i wr => ∃ (j : Nat) (A : Option Addr) (c : Nat), j ≤ s.votes.length ∧ i = .int .i64 j ∧ o = .slice A (L1 ++ (s.votes.take j).flatMap canonE).length c ∧ Hid (WRow w.heap.size FF wr A c (L1 ++ (s.votes.take j).flatMap canonE)) ∧ Hid (Below w.heap.size w wr ∧ W2.heap.size ≤ wr.heap.size)) (fun _ i _ => s.votes.length - (intOf i).toNat)
    case atStart => exact ⟨0, A5, c5, Nat.zero_le _, rfl, by rw [List.take_zero, List.flatMap_nil, List.append_nil, ← HL5.out], by show WRow _ _ _ _ _ _; simpa using HR5.out, HW5.out⟩
    case round =>
     clear HW hlt hj
     obtain ⟨j, A, c, hj, rfl, rfl, HI, HW⟩ := hrel
     have hYl : (L1 ++ (s.votes.take j).flatMap canonE).length ≤ 25000 := by
      rw [List.length_append, flat4, h8l, List.length_take]; omega
     by_cases hlt : j < s.votes.length
     ·have hV : wr.heap[vb]? = some (.cells (s.votes.flatMap enC).toArray 114 (0, 0)) := HVt.out.below HW.out.1
      have HT : Hid (L1 ++ (s.votes.take (j + 1)).flatMap canonE = (L1 ++ (s.votes.take j).flatMap canonE) ++ canonE s.votes[j]) := by
       show _ = _
       rw [flatMap_take _ _ _ hlt, ← List.append_assoc]
      have hpart := flat_part s.votes j hlt
      have hxe := HVE.out _ (List.getElem_mem hlt)
      generalize L1 ++ (s.votes.take j).flatMap canonE = Y at HI HT hYl ⊢
      generalize s.votes[j] = x at HT hpart hxe
      have y7 : IntKind.u64.wrap x.epoch = x.epoch := IntWalk.u64_in _ (by omega)
      have hal := heap_new wr (.cells #[.bool x.has, .int .i64 x.epoch, .int .u64 x.root, .bool x.banned] 114)
      have hba := below_alloc (Below.refl wr.heap.size wr) (.cells #[.bool x.has, .int .i64 x.epoch, .int .u64 x.root, .bool x.banned] 114)
      go_upto_region 12 with (first
       | (refine wpList_loadP rfl 114 (.tmp 98) rfl vb (j * 4) [.bool x.has, .int .i64 x.epoch, .int .u64 x.root, .bool x.banned] (s.votes.flatMap enC) hV hpart rfl _ Tryz.underlying114 rfl iEn ?_)
       | (refine wpList_box 114 13 _ (.tmp 99) [.bool x.has, .int .i64 x.epoch, .int .u64 x.root, .bool x.banned] rfl rfl rfl zEn rfl rfl iEn rfl ?_))
      have HVB := Lib.hid (Eq.refl wr.heap.size)
      obtain ⟨W5, hW5⟩ : ∃ W5, W5 = wr.alloc (.cells #[.bool x.has, .int .i64 x.epoch, .int .u64 x.root, .bool x.banned] 114) := ⟨_, rfl⟩
      rw [← hW5] at hal hba ⊢
      generalize wr.heap.size = VB at hal
      clear hW5
      have hI5 := HI.out.below hba
      have hD5 : Below W5.heap.size W5 W5.drew := (Below.refl _ _).drew
      have K2 : ∀ W, Below W5.heap.size W5 W → (W.cell? ⟨VB, 0, none⟩ = some (.bool x.has) ∧ W.cell? ⟨VB, 1, none⟩ = some (.int .i64 x.epoch) ∧ W.cell? ⟨VB, 2, none⟩ = some (.int .u64 x.root) ∧ W.cell? ⟨VB, 3, none⟩ = some (.bool x.banned)) := fun W hW => cs4 (blk_below hal hW)
      have HI5 := Lib.hid hI5
      have HAL := Lib.hid hal
      have hbw5 : w.heap.size ≤ W5.heap.size := Nat.le_trans HW.out.1.size hba.size
      clear hal
      have hba6 : Below W5.heap.size W5 (W5.alloc (.cells ((canonE x).map (Value.int .u64)).toArray 23)).drew := (below_alloc (Below.refl _ _) _).drew
      have hne := own_type_ne HI5.out.own HAL.out (by decide)
      have HNE := Lib.hid hne
      clear hne
      go_region_held3 (fun w' => (w'.cell? ⟨VB, 0, none⟩ = some (.bool x.has) ∧ w'.cell? ⟨VB, 1, none⟩ = some (.int .i64 x.epoch) ∧ w'.cell? ⟨VB, 2, none⟩ = some (.int .u64 x.root) ∧ w'.cell? ⟨VB, 3, none⟩ = some (.bool x.banned)))
       (first | (with_reducible exact K2 _ hD5) | exact K2 _ hba6 | exact cs4 hq3)
       (first
         | (go_at_call 44; refine (wflag_calls _ _).mono ?_; rintro e w2 ⟨rfl, rfl⟩)
         | (refine step_app w.heap.size rfl (.tmp 100) (.tmp 112) 25 23 (.int .u64 0) 1 8 rfl Tryz.underlying25 It.infoU64 rfl (by decide) _ Y.length _ rfl (own_below HI5.out.own hba6) (some ⟨W5.heap.size, 0, none⟩) 4 4 ((canonE x).map (Value.int .u64)) rfl rfl (flat_blk (heap_newD W5 _)) (u64_one _) (by omega) (by omega) (Nat.le_trans hbw5 hba6.size) ?_; intro A' c' w3 ho3 hg3 hk3; have hq3 := (hg3.block VB (blk_lt (blk_below HAL.out hba6)) HNE.out).trans (blk_below HAL.out hba6)))
      have hI6 := HI5.out.below hba6
      have hx6 := hI6.ext hg3
      have hr6 := hI6.app (ys := canonE x) rfl ho3 hk3 (HFF.out _ (Nat.le_trans HW.out.2 (Nat.le_trans hba.size hba6.size)))
      have hb6a : Below w.heap.size w (W5.alloc (.cells ((canonE x).map (Value.int .u64)).toArray 23)).drew := below_then (below_then HW.out.1 HW.out.1.size hba) (Nat.le_trans HW.out.1.size hba.size) hba6
      have hb6 : Below w.heap.size w w3 := hb6a.trans (hx6.below hb6a.size (fun i hi hF => by have := hF.1; omega))
      have hs6 : W2.heap.size ≤ w3.heap.size := Nat.le_trans HW.out.2 (Nat.le_trans hba.size (Nat.le_trans hba6.size hx6.size))
      go_wp2
      go_roundw
      case rel =>
       refine ⟨j + 1, A', c', by omega, by go_num, by rw [HT.out, List.length_append]; rfl, ?_, hb6, hs6⟩
       show WRow _ _ _ _ _ _
       rw [HT.out]; exact hr6
      case measure => simp [intOf]; omega
     ·obtain rfl : j = s.votes.length := by omega
      rw [List.take_length] at HI hYl ⊢
      have he : L1 ++ s.votes.flatMap canonE = canonL s head := by
       rw [HLe.out, HL0.out, HRe.out]; rfl
      rw [he] at HI hYl ⊢
      go_upto_region 14 with fail
      have hO := HI.out.own
      have hf := own_fits hO
      go_wp2_with (go_at_call 40; refine (Put_ret _ none 0 0 [] A (canonL s head).length c (canonL s head) Lie.nil (Ints.of_own hO).any rfl rfl (by rw [List.length_nil]; omega)).mono ?_; rintro e w4 ⟨A', c', rfl, hI', hb', hF'⟩)
      go_ret
      exact ⟨A', c', rfl, hI', HW.out.1.trans (hb'.mono HW.out.1.size), hF'⟩
end Go.Proofs.YtnppimhlfcjghaaGreat
