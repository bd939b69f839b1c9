/- WireBytes, walked. -/
import Derived.Test.YtccficljaomhhaaL04g
import Derived.Deep.RegionHeldLaw
namespace Go.Proofs.Ytccficljaomhhaa
open Go.RowKit
attribute [local go_sem ↓] Go.wp_at_zero Go.wp_at_succ
attribute [local go_sem] Go.undef
theorem wpList_load_midg {P : Program} {ops : Array Oper} {rest : List Oper} {op : Oper} {a : Act} {w : World} {Q : Exit → Act → World → Prop} (hw : Region.wanted op (yielded ops a.tmps) = true) (ty : TypeId) (x : Operand) (ho : op.op = .load ty x)
    (b o : Nat) (hx : a.eval x = .pointer (some ⟨b, o, none⟩)) (cs : List Value) (d : TypeDesc) (hc : w.rangeAt b o cs)
    (hu : P.underlying ty = some d) (hd : d.isRow = true) (hi : (P.info? ty).map (·.size) = some cs.length)
    (h : wpList P ops Q rest (a.put op.dst (.agg cs.toArray)) w) : wpList P ops Q (op :: rest) a w :=
  wpList_step fun K hK => by rw [if_pos hw]; exact wp_load_mid ty x ho b o hx cs d hc hu hd hi (hK _ _ h)
theorem flat_blk {w : World} {b : Nat} {t : TypeId} {f : Nat × Nat} {cs : List Value} (h : w.heap[b]? = some (.cells cs.toArray t f)) : Flat w (some ⟨b, 0, none⟩) cs :=
  fun _ => ⟨⟨b, 0, none⟩, rfl, fun j u hj => by rw [show (⟨b, 0, none⟩ : Addr).add j = ⟨b, j, none⟩ from by simp [Addr.add]; omega, blk_cell h]; simpa using hj⟩
set_option maxRecDepth 100000 in
set_option maxHeartbeats 2000000 in
theorem WireBytes_calls (w : World) (A : Option Addr) (c : Nat) (es : List Ev) (hes : Evs anyB w A es) (hm : es.length ≤ maxLen) (_ : ∀ e ∈ es, e.wf) :
    Calls Try.prog 3 #[.slice A es.length c] w fun e w' => e = .returned (.bool true) ∧ Below w.heap.size w w' := by
  have hm' := hm
  unfold maxLen at hm
  by_cases hL : es.length ≤ 300
  · have HEV : Hid (∀ w', Below w.heap.size w w' → Evs (· < w.heap.size) w' A es) := fun w' h => (Evs.lt hes).mono (fun b hb => hb.2) (fun b hb _ => h.block b hb.2)
    obtain ⟨B, HB, hB1, hB2⟩ := size_hid w
    rw [HB.out] at HEV ⊢
    go_enter Try.func3, Try.ntmps3
    go_upto_region 5 with (go_at_call 9; refine (l04awake_calls _).mono ?_; rintro e w1 ⟨rfl, hb1⟩)
    go_wp2
    have hbB1 := hb1.mono hB2
    clear hb1
    go_loopw [18, 3, 4] (fun i a s wr => ∃ k : Nat, k ≤ es.length ∧ i = .int .i64 k ∧ (∃ p, a = .bool p ∧ Hid (p = (es.take k).all mayB)) ∧ (∃ A' n' c' gcs, s = .slice A' n' c' ∧ wr.ownsRow B 38 28 (.slice A' n' c') n' gcs ∧ Hid (((es.take k).filter mayB).length = n' ∧ ∀ j x, ((es.take k).filter mayB)[j]? = some x → EvK (· < B) w x ((gcs.drop (j * 28)).take 28))) ∧ Below B w wr) (fun i _ _ _ => es.length - (intOf i).toNat)
    case atStart => exact ⟨0, Nat.zero_le _, rfl, ⟨true, rfl, rfl⟩, ⟨none, 0, 0, [], rfl, own_nil _ _ _ _, rfl, fun j x h => by simp at h⟩, hbB1⟩
    case round =>
      clear hbB1
      obtain ⟨k, hk, rfl, ⟨p, rfl, HP⟩, ⟨A', n', c', gcs, rfl, ho, HG⟩, hbr⟩ := hrel
      have HO := Lib.hid ho
      clear ho
      by_cases hlt : k < es.length
      · obtain ⟨e, hx⟩ : ∃ e, es[k]? = some e := ⟨_, List.getElem?_eq_getElem hlt⟩
        obtain ⟨bb, o, rfl, _, A1, c1, A2, c2, A3, c3, A4, c4, A5, c5, hr, hat⟩ := (HEV.out _ hbr).get hx
        have HX := Lib.hid hx
        have HAT := Lib.hid hat
        clear hx hat
        go_upto_region 10 with (first | (refine wpList_load_mid rfl 38 _ rfl _ _ rfl [.int .i64 e.kind, .int .i64 e.slot, .int .u64 e.block.root, .int .u64 e.block.parent, .int .i64 e.block.slot, .slice A1 e.block.votes.length c1, .slice A2 e.block.proofs.length c2, .int .i64 e.vote.slot, .int .u64 e.vote.head, .int .i64 e.vote.src.e, .int .u64 e.vote.src.r, .int .i64 e.vote.tgt.e, .int .u64 e.vote.tgt.r, .slice A3 e.vote.who.length c3, .int .i64 e.proof.a.slot, .int .u64 e.proof.a.head, .int .i64 e.proof.a.src.e, .int .u64 e.proof.a.src.r, .int .i64 e.proof.a.tgt.e, .int .u64 e.proof.a.tgt.r, .slice A4 e.proof.a.who.length c4, .int .i64 e.proof.b.slot, .int .u64 e.proof.b.head, .int .i64 e.proof.b.src.e, .int .u64 e.proof.b.src.r, .int .i64 e.proof.b.tgt.e, .int .u64 e.proof.b.tgt.r, .slice A5 e.proof.b.who.length c5] _ HAT.out Try.underlying38 rfl iEv ?_) | (refine wpList_box 38 6 _ (.tmp 21) [.int .i64 e.kind, .int .i64 e.slot, .int .u64 e.block.root, .int .u64 e.block.parent, .int .i64 e.block.slot, .slice A1 e.block.votes.length c1, .slice A2 e.block.proofs.length c2, .int .i64 e.vote.slot, .int .u64 e.vote.head, .int .i64 e.vote.src.e, .int .u64 e.vote.src.r, .int .i64 e.vote.tgt.e, .int .u64 e.vote.tgt.r, .slice A3 e.vote.who.length c3, .int .i64 e.proof.a.slot, .int .u64 e.proof.a.head, .int .i64 e.proof.a.src.e, .int .u64 e.proof.a.src.r, .int .i64 e.proof.a.tgt.e, .int .u64 e.proof.a.tgt.r, .slice A4 e.proof.a.who.length c4, .int .i64 e.proof.b.slot, .int .u64 e.proof.b.head, .int .i64 e.proof.b.src.e, .int .u64 e.proof.b.src.r, .int .i64 e.proof.b.tgt.e, .int .u64 e.proof.b.tgt.r, .slice A5 e.proof.b.who.length c5] rfl rfl rfl zEv rfl rfl iEv rfl ?_))
        generalize hW2 : wr.alloc (Obj.cells _ 38) = W2
        have hblk := heap_new wr (Obj.cells #[.int .i64 e.kind, .int .i64 e.slot, .int .u64 e.block.root, .int .u64 e.block.parent, .int .i64 e.block.slot, .slice A1 e.block.votes.length c1, .slice A2 e.block.proofs.length c2, .int .i64 e.vote.slot, .int .u64 e.vote.head, .int .i64 e.vote.src.e, .int .u64 e.vote.src.r, .int .i64 e.vote.tgt.e, .int .u64 e.vote.tgt.r, .slice A3 e.vote.who.length c3, .int .i64 e.proof.a.slot, .int .u64 e.proof.a.head, .int .i64 e.proof.a.src.e, .int .u64 e.proof.a.src.r, .int .i64 e.proof.a.tgt.e, .int .u64 e.proof.a.tgt.r, .slice A4 e.proof.a.who.length c4, .int .i64 e.proof.b.slot, .int .u64 e.proof.b.head, .int .i64 e.proof.b.src.e, .int .u64 e.proof.b.src.r, .int .i64 e.proof.b.tgt.e, .int .u64 e.proof.b.tgt.r, .slice A5 e.proof.b.who.length c5] 38)
        rw [hW2] at hblk
        have hbw2 : Below wr.heap.size wr W2 := by rw [← hW2]; exact below_alloc (Below.refl _ _) _
        clear hW2
        have hr2 := (hr.below hbw2).any
        have HO1 := Lib.hid (own_below HO.out hbw2)
        have hbB1 : Below B w W2 := hbr.trans (hbw2.mono (Nat.le_trans hB2 hbr.size))
        have hBs1 : B ≤ W2.heap.size := Nat.le_trans hB2 hbB1.size
        have HNE : Hid (some wr.heap.size ≠ (Value.slice A' n' c').ownBlock) := by
          intro h
          have := own_lt HO.out _ h.symm
          omega
        clear HO hbw2 HAT
        generalize wr.heap.size = Px at hblk HNE ⊢
        have HBLK := Lib.hid hblk
        clear hblk
        have HR : Hid (∀ w' : World, w'.heap[Px]? = some (.cells #[.int .i64 e.kind, .int .i64 e.slot, .int .u64 e.block.root, .int .u64 e.block.parent, .int .i64 e.block.slot, .slice A1 e.block.votes.length c1, .slice A2 e.block.proofs.length c2, .int .i64 e.vote.slot, .int .u64 e.vote.head, .int .i64 e.vote.src.e, .int .u64 e.vote.src.r, .int .i64 e.vote.tgt.e, .int .u64 e.vote.tgt.r, .slice A3 e.vote.who.length c3, .int .i64 e.proof.a.slot, .int .u64 e.proof.a.head, .int .i64 e.proof.a.src.e, .int .u64 e.proof.a.src.r, .int .i64 e.proof.a.tgt.e, .int .u64 e.proof.a.tgt.r, .slice A4 e.proof.a.who.length c4, .int .i64 e.proof.b.slot, .int .u64 e.proof.b.head, .int .i64 e.proof.b.src.e, .int .u64 e.proof.b.src.r, .int .i64 e.proof.b.tgt.e, .int .u64 e.proof.b.tgt.r, .slice A5 e.proof.b.who.length c5] 38 (0, 0)) → w'.rangeAt Px 0 [.int .i64 e.kind, .int .i64 e.slot, .int .u64 e.block.root, .int .u64 e.block.parent, .int .i64 e.block.slot, .slice A1 e.block.votes.length c1, .slice A2 e.block.proofs.length c2, .int .i64 e.vote.slot, .int .u64 e.vote.head, .int .i64 e.vote.src.e, .int .u64 e.vote.src.r, .int .i64 e.vote.tgt.e, .int .u64 e.vote.tgt.r, .slice A3 e.vote.who.length c3, .int .i64 e.proof.a.slot, .int .u64 e.proof.a.head, .int .i64 e.proof.a.src.e, .int .u64 e.proof.a.src.r, .int .i64 e.proof.a.tgt.e, .int .u64 e.proof.a.tgt.r, .slice A4 e.proof.a.who.length c4, .int .i64 e.proof.b.slot, .int .u64 e.proof.b.head, .int .i64 e.proof.b.src.e, .int .u64 e.proof.b.src.r, .int .i64 e.proof.b.tgt.e, .int .u64 e.proof.b.tgt.r, .slice A5 e.proof.b.who.length c5]) := fun w' h j v hj => by rw [Nat.zero_add, blk_cell h]; simpa using hj
        obtain ⟨m, hm⟩ : ∃ m, mayB e = m := ⟨_, rfl⟩
        have HM := Lib.hid hm
        have HR0 : Hid (EvR (· < B) w e A1 c1 A2 c2 A3 c3 A4 c4 A5 c5) := hr.mono (fun _ x => x) (fun i hi _ => (hbr.block i hi).symm)
        refine wp_region_held_drew (S := fun w' => w'.rangeAt Px 0 [.int .i64 e.kind, .int .i64 e.slot, .int .u64 e.block.root, .int .u64 e.block.parent, .int .i64 e.block.slot, .slice A1 e.block.votes.length c1, .slice A2 e.block.proofs.length c2, .int .i64 e.vote.slot, .int .u64 e.vote.head, .int .i64 e.vote.src.e, .int .u64 e.vote.src.r, .int .i64 e.vote.tgt.e, .int .u64 e.vote.tgt.r, .slice A3 e.vote.who.length c3, .int .i64 e.proof.a.slot, .int .u64 e.proof.a.head, .int .i64 e.proof.a.src.e, .int .u64 e.proof.a.src.r, .int .i64 e.proof.a.tgt.e, .int .u64 e.proof.a.tgt.r, .slice A4 e.proof.a.who.length c4, .int .i64 e.proof.b.slot, .int .u64 e.proof.b.head, .int .i64 e.proof.b.src.e, .int .u64 e.proof.b.src.r, .int .i64 e.proof.b.tgt.e, .int .u64 e.proof.b.tgt.r, .slice A5 e.proof.b.who.length c5]) (by kernel_rfl) (HR.out _ (blk_below HBLK.out (Below.refl _ _).drew)) (fun hHeld => ?_)
        refine' wpAnyH_take (i := 0) (v := .agg #[.int .i64 e.kind, .int .i64 e.slot, .int .u64 e.block.root, .int .u64 e.block.parent, .int .i64 e.block.slot, .slice A1 e.block.votes.length c1, .slice A2 e.block.proofs.length c2, .int .i64 e.vote.slot, .int .u64 e.vote.head, .int .i64 e.vote.src.e, .int .u64 e.vote.src.r, .int .i64 e.vote.tgt.e, .int .u64 e.vote.tgt.r, .slice A3 e.vote.who.length c3, .int .i64 e.proof.a.slot, .int .u64 e.proof.a.head, .int .i64 e.proof.a.src.e, .int .u64 e.proof.a.src.r, .int .i64 e.proof.a.tgt.e, .int .u64 e.proof.a.tgt.r, .slice A4 e.proof.a.who.length c4, .int .i64 e.proof.b.slot, .int .u64 e.proof.b.head, .int .i64 e.proof.b.src.e, .int .u64 e.proof.b.src.r, .int .i64 e.proof.b.tgt.e, .int .u64 e.proof.b.tgt.r, .slice A5 e.proof.b.who.length c5]) rfl (by kernel_rfl) (by kernel_rfl) (by kernel_rfl) (fun _ _ _ h => h) (yieldsIf_load_mid (by rfl) 38 _ rfl Px 0 rfl [.int .i64 e.kind, .int .i64 e.slot, .int .u64 e.block.root, .int .u64 e.block.parent, .int .i64 e.block.slot, .slice A1 e.block.votes.length c1, .slice A2 e.block.proofs.length c2, .int .i64 e.vote.slot, .int .u64 e.vote.head, .int .i64 e.vote.src.e, .int .u64 e.vote.src.r, .int .i64 e.vote.tgt.e, .int .u64 e.vote.tgt.r, .slice A3 e.vote.who.length c3, .int .i64 e.proof.a.slot, .int .u64 e.proof.a.head, .int .i64 e.proof.a.src.e, .int .u64 e.proof.a.src.r, .int .i64 e.proof.a.tgt.e, .int .u64 e.proof.a.tgt.r, .slice A4 e.proof.a.who.length c4, .int .i64 e.proof.b.slot, .int .u64 e.proof.b.head, .int .i64 e.proof.b.src.e, .int .u64 e.proof.b.src.r, .int .i64 e.proof.b.tgt.e, .int .u64 e.proof.b.tgt.r, .slice A5 e.proof.b.who.length c5] _ (fun _ h => h) Try.underlying38 rfl iEv) hHeld ?_
        try simp only [Act.put, List.setIfInBounds_toArray, List.set_cons_zero, List.set_cons_succ]
        refine' wpAnyH_take (i := 2) (v := .agg #[.int .i64 e.kind, .int .i64 e.slot, .int .u64 e.block.root, .int .u64 e.block.parent, .int .i64 e.block.slot, .slice A1 e.block.votes.length c1, .slice A2 e.block.proofs.length c2, .int .i64 e.vote.slot, .int .u64 e.vote.head, .int .i64 e.vote.src.e, .int .u64 e.vote.src.r, .int .i64 e.vote.tgt.e, .int .u64 e.vote.tgt.r, .slice A3 e.vote.who.length c3, .int .i64 e.proof.a.slot, .int .u64 e.proof.a.head, .int .i64 e.proof.a.src.e, .int .u64 e.proof.a.src.r, .int .i64 e.proof.a.tgt.e, .int .u64 e.proof.a.tgt.r, .slice A4 e.proof.a.who.length c4, .int .i64 e.proof.b.slot, .int .u64 e.proof.b.head, .int .i64 e.proof.b.src.e, .int .u64 e.proof.b.src.r, .int .i64 e.proof.b.tgt.e, .int .u64 e.proof.b.tgt.r, .slice A5 e.proof.b.who.length c5]) rfl (by kernel_rfl) (by kernel_rfl) (by kernel_rfl) (fun _ _ _ h => h) (yieldsIf_load_mid (by rfl) 38 _ rfl Px 0 rfl [.int .i64 e.kind, .int .i64 e.slot, .int .u64 e.block.root, .int .u64 e.block.parent, .int .i64 e.block.slot, .slice A1 e.block.votes.length c1, .slice A2 e.block.proofs.length c2, .int .i64 e.vote.slot, .int .u64 e.vote.head, .int .i64 e.vote.src.e, .int .u64 e.vote.src.r, .int .i64 e.vote.tgt.e, .int .u64 e.vote.tgt.r, .slice A3 e.vote.who.length c3, .int .i64 e.proof.a.slot, .int .u64 e.proof.a.head, .int .i64 e.proof.a.src.e, .int .u64 e.proof.a.src.r, .int .i64 e.proof.a.tgt.e, .int .u64 e.proof.a.tgt.r, .slice A4 e.proof.a.who.length c4, .int .i64 e.proof.b.slot, .int .u64 e.proof.b.head, .int .i64 e.proof.b.src.e, .int .u64 e.proof.b.src.r, .int .i64 e.proof.b.tgt.e, .int .u64 e.proof.b.tgt.r, .slice A5 e.proof.b.who.length c5] _ (fun _ h => h) Try.underlying38 rfl iEv) hHeld ?_
        try simp only [Act.put, List.setIfInBounds_toArray, List.set_cons_zero, List.set_cons_succ]
        refine wpAnyH_ready (rs := [1]) (by kernel_rfl) (by simp) ?_
        refine AllReadyH.cons rfl (fun K hK => ?_) AllReadyH.nil
        go_simp
        refine (wmay_calls _ e A1 c1 A2 c2 A3 c3 A4 c4 A5 c5 (hr2.below (Below.refl _ _).drew)).mono ?_
        rintro en w3 ⟨rfl, hb3'⟩
        have hb3 := undrew hb3'
        clear hb3' hHeld
        rw [hm]
        have HBLK3 := Lib.hid (blk_below HBLK.out hb3)
        refine hK.out _ _ (HR.out _ HBLK3.out) (fun hHeld => ?_)
        clear hK K
        try simp only [Act.put, List.setIfInBounds_toArray, List.set_cons_zero, List.set_cons_succ]
        refine wpAnyH_ready (rs := [3]) (by kernel_rfl) (by simp) ?_
        refine AllReadyH.cons rfl (fun K hK => ?_) AllReadyH.nil
        go_simp
        refine (l04may_calls _ e A1 c1 A2 c2 A3 c3 A4 c4 A5 c5 (hr2.below hb3)).mono ?_
        rintro en w4 ⟨rfl, hb4⟩
        clear hHeld
        rw [hm]
        have HBLK4 := Lib.hid (blk_below HBLK3.out hb4)
        refine hK.out _ _ (HR.out _ HBLK4.out) (fun hHeld => ?_)
        clear hK K
        try simp only [Act.put, List.setIfInBounds_toArray, List.set_cons_zero, List.set_cons_succ]
        refine wpAnyH_ready (rs := [4]) (by kernel_rfl) (by simp) ?_
        refine AllReadyH.cons rfl (fun K hK => ?_) AllReadyH.nil
        go_simp
        refine hK.out _ _ hHeld (fun hHeld => ?_)
        clear hK K
        try simp only [Act.put, List.setIfInBounds_toArray, List.set_cons_zero, List.set_cons_succ]
        refine wpAnyH_done (by kernel_rfl) ?_ _
        have hb24 := below_trans hb3 hb4
        have hr4 := hr2.below hb24
        have HO4 := Lib.hid (own_below HO1.out hb24)
        have hbB4 : Below B w w4 := hbB1.trans (hb24.mono hBs1)
        have hBs4 : B ≤ w4.heap.size := Nat.le_trans hB2 hbB4.size
        clear hHeld hb3 hb4 hb24 hr2 hr hbr HO1 hbB1 HBLK HBLK3 hm hBs1
        have tok1 : True := trivial
        cases m
        · have hP1 : Hid (false = (es.take (k + 1)).all mayB) := by show _ = _; rw [List.take_add_one, List.all_append, HX.out]; simp [HM.out]
          have hG1 : Hid ((es.take (k + 1)).filter mayB = (es.take k).filter mayB) := by show _ = _; rw [List.take_add_one, List.filter_append, HX.out]; simp [HM.out]
          cases p
          · go_wp2_with (first | (refine wpList_load_mid rfl 38 _ rfl _ _ rfl [.int .i64 e.kind, .int .i64 e.slot, .int .u64 e.block.root, .int .u64 e.block.parent, .int .i64 e.block.slot, .slice A1 e.block.votes.length c1, .slice A2 e.block.proofs.length c2, .int .i64 e.vote.slot, .int .u64 e.vote.head, .int .i64 e.vote.src.e, .int .u64 e.vote.src.r, .int .i64 e.vote.tgt.e, .int .u64 e.vote.tgt.r, .slice A3 e.vote.who.length c3, .int .i64 e.proof.a.slot, .int .u64 e.proof.a.head, .int .i64 e.proof.a.src.e, .int .u64 e.proof.a.src.r, .int .i64 e.proof.a.tgt.e, .int .u64 e.proof.a.tgt.r, .slice A4 e.proof.a.who.length c4, .int .i64 e.proof.b.slot, .int .u64 e.proof.b.head, .int .i64 e.proof.b.src.e, .int .u64 e.proof.b.src.r, .int .i64 e.proof.b.tgt.e, .int .u64 e.proof.b.tgt.r, .slice A5 e.proof.b.who.length c5] _ (HR.out _ HBLK4.out) Try.underlying38 rfl iEv ?_) | (go_at_call 11; refine (l04may_calls _ e A1 c1 A2 c2 A3 c3 A4 c4 A5 c5 hr4).mono ?_; rintro en w5 ⟨rfl, hb5⟩; have hm5 := HM.out))
            go_roundw
            case rel => exact ⟨k + 1, by omega, by go_num, ⟨false, rfl, hP1⟩, ⟨A', n', c', gcs, rfl, own_below HO4.out hb5, by rw [hG1.out]; exact HG⟩, hbB4.trans (hb5.mono hBs4)⟩
            case measure => simp [intOf]; omega
          · go_wp2_with (first | (refine wpList_load_midg (by rfl) 38 _ rfl _ _ rfl [.int .i64 e.kind, .int .i64 e.slot, .int .u64 e.block.root, .int .u64 e.block.parent, .int .i64 e.block.slot, .slice A1 e.block.votes.length c1, .slice A2 e.block.proofs.length c2, .int .i64 e.vote.slot, .int .u64 e.vote.head, .int .i64 e.vote.src.e, .int .u64 e.vote.src.r, .int .i64 e.vote.tgt.e, .int .u64 e.vote.tgt.r, .slice A3 e.vote.who.length c3, .int .i64 e.proof.a.slot, .int .u64 e.proof.a.head, .int .i64 e.proof.a.src.e, .int .u64 e.proof.a.src.r, .int .i64 e.proof.a.tgt.e, .int .u64 e.proof.a.tgt.r, .slice A4 e.proof.a.who.length c4, .int .i64 e.proof.b.slot, .int .u64 e.proof.b.head, .int .i64 e.proof.b.src.e, .int .u64 e.proof.b.src.r, .int .i64 e.proof.b.tgt.e, .int .u64 e.proof.b.tgt.r, .slice A5 e.proof.b.who.length c5] _ (HR.out _ HBLK5.out) Try.underlying38 rfl iEv ?_) | (refine wpList_load_mid rfl 38 _ rfl _ _ rfl [.int .i64 e.kind, .int .i64 e.slot, .int .u64 e.block.root, .int .u64 e.block.parent, .int .i64 e.block.slot, .slice A1 e.block.votes.length c1, .slice A2 e.block.proofs.length c2, .int .i64 e.vote.slot, .int .u64 e.vote.head, .int .i64 e.vote.src.e, .int .u64 e.vote.src.r, .int .i64 e.vote.tgt.e, .int .u64 e.vote.tgt.r, .slice A3 e.vote.who.length c3, .int .i64 e.proof.a.slot, .int .u64 e.proof.a.head, .int .i64 e.proof.a.src.e, .int .u64 e.proof.a.src.r, .int .i64 e.proof.a.tgt.e, .int .u64 e.proof.a.tgt.r, .slice A4 e.proof.a.who.length c4, .int .i64 e.proof.b.slot, .int .u64 e.proof.b.head, .int .i64 e.proof.b.src.e, .int .u64 e.proof.b.src.r, .int .i64 e.proof.b.tgt.e, .int .u64 e.proof.b.tgt.r, .slice A5 e.proof.b.who.length c5] _ (HR.out _ HBLK4.out) Try.underlying38 rfl iEv ?_) | (go_at_call 11; have _t := tok1; refine (l04may_calls _ e A1 c1 A2 c2 A3 c3 A4 c4 A5 c5 hr4).mono ?_; rintro en w5 ⟨rfl, hb5⟩; have hm5 := HM.out; have HBLK5 := Lib.hid (blk_below HBLK4.out hb5); have hr5 := hr4.below hb5; clear _t tok1) | (go_at_call 11; refine (l04may_calls _ e A1 c1 A2 c2 A3 c3 A4 c4 A5 c5 hr5).mono ?_; rintro en w6 ⟨rfl, hb6⟩))
            go_roundw
            case rel =>
              have hb46 := below_trans hb5 hb6
              exact ⟨k + 1, by omega, by go_num, ⟨false, rfl, hP1⟩, ⟨A', n', c', gcs, rfl, own_below HO4.out hb46, by rw [hG1.out]; exact HG⟩, hbB4.trans (hb46.mono hBs4)⟩
            case measure => simp [intOf]; omega
        · have hP1 : Hid (p = (es.take (k + 1)).all mayB) := by show _ = _; rw [List.take_add_one, List.all_append, HX.out, ← HP.out]; simp [HM.out]
          have hG1 : Hid ((es.take (k + 1)).filter mayB = (es.take k).filter mayB ++ [e]) := by show _ = _; rw [List.take_add_one, List.filter_append, HX.out]; simp [HM.out]
          go_upto_region 13 with (first | (refine wpList_load_mid rfl 38 _ rfl _ _ rfl [.int .i64 e.kind, .int .i64 e.slot, .int .u64 e.block.root, .int .u64 e.block.parent, .int .i64 e.block.slot, .slice A1 e.block.votes.length c1, .slice A2 e.block.proofs.length c2, .int .i64 e.vote.slot, .int .u64 e.vote.head, .int .i64 e.vote.src.e, .int .u64 e.vote.src.r, .int .i64 e.vote.tgt.e, .int .u64 e.vote.tgt.r, .slice A3 e.vote.who.length c3, .int .i64 e.proof.a.slot, .int .u64 e.proof.a.head, .int .i64 e.proof.a.src.e, .int .u64 e.proof.a.src.r, .int .i64 e.proof.a.tgt.e, .int .u64 e.proof.a.tgt.r, .slice A4 e.proof.a.who.length c4, .int .i64 e.proof.b.slot, .int .u64 e.proof.b.head, .int .i64 e.proof.b.src.e, .int .u64 e.proof.b.src.r, .int .i64 e.proof.b.tgt.e, .int .u64 e.proof.b.tgt.r, .slice A5 e.proof.b.who.length c5] _ (HR.out _ HBLK4.out) Try.underlying38 rfl iEv ?_) | (go_at_call 11; have _t := tok1; refine (l04may_calls _ e A1 c1 A2 c2 A3 c3 A4 c4 A5 c5 hr4).mono ?_; rintro en w5 ⟨rfl, hb5⟩; have hm5 := HM.out; have HBLK5 := Lib.hid (blk_below HBLK4.out hb5); have hr5 := hr4.below hb5; clear _t tok1))
          have HO5 := Lib.hid (own_below HO4.out hb5)
          have hbB5 : Below B w w5 := hbB4.trans (hb5.mono hBs4)
          have hBs5 : B ≤ w5.heap.size := Nat.le_trans hB2 hbB5.size
          clear hb5 hr4 HO4 hbB4 hBs4 HBLK4
          have HNL : Hid (n' ≤ 300) := by
            show _ ≤ _
            have h1 := List.length_filter_le mayB (es.take k)
            rw [HG.out.1, List.length_take] at h1
            omega
          go_upto_region 14 with (first | (refine wpList_load_mid rfl 38 _ rfl _ _ rfl [.int .i64 e.kind, .int .i64 e.slot, .int .u64 e.block.root, .int .u64 e.block.parent, .int .i64 e.block.slot, .slice A1 e.block.votes.length c1, .slice A2 e.block.proofs.length c2, .int .i64 e.vote.slot, .int .u64 e.vote.head, .int .i64 e.vote.src.e, .int .u64 e.vote.src.r, .int .i64 e.vote.tgt.e, .int .u64 e.vote.tgt.r, .slice A3 e.vote.who.length c3, .int .i64 e.proof.a.slot, .int .u64 e.proof.a.head, .int .i64 e.proof.a.src.e, .int .u64 e.proof.a.src.r, .int .i64 e.proof.a.tgt.e, .int .u64 e.proof.a.tgt.r, .slice A4 e.proof.a.who.length c4, .int .i64 e.proof.b.slot, .int .u64 e.proof.b.head, .int .i64 e.proof.b.src.e, .int .u64 e.proof.b.src.r, .int .i64 e.proof.b.tgt.e, .int .u64 e.proof.b.tgt.r, .slice A5 e.proof.b.who.length c5] _ (HR.out _ HBLK5.out) Try.underlying38 rfl iEv ?_) | (at_builtin; refine wpList_app B rfl (.tmp 29) (.tmp 31) 22 38 _ 28 304 rfl Try.underlying22 infoEv rfl (by decide) _ n' gcs rfl (World.ownsRow.alloc HO5.out _) (some ⟨w5.heap.size, 0, none⟩) 1 1 [.int .i64 e.kind, .int .i64 e.slot, .int .u64 e.block.root, .int .u64 e.block.parent, .int .i64 e.block.slot, .slice A1 e.block.votes.length c1, .slice A2 e.block.proofs.length c2, .int .i64 e.vote.slot, .int .u64 e.vote.head, .int .i64 e.vote.src.e, .int .u64 e.vote.src.r, .int .i64 e.vote.tgt.e, .int .u64 e.vote.tgt.r, .slice A3 e.vote.who.length c3, .int .i64 e.proof.a.slot, .int .u64 e.proof.a.head, .int .i64 e.proof.a.src.e, .int .u64 e.proof.a.src.r, .int .i64 e.proof.a.tgt.e, .int .u64 e.proof.a.tgt.r, .slice A4 e.proof.a.who.length c4, .int .i64 e.proof.b.slot, .int .u64 e.proof.b.head, .int .i64 e.proof.b.src.e, .int .u64 e.proof.b.src.r, .int .i64 e.proof.b.tgt.e, .int .u64 e.proof.b.tgt.r, .slice A5 e.proof.b.who.length c5] rfl rfl (flat_blk (heap_new _ _)) (EvK.one (EvK.shut HR0.out)) (by have := HNL.out; omega) (by have := HNL.out; omega) (by simp; omega) ?_; intro A7 c7 w6 ho6 hg6 _))
          have hbB6 : Below B w w6 := (below_alloc' hbB5 hB2 _).grown hg6 (by simp; omega) (own_base HO5.out)
          have HBLK6 := Lib.hid ((hg6.block Px (blk_lt (blk_below HBLK5.out (below_alloc (Below.refl _ _) _))) HNE.out).trans (blk_below HBLK5.out (below_alloc (Below.refl _ _) _)))
          have hr6 : EvR anyB w6 e A1 c1 A2 c2 A3 c3 A4 c4 A5 c5 := HR0.out.mono (fun _ _ => trivial) (fun i hi _ => hbB6.block i hi)
          have hBs6 : B ≤ w6.heap.size := Nat.le_trans hB2 hbB6.size
          have hgl : gcs.length = n' * 28 := HO5.out.1
          have HG' : Hid (((es.take (k + 1)).filter mayB).length = n' + 1 ∧ ∀ j x, ((es.take (k + 1)).filter mayB)[j]? = some x → EvK (· < B) w x (((gcs ++ ([.int .i64 e.kind, .int .i64 e.slot, .int .u64 e.block.root, .int .u64 e.block.parent, .int .i64 e.block.slot, .slice A1 e.block.votes.length c1, .slice A2 e.block.proofs.length c2, .int .i64 e.vote.slot, .int .u64 e.vote.head, .int .i64 e.vote.src.e, .int .u64 e.vote.src.r, .int .i64 e.vote.tgt.e, .int .u64 e.vote.tgt.r, .slice A3 e.vote.who.length c3, .int .i64 e.proof.a.slot, .int .u64 e.proof.a.head, .int .i64 e.proof.a.src.e, .int .u64 e.proof.a.src.r, .int .i64 e.proof.a.tgt.e, .int .u64 e.proof.a.tgt.r, .slice A4 e.proof.a.who.length c4, .int .i64 e.proof.b.slot, .int .u64 e.proof.b.head, .int .i64 e.proof.b.src.e, .int .u64 e.proof.b.src.r, .int .i64 e.proof.b.tgt.e, .int .u64 e.proof.b.tgt.r, .slice A5 e.proof.b.who.length c5] : List Value)).drop (j * 28)).take 28)) := by
            show _ ∧ _
            rw [hG1.out]
            refine ⟨by rw [List.length_append, HG.out.1]; rfl, fun j x hx => ?_⟩
            rcases Nat.lt_or_ge j n' with hj | hj
            · rw [List.getElem?_append_left (by rw [HG.out.1]; exact hj)] at hx
              rw [List.drop_append_of_le_length (by omega), List.take_append_of_le_length (by rw [List.length_drop]; omega)]
              exact HG.out.2 j x hx
            · rw [List.getElem?_append_right (by rw [HG.out.1]; exact hj), HG.out.1] at hx
              have h0 : j - n' < 1 := (List.getElem?_eq_some_iff.1 hx).1
              obtain rfl : j = n' := by omega
              rw [Nat.sub_self] at hx
              obtain rfl : e = x := by simpa using hx
              rw [← hgl, List.drop_left]
              exact EvK.shut HR0.out
          have HO6 := Lib.hid ho6
          clear ho6 hgl hg6 hbB5 hBs5 HO5 HNE HBLK5 hr5
          cases p
          · go_wp2
            go_roundw
            case rel => exact ⟨k + 1, by omega, by go_num, ⟨false, rfl, hP1⟩, ⟨A7, _, c7, _, rfl, HO6.out, HG'⟩, hbB6⟩
            case measure => simp [intOf]; omega
          · go_wp2_with (first | (refine wpList_load_midg (by rfl) 38 _ rfl _ _ rfl [.int .i64 e.kind, .int .i64 e.slot, .int .u64 e.block.root, .int .u64 e.block.parent, .int .i64 e.block.slot, .slice A1 e.block.votes.length c1, .slice A2 e.block.proofs.length c2, .int .i64 e.vote.slot, .int .u64 e.vote.head, .int .i64 e.vote.src.e, .int .u64 e.vote.src.r, .int .i64 e.vote.tgt.e, .int .u64 e.vote.tgt.r, .slice A3 e.vote.who.length c3, .int .i64 e.proof.a.slot, .int .u64 e.proof.a.head, .int .i64 e.proof.a.src.e, .int .u64 e.proof.a.src.r, .int .i64 e.proof.a.tgt.e, .int .u64 e.proof.a.tgt.r, .slice A4 e.proof.a.who.length c4, .int .i64 e.proof.b.slot, .int .u64 e.proof.b.head, .int .i64 e.proof.b.src.e, .int .u64 e.proof.b.src.r, .int .i64 e.proof.b.tgt.e, .int .u64 e.proof.b.tgt.r, .slice A5 e.proof.b.who.length c5] _ (HR.out _ HBLK6.out) Try.underlying38 rfl iEv ?_) | (go_at_call 11; refine (l04may_calls _ e A1 c1 A2 c2 A3 c3 A4 c4 A5 c5 hr6).mono ?_; rintro en w7 ⟨rfl, hb7⟩; have hm7 := HM.out))
            go_roundw
            case rel => exact ⟨k + 1, by omega, by go_num, ⟨true, rfl, hP1⟩, ⟨A7, _, c7, _, rfl, own_below HO6.out hb7, HG'⟩, hbB6.trans (hb7.mono hBs6)⟩
            case measure => simp [intOf]; omega
      · obtain rfl : k = es.length := by omega
        rw [List.take_length] at HP HG
        have hz : Evs anyB wr A' (es.filter mayB) := (Lie.of_own HO.out (by decide) HG.out.1 HG.out.2 (fun _ _ _ => trivial) : Lie anyB (EvK (· < B) w) 28 wr A' (es.filter mayB)).mono (fun x cs _ h => EvK.mono h (fun _ _ => trivial) (fun i hi hi' => hbr.block i hi)) (fun _ x => x) (fun _ _ _ => rfl)
        have hgn := HG.out.1
        have hgle : (es.filter mayB).length ≤ 300 := Nat.le_trans (List.length_filter_le _ _) hL
        have hga : (es.filter mayB).all mayB = true := by simp
        clear HO HG
        go_wp2_with fail
        refine (wencode_calls _ A _ c es (HEV.out _ hbr).any rfl hm').mono ?_
        rintro en w2 ⟨hb2, hea⟩
        have hok : encOk es = p := by rw [HP.out, encOk, decide_eq_true (by omega), Bool.true_and]
        have hokg : encOk (es.filter mayB) = true := by rw [encOk, hga, decide_eq_true (by omega), Bool.true_and]
        obtain ⟨ra, na, ca, rfl, HA⟩ : ∃ ra na ca, en = .returned (.tuple #[.slice ra na ca, .bool p]) ∧ Hid ((p = true → Ints anyB .u8 w2 ra (bes (encN es)) ∧ (bes (encN es)).length = na) ∧ (p = false → na = 0)) := by
          rcases hea with ⟨h1, A', n', c', rfl, h2, h3⟩ | ⟨h1, rfl⟩
          · exact ⟨_, _, _, by rw [← hok, h1], fun _ => ⟨h2, h3.out⟩, fun h => by rw [← hok, h1] at h; cases h⟩
          · exact ⟨_, _, _, by rw [← hok, h1], fun h => by (rw [← hok, h1] at h; cases h), fun _ => rfl⟩
        clear hea
        go_wp2_with fail
        refine (wencode_calls _ A' n' c' (es.filter mayB) (hz.below hb2) hgn (by unfold maxLen; omega)).mono ?_
        rintro en w3 ⟨hb3, hea⟩
        obtain ⟨rb, nb, cb, rfl, hib, hlb⟩ : ∃ ra na ca, en = .returned (.tuple #[.slice ra na ca, .bool true]) ∧ Ints anyB .u8 w3 ra (bes (encN (es.filter mayB))) ∧ Hid ((bes (encN (es.filter mayB))).length = na) := by
          rcases hea with ⟨h1, A', n', c', rfl, h2, h3⟩ | ⟨h1, rfl⟩
          · exact ⟨_, _, _, rfl, h2, h3⟩
          · rw [hokg] at h1; cases h1
        clear hea
        go_wp2
        have hz3 := (hz.below hb2).below hb3
        have hb23 := below_trans hb2 hb3
        have hbB3 := hbr.trans (hb23.mono (Nat.le_trans hB2 hbr.size))
        have hBs3 : B ≤ w3.heap.size := Nat.le_trans hB2 hbB3.size
        obtain ⟨S2, hS2⟩ : ∃ S2, Hid (strOfNums (bes (encN (es.filter mayB))) = S2) := ⟨_, rfl⟩
        have H2 : Hid (∀ w' : World, Below w3.heap.size w3 w' → (convert 40 9 (.slice rb nb cb)).run Try.prog w' = .ok (.string S2) w') := fun w' h => by rw [← hS2.out]; exact run_str (hib.below h) hlb.out
        have t0 := H2.out _ (Below.refl _ _).drew
        have hes3 := (HEV.out _ hbB3).any
        have hn3 : n' ≤ 300 := by omega
        clear hib hz hbr hb23 hgle hok hokg
        have tok1 : True := trivial
        cases p
        · obtain rfl : na = 0 := HA.out.2 rfl
          clear HA
          first
            | (go_region_held_law (fun w' => (convert 40 9 (.slice rb nb cb)).run Try.prog w' = .ok (.string S2) w') (first | exact hkA | go_keep)
                (first
                  | (go_at_call 13; refine (bytes_calls _ A' n' c' (es.filter mayB) (hz3.below (Below.refl _ _).drew) hgn hn3 hga).mono ?_; rintro en w4 ⟨Rc, nc, cc, rfl, hoc, hb4'⟩; have hb4 := undrew hb4'; have hkA := H2.out _ hb4; have t1 : (convert 40 9 (.slice Rc nc cc)).run Try.prog w4 = .ok (.string S2) w4 := (by rw [← hS2.out]; exact run_str hoc.ints hoc.len))))
            | fail
          all_goals
            go_wp2
            go_ret
            exact ⟨rfl, hbB3.trans (hb4.mono hBs3)⟩
        · have hA := HA.out.1 rfl
          have hall : es.all mayB = true := HP.out.symm
          obtain ⟨S1, hS1⟩ : ∃ S1, Hid (strOfNums (bes (encN es)) = S1) := ⟨_, rfl⟩
          have H1 : Hid (∀ w' : World, Below w3.heap.size w3 w' → (convert 40 9 (.slice ra na ca)).run Try.prog w' = .ok (.string S1) w') := fun w' h => by rw [← hS1.out]; exact run_str ((hA.1.below hb3).below h) hA.2
          have u0 := H1.out _ (Below.refl _ _).drew
          have HALL := Lib.hid hall
          clear HA hA hall
          first
            | (go_region_held_law (fun w' => (convert 40 9 (.slice ra na ca)).run Try.prog w' = .ok (.string S1) w' ∧ (convert 40 9 (.slice rb nb cb)).run Try.prog w' = .ok (.string S2) w') (first | exact hkB | exact hkA | go_keep)
                (first
                  | (go_at_call 13; have _t := tok1; refine (bytes_calls _ A _ c es (hes3.below (Below.refl _ _).drew) rfl hL HALL.out).mono ?_; rintro en w4 ⟨Rc, nc, cc, rfl, hoc, hb4'⟩; have hb4 := undrew hb4'; have u1 := H1.out _ hb4; have t1 := H2.out _ hb4; have hkA := And.intro u1 t1; have v1 : (convert 40 9 (.slice Rc nc cc)).run Try.prog w4 = .ok (.string S1) w4 := (by rw [← hS1.out]; exact run_str hoc.ints hoc.len); clear _t tok1)
                  | (go_at_call 13; refine (bytes_calls _ A' n' c' (es.filter mayB) (hz3.below hb4) hgn hn3 hga).mono ?_; rintro en w5 ⟨Rd, nd, cd, rfl, hod, hb5⟩; have u2 := H1.out _ (below_trans hb4 hb5); have t2 := H2.out _ (below_trans hb4 hb5); have hkB := And.intro u2 t2; have v2 : (convert 40 9 (.slice Rd nd cd)).run Try.prog w5 = .ok (.string S2) w5 := (by rw [← hS2.out]; exact run_str hod.ints hod.len))))
            | fail
          all_goals
            go_wp2
            go_ret
            exact ⟨rfl, hbB3.trans ((below_trans hb4 hb5).mono hBs3)⟩
  · go_enter Try.func3, Try.ntmps3
    go_wp2_with (go_at_call 9; refine (l04awake_calls _).mono ?_; rintro e w1 ⟨rfl, hb1⟩)
    go_ret
    exact ⟨rfl, hb1⟩
end Go.Proofs.Ytccficljaomhhaa
