/- WireCut, walked. -/
import Derived.Test.YtccficljaomhhaaDoorDec6
import Derived.Test.YtccficljaomhhaaDoorDecT
import Derived.Test.YtccficljaomhhaaDoorL04g
import Derived.Test.YtccficljaomhhaaDoorNum
namespace Go.Proofs.YtccficljaomhhaaDoor
open Go.RowKit
attribute [local go_sem ↓] Go.wp_at_zero Go.wp_at_succ
set_option maxRecDepth 100000 in
set_option maxHeartbeats 4000000 in
theorem WireCut_calls (w : World) (A : Option Addr) (c : Nat) (es : List Ev) (cut : Int) (hg : GV w) (hes : Evs anyB w A es) (hm : es.length ≤ maxLen) (hwf : ∀ e ∈ es, e.wf) (hcw : (Lit.int .u8 cut).wf = true) :
    Calls Tryd.prog 4 #[.slice A es.length c, .int .u8 cut] w fun e w' => e = .returned (.bool true) ∧ Below w.heap.size w w' := by
  unfold maxLen at hm
  have hc0 : 0 ≤ cut ∧ cut ≤ 255 := by
    simp [Lit.wf, IntKind.min, IntKind.max, IntKind.bits, IntKind.signed] at hcw
    omega
  clear hcw
  by_cases hL : es.length ≤ 100
  · have HEV : Hid (∀ w', Below w.heap.size w w' → Evs (· < w.heap.size) w' A es) := fun w' h => (Evs.lt hes).mono (fun b hb => hb.2) (fun b hb _ => h.block b hb.2)
    obtain ⟨B, HB, hB1, hB2⟩ := size_hid w
    rw [HB.out] at HEV ⊢
    go_enter Tryd.func4, Tryd.ntmps4
    go_upto_region 5 with (go_at_call 6; refine (l04awake_calls _).mono ?_; rintro e w1 ⟨rfl, hb1⟩)
    go_wp2
    have hbB1 := hb1.mono hB2
    clear hb1
    go_loopw [5, 20] (fun s i wr => ∃ k : Nat, k ≤ es.length ∧ i = .int .i64 k ∧ (∃ A' n' c' gcs, s = .slice A' n' c' ∧ wr.ownsRow B 40 28 (.slice A' n' c') n' gcs ∧ Hid (((es.take k).filter mayB).length = n' ∧ ∀ j x, ((es.take k).filter mayB)[j]? = some x → EvK (· < B) w x ((gcs.drop (j * 28)).take 28))) ∧ Below B w wr) (fun _ i _ => es.length - (intOf i).toNat)
    case atStart => exact ⟨0, Nat.zero_le _, rfl, ⟨none, 0, 0, [], rfl, own_nil _ _ _ _, rfl, fun j x h => by simp at h⟩, hbB1⟩
    case round =>
      clear hbB1
      obtain ⟨k, hk, rfl, ⟨A', n', c', gcs, rfl, ho, HG⟩, hbr⟩ := hrel
      have HO := Lib.hid ho
      clear ho
      by_cases hlt : k < es.length
      · obtain ⟨e, hx⟩ : ∃ e, es[k]? = some e := ⟨_, List.getElem?_eq_getElem hlt⟩
        obtain ⟨bb, o, rfl, _, A1, c1, A2, c2, A3, c3, A4, c4, A5, c5, hr, hat⟩ := (HEV.out _ hbr).get hx
        have HX := Lib.hid hx
        have HAT := Lib.hid hat
        clear hx hat
        go_upto_region 9 with (first | (refine wpList_load_mid rfl 40 _ rfl _ _ rfl [.int .i64 e.kind, .int .i64 e.slot, .int .u64 e.block.root, .int .u64 e.block.parent, .int .i64 e.block.slot, .slice A1 e.block.votes.length c1, .slice A2 e.block.proofs.length c2, .int .i64 e.vote.slot, .int .u64 e.vote.head, .int .i64 e.vote.src.e, .int .u64 e.vote.src.r, .int .i64 e.vote.tgt.e, .int .u64 e.vote.tgt.r, .slice A3 e.vote.who.length c3, .int .i64 e.proof.a.slot, .int .u64 e.proof.a.head, .int .i64 e.proof.a.src.e, .int .u64 e.proof.a.src.r, .int .i64 e.proof.a.tgt.e, .int .u64 e.proof.a.tgt.r, .slice A4 e.proof.a.who.length c4, .int .i64 e.proof.b.slot, .int .u64 e.proof.b.head, .int .i64 e.proof.b.src.e, .int .u64 e.proof.b.src.r, .int .i64 e.proof.b.tgt.e, .int .u64 e.proof.b.tgt.r, .slice A5 e.proof.b.who.length c5] _ HAT.out Tryd.underlying40 rfl iEv ?_) | (refine wpList_box 40 7 _ (.tmp 23) [.int .i64 e.kind, .int .i64 e.slot, .int .u64 e.block.root, .int .u64 e.block.parent, .int .i64 e.block.slot, .slice A1 e.block.votes.length c1, .slice A2 e.block.proofs.length c2, .int .i64 e.vote.slot, .int .u64 e.vote.head, .int .i64 e.vote.src.e, .int .u64 e.vote.src.r, .int .i64 e.vote.tgt.e, .int .u64 e.vote.tgt.r, .slice A3 e.vote.who.length c3, .int .i64 e.proof.a.slot, .int .u64 e.proof.a.head, .int .i64 e.proof.a.src.e, .int .u64 e.proof.a.src.r, .int .i64 e.proof.a.tgt.e, .int .u64 e.proof.a.tgt.r, .slice A4 e.proof.a.who.length c4, .int .i64 e.proof.b.slot, .int .u64 e.proof.b.head, .int .i64 e.proof.b.src.e, .int .u64 e.proof.b.src.r, .int .i64 e.proof.b.tgt.e, .int .u64 e.proof.b.tgt.r, .slice A5 e.proof.b.who.length c5] rfl rfl rfl zEv rfl rfl iEv rfl ?_))
        generalize hW2 : wr.alloc (Obj.cells _ 40) = W2
        have hblk := heap_new wr (Obj.cells #[.int .i64 e.kind, .int .i64 e.slot, .int .u64 e.block.root, .int .u64 e.block.parent, .int .i64 e.block.slot, .slice A1 e.block.votes.length c1, .slice A2 e.block.proofs.length c2, .int .i64 e.vote.slot, .int .u64 e.vote.head, .int .i64 e.vote.src.e, .int .u64 e.vote.src.r, .int .i64 e.vote.tgt.e, .int .u64 e.vote.tgt.r, .slice A3 e.vote.who.length c3, .int .i64 e.proof.a.slot, .int .u64 e.proof.a.head, .int .i64 e.proof.a.src.e, .int .u64 e.proof.a.src.r, .int .i64 e.proof.a.tgt.e, .int .u64 e.proof.a.tgt.r, .slice A4 e.proof.a.who.length c4, .int .i64 e.proof.b.slot, .int .u64 e.proof.b.head, .int .i64 e.proof.b.src.e, .int .u64 e.proof.b.src.r, .int .i64 e.proof.b.tgt.e, .int .u64 e.proof.b.tgt.r, .slice A5 e.proof.b.who.length c5] 40)
        rw [hW2] at hblk
        have hbw2 : Below wr.heap.size wr W2 := by rw [← hW2]; exact below_alloc (Below.refl _ _) _
        clear hW2
        have hr2 := (hr.below hbw2).any
        have HO1 := Lib.hid (own_below HO.out hbw2)
        have hbB2 : Below B w W2 := hbr.trans (hbw2.mono (Nat.le_trans hB2 hbr.size))
        have hBs2 : B ≤ W2.heap.size := Nat.le_trans hB2 hbB2.size
        clear HO hbw2 HAT
        generalize wr.heap.size = Px at hblk ⊢
        have HBLK := Lib.hid hblk
        clear hblk
        have HR : Hid (∀ w' : World, w'.heap[Px]? = some (.cells #[.int .i64 e.kind, .int .i64 e.slot, .int .u64 e.block.root, .int .u64 e.block.parent, .int .i64 e.block.slot, .slice A1 e.block.votes.length c1, .slice A2 e.block.proofs.length c2, .int .i64 e.vote.slot, .int .u64 e.vote.head, .int .i64 e.vote.src.e, .int .u64 e.vote.src.r, .int .i64 e.vote.tgt.e, .int .u64 e.vote.tgt.r, .slice A3 e.vote.who.length c3, .int .i64 e.proof.a.slot, .int .u64 e.proof.a.head, .int .i64 e.proof.a.src.e, .int .u64 e.proof.a.src.r, .int .i64 e.proof.a.tgt.e, .int .u64 e.proof.a.tgt.r, .slice A4 e.proof.a.who.length c4, .int .i64 e.proof.b.slot, .int .u64 e.proof.b.head, .int .i64 e.proof.b.src.e, .int .u64 e.proof.b.src.r, .int .i64 e.proof.b.tgt.e, .int .u64 e.proof.b.tgt.r, .slice A5 e.proof.b.who.length c5] 40 (0, 0)) → w'.rangeAt Px 0 [.int .i64 e.kind, .int .i64 e.slot, .int .u64 e.block.root, .int .u64 e.block.parent, .int .i64 e.block.slot, .slice A1 e.block.votes.length c1, .slice A2 e.block.proofs.length c2, .int .i64 e.vote.slot, .int .u64 e.vote.head, .int .i64 e.vote.src.e, .int .u64 e.vote.src.r, .int .i64 e.vote.tgt.e, .int .u64 e.vote.tgt.r, .slice A3 e.vote.who.length c3, .int .i64 e.proof.a.slot, .int .u64 e.proof.a.head, .int .i64 e.proof.a.src.e, .int .u64 e.proof.a.src.r, .int .i64 e.proof.a.tgt.e, .int .u64 e.proof.a.tgt.r, .slice A4 e.proof.a.who.length c4, .int .i64 e.proof.b.slot, .int .u64 e.proof.b.head, .int .i64 e.proof.b.src.e, .int .u64 e.proof.b.src.r, .int .i64 e.proof.b.tgt.e, .int .u64 e.proof.b.tgt.r, .slice A5 e.proof.b.who.length c5]) := fun w' h j v hj => by rw [Nat.zero_add, blk_cell h]; simpa using hj
        obtain ⟨m, hm⟩ : ∃ m, mayB e = m := ⟨_, rfl⟩
        have HM := Lib.hid hm
        have HR0 : Hid (EvR (· < B) w e A1 c1 A2 c2 A3 c3 A4 c4 A5 c5) := hr.mono (fun _ x => x) (fun i hi _ => (hbr.block i hi).symm)
        go_wp2_with (refine wpList_load_mid rfl 40 _ rfl _ _ rfl [.int .i64 e.kind, .int .i64 e.slot, .int .u64 e.block.root, .int .u64 e.block.parent, .int .i64 e.block.slot, .slice A1 e.block.votes.length c1, .slice A2 e.block.proofs.length c2, .int .i64 e.vote.slot, .int .u64 e.vote.head, .int .i64 e.vote.src.e, .int .u64 e.vote.src.r, .int .i64 e.vote.tgt.e, .int .u64 e.vote.tgt.r, .slice A3 e.vote.who.length c3, .int .i64 e.proof.a.slot, .int .u64 e.proof.a.head, .int .i64 e.proof.a.src.e, .int .u64 e.proof.a.src.r, .int .i64 e.proof.a.tgt.e, .int .u64 e.proof.a.tgt.r, .slice A4 e.proof.a.who.length c4, .int .i64 e.proof.b.slot, .int .u64 e.proof.b.head, .int .i64 e.proof.b.src.e, .int .u64 e.proof.b.src.r, .int .i64 e.proof.b.tgt.e, .int .u64 e.proof.b.tgt.r, .slice A5 e.proof.b.who.length c5] _ (HR.out _ HBLK.out) Tryd.underlying40 rfl iEv ?_)
        refine (l04may_calls _ e A1 c1 A2 c2 A3 c3 A4 c4 A5 c5 hr2).mono ?_
        rintro en w5 ⟨rfl, hb5⟩
        rw [hm]
        have HBLK5 := Lib.hid (blk_below HBLK.out hb5)
        have HO5 := Lib.hid (own_below HO1.out hb5)
        have hbB5 : Below B w w5 := hbB2.trans (hb5.mono hBs2)
        have hBs5 : B ≤ w5.heap.size := Nat.le_trans hB2 hbB5.size
        have HNL : Hid (n' ≤ 300) := by
          show _ ≤ _
          have h1 := List.length_filter_le mayB (es.take k)
          rw [HG.out.1, List.length_take] at h1
          omega
        clear hb5 hr2 HO1 hbB2 hBs2 HBLK hm hr
        cases m
        · have hG1 : Hid ((es.take (k + 1)).filter mayB = (es.take k).filter mayB) := by show _ = _; rw [List.take_add_one, List.filter_append, HX.out]; simp [HM.out]
          go_wp2
          go_roundw
          case rel => exact ⟨k + 1, by omega, by go_num, ⟨A', n', c', gcs, rfl, HO5.out, by rw [hG1.out]; exact HG⟩, hbB5⟩
          case measure => simp [intOf]; omega
        · have hG1 : Hid ((es.take (k + 1)).filter mayB = (es.take k).filter mayB ++ [e]) := by show _ = _; rw [List.take_add_one, List.filter_append, HX.out]; simp [HM.out]
          go_wp2_with (first | (refine wpList_load_mid rfl 40 _ rfl _ _ rfl [.int .i64 e.kind, .int .i64 e.slot, .int .u64 e.block.root, .int .u64 e.block.parent, .int .i64 e.block.slot, .slice A1 e.block.votes.length c1, .slice A2 e.block.proofs.length c2, .int .i64 e.vote.slot, .int .u64 e.vote.head, .int .i64 e.vote.src.e, .int .u64 e.vote.src.r, .int .i64 e.vote.tgt.e, .int .u64 e.vote.tgt.r, .slice A3 e.vote.who.length c3, .int .i64 e.proof.a.slot, .int .u64 e.proof.a.head, .int .i64 e.proof.a.src.e, .int .u64 e.proof.a.src.r, .int .i64 e.proof.a.tgt.e, .int .u64 e.proof.a.tgt.r, .slice A4 e.proof.a.who.length c4, .int .i64 e.proof.b.slot, .int .u64 e.proof.b.head, .int .i64 e.proof.b.src.e, .int .u64 e.proof.b.src.r, .int .i64 e.proof.b.tgt.e, .int .u64 e.proof.b.tgt.r, .slice A5 e.proof.b.who.length c5] _ (HR.out _ HBLK5.out) Tryd.underlying40 rfl iEv ?_) | (at_builtin; refine wpList_app B rfl (.tmp 26) (.tmp 28) 22 40 _ 28 304 rfl Tryd.underlying22 infoEv rfl (by decide) _ n' gcs rfl (World.ownsRow.alloc HO5.out _) (some ⟨w5.heap.size, 0, none⟩) 1 1 [.int .i64 e.kind, .int .i64 e.slot, .int .u64 e.block.root, .int .u64 e.block.parent, .int .i64 e.block.slot, .slice A1 e.block.votes.length c1, .slice A2 e.block.proofs.length c2, .int .i64 e.vote.slot, .int .u64 e.vote.head, .int .i64 e.vote.src.e, .int .u64 e.vote.src.r, .int .i64 e.vote.tgt.e, .int .u64 e.vote.tgt.r, .slice A3 e.vote.who.length c3, .int .i64 e.proof.a.slot, .int .u64 e.proof.a.head, .int .i64 e.proof.a.src.e, .int .u64 e.proof.a.src.r, .int .i64 e.proof.a.tgt.e, .int .u64 e.proof.a.tgt.r, .slice A4 e.proof.a.who.length c4, .int .i64 e.proof.b.slot, .int .u64 e.proof.b.head, .int .i64 e.proof.b.src.e, .int .u64 e.proof.b.src.r, .int .i64 e.proof.b.tgt.e, .int .u64 e.proof.b.tgt.r, .slice A5 e.proof.b.who.length c5] rfl rfl flat_new (EvK.one (EvK.shut HR0.out)) (by have := HNL.out; omega) (by have := HNL.out; omega) (by simp; omega) ?_; intro A7 c7 w6 ho6 hg6 _))
          go_roundw
          case rel =>
            have hbB6 : Below B w w6 := (below_alloc' hbB5 hB2 _).grown hg6 (by simp; omega) (own_base HO5.out)
            have hgl : gcs.length = n' * 28 := HO5.out.1
            refine ⟨k + 1, by omega, by go_num, ⟨A7, n' + 1, c7, gcs ++ [.int .i64 e.kind, .int .i64 e.slot, .int .u64 e.block.root, .int .u64 e.block.parent, .int .i64 e.block.slot, .slice A1 e.block.votes.length c1, .slice A2 e.block.proofs.length c2, .int .i64 e.vote.slot, .int .u64 e.vote.head, .int .i64 e.vote.src.e, .int .u64 e.vote.src.r, .int .i64 e.vote.tgt.e, .int .u64 e.vote.tgt.r, .slice A3 e.vote.who.length c3, .int .i64 e.proof.a.slot, .int .u64 e.proof.a.head, .int .i64 e.proof.a.src.e, .int .u64 e.proof.a.src.r, .int .i64 e.proof.a.tgt.e, .int .u64 e.proof.a.tgt.r, .slice A4 e.proof.a.who.length c4, .int .i64 e.proof.b.slot, .int .u64 e.proof.b.head, .int .i64 e.proof.b.src.e, .int .u64 e.proof.b.src.r, .int .i64 e.proof.b.tgt.e, .int .u64 e.proof.b.tgt.r, .slice A5 e.proof.b.who.length c5], rfl, ho6, ?_⟩, hbB6⟩
            show _ ∧ _
            rw [hG1.out]
            refine ⟨by rw [List.length_append, HG.out.1]; rfl, fun j x hx => ?_⟩
            rcases Nat.lt_or_ge j n' with hj | hj
            · rw [List.getElem?_append_left (by rw [HG.out.1]; exact hj)] at hx
              rw [List.drop_append_of_le_length (by omega), List.take_append_of_le_length (by rw [List.length_drop]; omega)]
              exact HG.out.2 j x hx
            · rw [List.getElem?_append_right (by rw [HG.out.1]; exact hj), HG.out.1] at hx
              have h0 : j - n' < 1 := (List.getElem?_eq_some_iff.1 hx).1
              obtain rfl : j = n' := by omega
              rw [Nat.sub_self] at hx
              obtain rfl : e = x := by simpa using hx
              rw [← hgl, List.drop_left]
              exact EvK.shut HR0.out
          case measure => simp [intOf]; omega
      · obtain rfl : k = es.length := by omega
        rw [List.take_length] at HG
        have hz : Evs anyB wr A' (es.filter mayB) := (Lie.of_own HO.out (by decide) HG.out.1 HG.out.2 (fun _ _ _ => trivial) : Lie anyB (EvK (· < B) w) 28 wr A' (es.filter mayB)).mono (fun x cs _ h => EvK.mono h (fun _ _ => trivial) (fun i hi hi' => hbr.block i hi)) (fun _ x => x) (fun _ _ _ => rfl)
        have hgn := HG.out.1
        have hgle : (es.filter mayB).length ≤ 100 := Nat.le_trans (List.length_filter_le _ _) hL
        have hga : (es.filter mayB).all mayB = true := by simp
        have hgw : ∀ e ∈ es.filter mayB, e.wf := fun e he => hwf e (List.mem_filter.1 he).1
        clear HO HG HEV hes hwf
        generalize es.filter mayB = gs at hz hgn hgle hga hgw
        have hn3 : n' ≤ 300 := by omega
        go_wp2_with fail
        refine (bytes_calls _ A' n' c' gs hz hgn hn3 hga).mono ?_
        rintro en w2 ⟨Rb, nb, cb, rfl, hob, hb2⟩
        have hbl := hob.len
        have hbf := own_fits hob
        have hgs := hg
        by_cases hne : gs = []
        · subst hne
          have hnb : nb = 0 := by rw [← hbl]; rfl
          subst hnb
          have hbB2 : Below B w w2 := hbr.trans (hb2.mono (Nat.le_trans hB2 hbr.size))
          clear hob hbf hbl hgw hga hgle hgn hz hn3
          go_wp2
          go_ret
          exact ⟨rfl, hbB2⟩
        · obtain ⟨t, htt⟩ : ∃ t : Nat, cut.tmod 7 = t := ⟨(cut.tmod 7).toNat, by rw [Int.toNat_of_nonneg (Int.tmod_nonneg _ hc0.1)]⟩
          have ht6 : t ≤ 6 := by
            have := Int.tmod_lt_of_pos cut (show (0 : Int) < 7 by decide)
            omega
          have hl8 := bes_length (encN gs)
          have hpos : 0 < (encN gs).length := by
            cases gs with
            | nil => exact absurd rfl hne
            | cons g gs => exact List.length_pos_iff.2 (encN_pos g gs)
          have hnb : nb = 8 * (encN gs).length := by rw [← hbl]; exact hl8
          obtain ⟨k, hkk⟩ : ∃ k : Nat, k = nb - 1 - t := ⟨_, rfl⟩
          have hk1 : (nb : Int) - 1 - t = k := by omega
          have hkb : k ≤ nb := by omega
          have hdec : decR (decide (k % 8 ≠ 0)) 4096 (groups ((bes (encN gs)).take k)) = (none, 0) := by
            rw [groups_take _ _ (by omega), groups_bes (encN_U hgw), show decide (k % 8 ≠ 0) = true from by simp; omega, show k / 8 = (encN gs).length - 1 from by omega, ← List.dropLast_eq_take]
            exact decR_cut gs 4096 (by omega) hga hne
          have hgrl : (groups ((bes (encN gs)).take k)).length = (encN gs).length - 1 := by
            rw [groups_length, List.length_take]; omega
          have hbyt : bytesW ((bes (encN gs)).take k) := fun x hx => bytesW_bes _ x (List.mem_of_mem_take hx)
          have hik : Ints anyB .u8 w2 Rb ((bes (encN gs)).take k) := fun h0 => by
            obtain ⟨b, o, he, hok, hc⟩ := hob.ints (by rw [List.length_take] at h0; omega)
            exact ⟨b, o, he, hok, fun j x hx => hc j x (by
              have hj := (List.getElem?_eq_some_iff.1 hx).1
              rw [List.length_take] at hj
              rwa [List.getElem?_take_of_lt (by omega)] at hx)⟩
          have hcap : nb ≤ cb := hbf.2.1
          have hbB2 : Below B w w2 := hbr.trans (hb2.mono (Nat.le_trans hB2 hbr.size))
          have hBs2 : B ≤ w2.heap.size := Nat.le_trans hB2 hbB2.size
          have hnbl : nb ≤ 9007199254740992 := by
            have := hbf.2.2
            unfold maxLen at this
            have h5 : (encN gs).length ≤ 200000 * 100 := Nat.le_trans (flatMap_le evN 200000 gs (fun x hx => evN_le (List.all_eq_true.1 hga x hx))) (by omega)
            omega
          have HDEC := Lib.hid hdec
          have HGRL := Lib.hid hgrl
          have HNB := Lib.hid hnb
          have HIK := Lib.hid hik
          have HKK := Lib.hid hkk
          have hnz : ((nb : Int) == 0) = false := by simp; omega
          clear hdec hgrl hnb hik hkk hl8 hne hz hgw hga hgle hgn hn3 hob hb2 hbl hbf
          go_wp2_with fail
          refine (Decode_calls _ Rb k cb ((bes (encN gs)).take k) HIK.out hbyt (by rw [List.length_take]; have := HNB.out; have := bes_length (encN gs); omega) ⟨by omega, by unfold maxLen; omega⟩).mono ?_
          rintro en w3 ⟨hb3, hde⟩
          rw [HDEC.out] at hde
          rcases hde with ⟨xs, A3, c3, hx, _⟩ | ⟨_, rfl⟩
          · cases hx
          · have hq : 8 * ((groups ((bes (encN gs)).take k)).length - 0) = nb - 8 := by have := HGRL.out; have := HNB.out; omega
            obtain ⟨q, hqq⟩ : ∃ q, q = 8 * ((groups ((bes (encN gs)).take k)).length - 0) := ⟨_, rfl⟩
            rw [← hqq] at hq ⊢
            have hq2 : (nb : Int) - 8 = q := by have := HNB.out; omega
            have hg3 : GV w3 := (hg.below (hbB2.mono hB1)).below hb3
            have hbB3 : Below B w w3 := hbB2.trans (hb3.mono hBs2)
            have hBs3 : B ≤ w3.heap.size := Nat.le_trans hB2 hbB3.size
            clear hqq
            go_wp2_with (go_at_call 10; refine (Number_calls _ 1 hg3).mono ?_; rintro en w4 ⟨rfl, hb4⟩)
            go_ret
            exact ⟨rfl, hbB3.trans (hb4.mono hBs3)⟩
  · go_enter Tryd.func4, Tryd.ntmps4
    go_wp2_with (go_at_call 6; refine (l04awake_calls _).mono ?_; rintro e w1 ⟨rfl, hb1⟩)
    go_ret
    exact ⟨rfl, hb1⟩
end Go.Proofs.YtccficljaomhhaaDoor
