/- WireBack, walked. -/
import Derived.Test.YtccficljaomhhaaL04Bare
import Derived.Test.YtccficljaomhhaaL04g
import Derived.Test.YtccficljaomhhaaDecL
import Derived.Test.YtccficljaomhhaaOps2
namespace Go.Proofs.Ytccficljaomhhaa
open Go.RowKit
attribute [local go_sem ↓] Go.wp_at_zero Go.wp_at_succ
attribute [local go_sem] Go.undef
theorem encN_bare (es : List Ev) (h : es.all mayB = true) : encN (es.map bareE) = encN es := by
  induction es with
  | nil => rfl
  | cons e es ih =>
    simp only [List.all_cons, Bool.and_eq_true] at h
    have h1 := bareE_enc e h.1
    have h2 := ih h.2
    simp only [encN, List.map_cons, List.flatMap_cons, List.flatMap_nil, List.append_nil] at h1 h2 ⊢
    rw [h1, h2]
theorem back_dec {es : List Ev} (h : es.all mayB = true) (hw : ∀ e ∈ es, e.wf) (hl : es.length ≤ 300) {n : Nat} (hn : (bes (encN es)).length = n) : decR (decide (n % 8 ≠ 0)) 4096 (groups (bes (encN es))) = (some (es.map bareE), 0) := by
  rw [groups_bes (encN_U hw), show decide (n % 8 ≠ 0) = false from by rw [bes_length] at hn; simp; omega, decR_ok es 4096 (by omega) h]
theorem RowO.evs' {B : Nat} {w : World} {A : Option Addr} {c : Nat} {xs : List Ev} (h : RowO 38 28 (EvO B w) B w A c xs) : Evs (B ≤ ·) w A xs :=
  Lie.mono (h.lie (by decide) (fun _ x => x)) (fun _ _ _ x => x.k) (fun _ x => x) (fun _ _ _ => rfl)
set_option maxRecDepth 100000 in
set_option maxHeartbeats 16000000 in
theorem WireBack_calls (w : World) (A : Option Addr) (c : Nat) (es : List Ev) (hes : Evs anyB w A es) (hm : es.length ≤ maxLen) (hwf : ∀ e ∈ es, e.wf) :
    Calls Try.prog 7 #[.slice A es.length c] w fun e w' => e = .returned (.bool true) ∧ Below w.heap.size w w' := by
  unfold maxLen at hm
  by_cases hL : es.length ≤ 300
  · have HEV : Hid (∀ w', Below w.heap.size w w' → Evs (· < w.heap.size) w' A es) := fun w' h => (Evs.lt hes).mono (fun b hb => hb.2) (fun b hb _ => h.block b hb.2)
    obtain ⟨B, HB, hB1, hB2⟩ := size_hid w
    rw [HB.out] at HEV ⊢
    go_enter Try.func7, Try.ntmps7
    go_upto_region 5 with (go_at_call 9; refine (l04awake_calls _).mono ?_; rintro e w1 ⟨rfl, hb1⟩)
    go_wp2
    have hbB1 := hb1.mono hB2
    clear hb1
    go_loopw [3, 20] (fun s i wr => ∃ k : Nat, k ≤ es.length ∧ i = .int .i64 k ∧ (∃ A' n' c' gcs, s = .slice A' n' c' ∧ wr.ownsRow B 38 28 (.slice A' n' c') n' gcs ∧ Hid (((es.take k).filter mayB).length = n' ∧ ∀ j x, ((es.take k).filter mayB)[j]? = some x → EvK (· < B) w x ((gcs.drop (j * 28)).take 28))) ∧ Below B w wr) (fun _ i _ => es.length - (intOf i).toNat)
    case atStart => exact ⟨0, Nat.zero_le _, rfl, ⟨none, 0, 0, [], rfl, own_nil _ _ _ _, rfl, fun j x h => by simp at h⟩, hbB1⟩
    case round =>
      clear hbB1
      obtain ⟨k, hk, rfl, ⟨A', n', c', gcs, rfl, ho, HG⟩, hbr⟩ := hrel
      have HO := Lib.hid ho
      clear ho
      by_cases hlt : k < es.length
      · obtain ⟨e, hx⟩ : ∃ e, es[k]? = some e := ⟨_, List.getElem?_eq_getElem hlt⟩
        obtain ⟨bb, o, rfl, _, A1, c1, A2, c2, A3, c3, A4, c4, A5, c5, hr, hat⟩ := (HEV.out _ hbr).get hx
        have HX := Lib.hid hx
        have HAT := Lib.hid hat
        clear hx hat
        go_upto_region 9 with (first | (refine wpList_load_mid rfl 38 _ rfl _ _ rfl [.int .i64 e.kind, .int .i64 e.slot, .int .u64 e.block.root, .int .u64 e.block.parent, .int .i64 e.block.slot, .slice A1 e.block.votes.length c1, .slice A2 e.block.proofs.length c2, .int .i64 e.vote.slot, .int .u64 e.vote.head, .int .i64 e.vote.src.e, .int .u64 e.vote.src.r, .int .i64 e.vote.tgt.e, .int .u64 e.vote.tgt.r, .slice A3 e.vote.who.length c3, .int .i64 e.proof.a.slot, .int .u64 e.proof.a.head, .int .i64 e.proof.a.src.e, .int .u64 e.proof.a.src.r, .int .i64 e.proof.a.tgt.e, .int .u64 e.proof.a.tgt.r, .slice A4 e.proof.a.who.length c4, .int .i64 e.proof.b.slot, .int .u64 e.proof.b.head, .int .i64 e.proof.b.src.e, .int .u64 e.proof.b.src.r, .int .i64 e.proof.b.tgt.e, .int .u64 e.proof.b.tgt.r, .slice A5 e.proof.b.who.length c5] _ HAT.out Try.underlying38 rfl iEv ?_) | (refine wpList_box 38 5 _ (.tmp 23) [.int .i64 e.kind, .int .i64 e.slot, .int .u64 e.block.root, .int .u64 e.block.parent, .int .i64 e.block.slot, .slice A1 e.block.votes.length c1, .slice A2 e.block.proofs.length c2, .int .i64 e.vote.slot, .int .u64 e.vote.head, .int .i64 e.vote.src.e, .int .u64 e.vote.src.r, .int .i64 e.vote.tgt.e, .int .u64 e.vote.tgt.r, .slice A3 e.vote.who.length c3, .int .i64 e.proof.a.slot, .int .u64 e.proof.a.head, .int .i64 e.proof.a.src.e, .int .u64 e.proof.a.src.r, .int .i64 e.proof.a.tgt.e, .int .u64 e.proof.a.tgt.r, .slice A4 e.proof.a.who.length c4, .int .i64 e.proof.b.slot, .int .u64 e.proof.b.head, .int .i64 e.proof.b.src.e, .int .u64 e.proof.b.src.r, .int .i64 e.proof.b.tgt.e, .int .u64 e.proof.b.tgt.r, .slice A5 e.proof.b.who.length c5] rfl rfl rfl zEv rfl rfl iEv rfl ?_))
        generalize hW2 : wr.alloc (Obj.cells _ 38) = W2
        have hblk := heap_new wr (Obj.cells #[.int .i64 e.kind, .int .i64 e.slot, .int .u64 e.block.root, .int .u64 e.block.parent, .int .i64 e.block.slot, .slice A1 e.block.votes.length c1, .slice A2 e.block.proofs.length c2, .int .i64 e.vote.slot, .int .u64 e.vote.head, .int .i64 e.vote.src.e, .int .u64 e.vote.src.r, .int .i64 e.vote.tgt.e, .int .u64 e.vote.tgt.r, .slice A3 e.vote.who.length c3, .int .i64 e.proof.a.slot, .int .u64 e.proof.a.head, .int .i64 e.proof.a.src.e, .int .u64 e.proof.a.src.r, .int .i64 e.proof.a.tgt.e, .int .u64 e.proof.a.tgt.r, .slice A4 e.proof.a.who.length c4, .int .i64 e.proof.b.slot, .int .u64 e.proof.b.head, .int .i64 e.proof.b.src.e, .int .u64 e.proof.b.src.r, .int .i64 e.proof.b.tgt.e, .int .u64 e.proof.b.tgt.r, .slice A5 e.proof.b.who.length c5] 38)
        rw [hW2] at hblk
        have hbw2 : Below wr.heap.size wr W2 := by rw [← hW2]; exact below_alloc (Below.refl _ _) _
        clear hW2
        have hr2 := (hr.below hbw2).any
        have HO1 := Lib.hid (own_below HO.out hbw2)
        have hbB2 : Below B w W2 := hbr.trans (hbw2.mono (Nat.le_trans hB2 hbr.size))
        have hBs2 : B ≤ W2.heap.size := Nat.le_trans hB2 hbB2.size
        clear HO hbw2 HAT
        generalize wr.heap.size = Px at hblk ⊢
        have HBLK := Lib.hid hblk
        clear hblk
        have HR : Hid (∀ w' : World, w'.heap[Px]? = some (.cells #[.int .i64 e.kind, .int .i64 e.slot, .int .u64 e.block.root, .int .u64 e.block.parent, .int .i64 e.block.slot, .slice A1 e.block.votes.length c1, .slice A2 e.block.proofs.length c2, .int .i64 e.vote.slot, .int .u64 e.vote.head, .int .i64 e.vote.src.e, .int .u64 e.vote.src.r, .int .i64 e.vote.tgt.e, .int .u64 e.vote.tgt.r, .slice A3 e.vote.who.length c3, .int .i64 e.proof.a.slot, .int .u64 e.proof.a.head, .int .i64 e.proof.a.src.e, .int .u64 e.proof.a.src.r, .int .i64 e.proof.a.tgt.e, .int .u64 e.proof.a.tgt.r, .slice A4 e.proof.a.who.length c4, .int .i64 e.proof.b.slot, .int .u64 e.proof.b.head, .int .i64 e.proof.b.src.e, .int .u64 e.proof.b.src.r, .int .i64 e.proof.b.tgt.e, .int .u64 e.proof.b.tgt.r, .slice A5 e.proof.b.who.length c5] 38 (0, 0)) → w'.rangeAt Px 0 [.int .i64 e.kind, .int .i64 e.slot, .int .u64 e.block.root, .int .u64 e.block.parent, .int .i64 e.block.slot, .slice A1 e.block.votes.length c1, .slice A2 e.block.proofs.length c2, .int .i64 e.vote.slot, .int .u64 e.vote.head, .int .i64 e.vote.src.e, .int .u64 e.vote.src.r, .int .i64 e.vote.tgt.e, .int .u64 e.vote.tgt.r, .slice A3 e.vote.who.length c3, .int .i64 e.proof.a.slot, .int .u64 e.proof.a.head, .int .i64 e.proof.a.src.e, .int .u64 e.proof.a.src.r, .int .i64 e.proof.a.tgt.e, .int .u64 e.proof.a.tgt.r, .slice A4 e.proof.a.who.length c4, .int .i64 e.proof.b.slot, .int .u64 e.proof.b.head, .int .i64 e.proof.b.src.e, .int .u64 e.proof.b.src.r, .int .i64 e.proof.b.tgt.e, .int .u64 e.proof.b.tgt.r, .slice A5 e.proof.b.who.length c5]) := fun w' h j v hj => by rw [Nat.zero_add, blk_cell h]; simpa using hj
        obtain ⟨m, hm⟩ : ∃ m, mayB e = m := ⟨_, rfl⟩
        have HM := Lib.hid hm
        have HR0 : Hid (EvR (· < B) w e A1 c1 A2 c2 A3 c3 A4 c4 A5 c5) := hr.mono (fun _ x => x) (fun i hi _ => (hbr.block i hi).symm)
        go_wp2_with (refine wpList_load_mid rfl 38 _ rfl _ _ rfl [.int .i64 e.kind, .int .i64 e.slot, .int .u64 e.block.root, .int .u64 e.block.parent, .int .i64 e.block.slot, .slice A1 e.block.votes.length c1, .slice A2 e.block.proofs.length c2, .int .i64 e.vote.slot, .int .u64 e.vote.head, .int .i64 e.vote.src.e, .int .u64 e.vote.src.r, .int .i64 e.vote.tgt.e, .int .u64 e.vote.tgt.r, .slice A3 e.vote.who.length c3, .int .i64 e.proof.a.slot, .int .u64 e.proof.a.head, .int .i64 e.proof.a.src.e, .int .u64 e.proof.a.src.r, .int .i64 e.proof.a.tgt.e, .int .u64 e.proof.a.tgt.r, .slice A4 e.proof.a.who.length c4, .int .i64 e.proof.b.slot, .int .u64 e.proof.b.head, .int .i64 e.proof.b.src.e, .int .u64 e.proof.b.src.r, .int .i64 e.proof.b.tgt.e, .int .u64 e.proof.b.tgt.r, .slice A5 e.proof.b.who.length c5] _ (HR.out _ HBLK.out) Try.underlying38 rfl iEv ?_)
        refine (l04may_calls _ e A1 c1 A2 c2 A3 c3 A4 c4 A5 c5 hr2).mono ?_
        rintro en w5 ⟨rfl, hb5⟩
        rw [hm]
        have HBLK5 := Lib.hid (blk_below HBLK.out hb5)
        have HO5 := Lib.hid (own_below HO1.out hb5)
        have hbB5 : Below B w w5 := hbB2.trans (hb5.mono hBs2)
        have hBs5 : B ≤ w5.heap.size := Nat.le_trans hB2 hbB5.size
        have HNL : Hid (n' ≤ 300) := by
          show _ ≤ _
          have h1 := List.length_filter_le mayB (es.take k)
          rw [HG.out.1, List.length_take] at h1
          omega
        clear hb5 hr2 HO1 hbB2 hBs2 HBLK hm hr
        cases m
        · have hG1 : Hid ((es.take (k + 1)).filter mayB = (es.take k).filter mayB) := by show _ = _; rw [List.take_add_one, List.filter_append, HX.out]; simp [HM.out]
          go_wp2
          go_roundw
          case rel => exact ⟨k + 1, by omega, by go_num, ⟨A', n', c', gcs, rfl, HO5.out, by rw [hG1.out]; exact HG⟩, hbB5⟩
          case measure => simp [intOf]; omega
        · have hG1 : Hid ((es.take (k + 1)).filter mayB = (es.take k).filter mayB ++ [e]) := by show _ = _; rw [List.take_add_one, List.filter_append, HX.out]; simp [HM.out]
          go_wp2_with (first | (refine wpList_load_mid rfl 38 _ rfl _ _ rfl [.int .i64 e.kind, .int .i64 e.slot, .int .u64 e.block.root, .int .u64 e.block.parent, .int .i64 e.block.slot, .slice A1 e.block.votes.length c1, .slice A2 e.block.proofs.length c2, .int .i64 e.vote.slot, .int .u64 e.vote.head, .int .i64 e.vote.src.e, .int .u64 e.vote.src.r, .int .i64 e.vote.tgt.e, .int .u64 e.vote.tgt.r, .slice A3 e.vote.who.length c3, .int .i64 e.proof.a.slot, .int .u64 e.proof.a.head, .int .i64 e.proof.a.src.e, .int .u64 e.proof.a.src.r, .int .i64 e.proof.a.tgt.e, .int .u64 e.proof.a.tgt.r, .slice A4 e.proof.a.who.length c4, .int .i64 e.proof.b.slot, .int .u64 e.proof.b.head, .int .i64 e.proof.b.src.e, .int .u64 e.proof.b.src.r, .int .i64 e.proof.b.tgt.e, .int .u64 e.proof.b.tgt.r, .slice A5 e.proof.b.who.length c5] _ (HR.out _ HBLK5.out) Try.underlying38 rfl iEv ?_) | (at_builtin; refine wpList_app B rfl (.tmp 26) (.tmp 28) 22 38 _ 28 304 rfl Try.underlying22 infoEv rfl (by decide) _ n' gcs rfl (World.ownsRow.alloc HO5.out _) (some ⟨w5.heap.size, 0, none⟩) 1 1 [.int .i64 e.kind, .int .i64 e.slot, .int .u64 e.block.root, .int .u64 e.block.parent, .int .i64 e.block.slot, .slice A1 e.block.votes.length c1, .slice A2 e.block.proofs.length c2, .int .i64 e.vote.slot, .int .u64 e.vote.head, .int .i64 e.vote.src.e, .int .u64 e.vote.src.r, .int .i64 e.vote.tgt.e, .int .u64 e.vote.tgt.r, .slice A3 e.vote.who.length c3, .int .i64 e.proof.a.slot, .int .u64 e.proof.a.head, .int .i64 e.proof.a.src.e, .int .u64 e.proof.a.src.r, .int .i64 e.proof.a.tgt.e, .int .u64 e.proof.a.tgt.r, .slice A4 e.proof.a.who.length c4, .int .i64 e.proof.b.slot, .int .u64 e.proof.b.head, .int .i64 e.proof.b.src.e, .int .u64 e.proof.b.src.r, .int .i64 e.proof.b.tgt.e, .int .u64 e.proof.b.tgt.r, .slice A5 e.proof.b.who.length c5] rfl rfl flat_new (EvK.one (EvK.shut HR0.out)) (by have := HNL.out; omega) (by have := HNL.out; omega) (by simp; omega) ?_; intro A7 c7 w6 ho6 hg6 _))
          go_roundw
          case rel =>
            have hbB6 : Below B w w6 := (below_alloc' hbB5 hB2 _).grown hg6 (by simp; omega) (own_base HO5.out)
            have hgl : gcs.length = n' * 28 := HO5.out.1
            refine ⟨k + 1, by omega, by go_num, ⟨A7, n' + 1, c7, gcs ++ [.int .i64 e.kind, .int .i64 e.slot, .int .u64 e.block.root, .int .u64 e.block.parent, .int .i64 e.block.slot, .slice A1 e.block.votes.length c1, .slice A2 e.block.proofs.length c2, .int .i64 e.vote.slot, .int .u64 e.vote.head, .int .i64 e.vote.src.e, .int .u64 e.vote.src.r, .int .i64 e.vote.tgt.e, .int .u64 e.vote.tgt.r, .slice A3 e.vote.who.length c3, .int .i64 e.proof.a.slot, .int .u64 e.proof.a.head, .int .i64 e.proof.a.src.e, .int .u64 e.proof.a.src.r, .int .i64 e.proof.a.tgt.e, .int .u64 e.proof.a.tgt.r, .slice A4 e.proof.a.who.length c4, .int .i64 e.proof.b.slot, .int .u64 e.proof.b.head, .int .i64 e.proof.b.src.e, .int .u64 e.proof.b.src.r, .int .i64 e.proof.b.tgt.e, .int .u64 e.proof.b.tgt.r, .slice A5 e.proof.b.who.length c5], rfl, ho6, ?_⟩, hbB6⟩
            show _ ∧ _
            rw [hG1.out]
            refine ⟨by rw [List.length_append, HG.out.1]; rfl, fun j x hx => ?_⟩
            rcases Nat.lt_or_ge j n' with hj | hj
            · rw [List.getElem?_append_left (by rw [HG.out.1]; exact hj)] at hx
              rw [List.drop_append_of_le_length (by omega), List.take_append_of_le_length (by rw [List.length_drop]; omega)]
              exact HG.out.2 j x hx
            · rw [List.getElem?_append_right (by rw [HG.out.1]; exact hj), HG.out.1] at hx
              have h0 : j - n' < 1 := (List.getElem?_eq_some_iff.1 hx).1
              obtain rfl : j = n' := by omega
              rw [Nat.sub_self] at hx
              obtain rfl : e = x := by simpa using hx
              rw [← hgl, List.drop_left]
              exact EvK.shut HR0.out
          case measure => simp [intOf]; omega
      · obtain rfl : k = es.length := by omega
        rw [List.take_length] at HG
        have hz : Evs anyB wr A' (es.filter mayB) := (Lie.of_own HO.out (by decide) HG.out.1 HG.out.2 (fun _ _ _ => trivial) : Lie anyB (EvK (· < B) w) 28 wr A' (es.filter mayB)).mono (fun x cs _ h => EvK.mono h (fun _ _ => trivial) (fun i hi hi' => hbr.block i hi)) (fun _ x => x) (fun _ _ _ => rfl)
        have hgn := HG.out.1
        have hgle : (es.filter mayB).length ≤ 300 := Nat.le_trans (List.length_filter_le _ _) hL
        have hga : (es.filter mayB).all mayB = true := by simp
        have hgw : ∀ e ∈ es.filter mayB, e.wf := fun e he => hwf e (List.mem_filter.1 he).1
        clear HO HG HEV hes hwf
        generalize es.filter mayB = gs at hz hgn hgle hga hgw
        have hn3 : n' ≤ 300 := by omega
        go_wp2_with fail
        refine (bytes_calls _ A' n' c' gs hz hgn hn3 hga).mono ?_
        rintro en w2 ⟨Rb, nb, cb, rfl, hob, hb2⟩
        have hbl := hob.len
        have hbf := own_fits hob
        have hdec := back_dec hga hgw hgle hbl
        go_wp2_with fail
        refine (Decode_calls _ Rb nb cb (bes (encN gs)) hob.ints (bytesW_bes _) hbl hbf.2).mono ?_
        rintro en w3 ⟨hb3, hde⟩
        rw [hdec] at hde
        rcases hde with ⟨xs, A3, c3, hx, _, rfl, hrow3⟩ | ⟨h1, _⟩
        · obtain rfl : gs.map bareE = xs := by simpa using hx
          have hz3 := (hz.below hb2).below hb3
          have hb23 := below_trans hb2 hb3
          have hbB3 : Below B w w3 := hbr.trans (hb23.mono (Nat.le_trans hB2 hbr.size))
          have hxa : (gs.map bareE).all mayB = true := by
            rw [List.all_eq_true] at hga ⊢
            intro e he
            obtain ⟨g, hg, rfl⟩ := List.mem_map.1 he
            rw [bareE_may]; exact hga g hg
          have hxs := hrow3.evs'.any
          have hxn : (gs.map bareE).length = n' := by simp [hgn]
          obtain ⟨S, hS⟩ : ∃ S, Hid (S = strOfNums (bes (encN gs))) := ⟨_, rfl⟩
          have hi3 : Ints anyB .u8 w3 Rb (bes (encN gs)) := hob.ints.below hb3
          have HC : Hid (∀ w' : World, Below w3.heap.size w3 w' → (convert 40 9 (.slice Rb nb cb)).run Try.prog w' = .ok (.string S) w') := fun w' h => by rw [hS.out]; exact run_str (hi3.below h) hbl
          have HCX : Hid (∀ (w' : World) (R' : Option Addr) (n1 c1 : Nat), Ints anyB .u8 w' R' (bes (encN (gs.map bareE))) → (bes (encN (gs.map bareE))).length = n1 → (convert 40 9 (.slice R' n1 c1)).run Try.prog w' = .ok (.string S) w') := fun w' R' n1 c1 h1 h2 => by
            rw [hS.out, ← encN_bare gs hga]
            exact run_str h1 h2
          rw [hxn]
          clear hdec hob hbf hz hb2 hb3 hb23 hrow3 hi3 hS
          go_upto_region 14 with fail
          refine wp_region_held_drew (S := fun w' => Below w3.heap.size w3 w') (by kernel_rfl) (Below.refl _ _).drew (fun hHeld => ?_)
          refine' takeAt (i := 0) (v := .nilIface) (d := (some 39)) rfl rfl (by kernel_rfl) (by kernel_rfl) (by kernel_rfl) (fun _ _ _ h => h) (Or.inl ⟨by kernel_rfl, fun w' hSw => by have f1 := HC.out w' hSw; first | (go_simp; done) | (go_simp; with_reducible rfl)⟩) hHeld ?_
          set_option linter.unusedSimpArgs false in
          try simp only [Act.put, List.setIfInBounds_toArray, List.set_cons_zero, List.set_cons_succ]
          refine' takeAt (i := 1) (v := .bool false) (d := (some 40)) rfl rfl (by kernel_rfl) (by kernel_rfl) (by kernel_rfl) (fun _ _ _ h => h) (Or.inl ⟨by kernel_rfl, fun w' hSw => by have f1 := HC.out w' hSw; first | (go_simp; done) | (go_simp; with_reducible rfl)⟩) hHeld ?_
          set_option linter.unusedSimpArgs false in
          try simp only [Act.put, List.setIfInBounds_toArray, List.set_cons_zero, List.set_cons_succ]
          refine' takeAt (i := 2) (v := .bool false) (d := (some 41)) rfl rfl (by kernel_rfl) (by kernel_rfl) (by kernel_rfl) (fun _ _ _ h => h) (Or.inl ⟨by kernel_rfl, fun w' hSw => by have f1 := HC.out w' hSw; first | (go_simp; done) | (go_simp; with_reducible rfl)⟩) hHeld ?_
          set_option linter.unusedSimpArgs false in
          try simp only [Act.put, List.setIfInBounds_toArray, List.set_cons_zero, List.set_cons_succ]
          refine' takeAt (i := 3) (v := .int .i64 nb) (d := (some 42)) rfl rfl (by kernel_rfl) (by kernel_rfl) (by kernel_rfl) (fun _ _ _ h => h) (Or.inl ⟨by kernel_rfl, fun w' hSw => by have f1 := HC.out w' hSw; first | (go_simp; done) | (go_simp; with_reducible rfl)⟩) hHeld ?_
          set_option linter.unusedSimpArgs false in
          try simp only [Act.put, List.setIfInBounds_toArray, List.set_cons_zero, List.set_cons_succ]
          refine' takeAt (i := 4) (v := .slice Rb nb cb) (d := (some 43)) rfl rfl (by kernel_rfl) (by kernel_rfl) (by kernel_rfl) (fun _ _ _ h => h) (Or.inl ⟨by kernel_rfl, fun w' hSw => by have f1 := HC.out w' hSw; first | (go_simp; done) | (go_simp; with_reducible rfl)⟩) hHeld ?_
          set_option linter.unusedSimpArgs false in
          try simp only [Act.put, List.setIfInBounds_toArray, List.set_cons_zero, List.set_cons_succ]
          refine' takeAt (i := 5) (v := .int .i64 nb) (d := (some 44)) rfl rfl (by kernel_rfl) (by kernel_rfl) (by kernel_rfl) (fun _ _ _ h => h) (Or.inl ⟨by kernel_rfl, fun w' hSw => by have f1 := HC.out w' hSw; first | (go_simp; done) | (go_simp; with_reducible rfl)⟩) hHeld ?_
          set_option linter.unusedSimpArgs false in
          try simp only [Act.put, List.setIfInBounds_toArray, List.set_cons_zero, List.set_cons_succ]
          refine' takeAt (i := 6) (v := .bool false) (d := (some 45)) rfl rfl (by kernel_rfl) (by kernel_rfl) (by kernel_rfl) (fun _ _ _ h => h) (Or.inl ⟨by kernel_rfl, fun w' hSw => by have f1 := HC.out w' hSw; first | (go_simp; done) | (go_simp; with_reducible rfl)⟩) hHeld ?_
          set_option linter.unusedSimpArgs false in
          try simp only [Act.put, List.setIfInBounds_toArray, List.set_cons_zero, List.set_cons_succ]
          refine' takeAt (i := 7) (v := .bool false) (d := (some 46)) rfl rfl (by kernel_rfl) (by kernel_rfl) (by kernel_rfl) (fun _ _ _ h => h) (Or.inl ⟨by kernel_rfl, fun w' hSw => by have f1 := HC.out w' hSw; first | (go_simp; done) | (go_simp; with_reducible rfl)⟩) hHeld ?_
          set_option linter.unusedSimpArgs false in
          try simp only [Act.put, List.setIfInBounds_toArray, List.set_cons_zero, List.set_cons_succ]
          refine' takeAt (i := 8) (v := .bool false) (d := (some 47)) rfl rfl (by kernel_rfl) (by kernel_rfl) (by kernel_rfl) (fun _ _ _ h => h) (Or.inl ⟨by kernel_rfl, fun w' hSw => by have f1 := HC.out w' hSw; first | (go_simp; done) | (go_simp; with_reducible rfl)⟩) hHeld ?_
          set_option linter.unusedSimpArgs false in
          try simp only [Act.put, List.setIfInBounds_toArray, List.set_cons_zero, List.set_cons_succ]
          refine' takeAt (i := 9) (v := .slice A3 n' c3) (d := (some 48)) rfl rfl (by kernel_rfl) (by kernel_rfl) (by kernel_rfl) (fun _ _ _ h => h) (Or.inl ⟨by kernel_rfl, fun w' hSw => by have f1 := HC.out w' hSw; first | (go_simp; done) | (go_simp; with_reducible rfl)⟩) hHeld ?_
          set_option linter.unusedSimpArgs false in
          try simp only [Act.put, List.setIfInBounds_toArray, List.set_cons_zero, List.set_cons_succ]
          refine' takeAt (i := 10) (v := .int .i64 n') (d := (some 49)) rfl rfl (by kernel_rfl) (by kernel_rfl) (by kernel_rfl) (fun _ _ _ h => h) (Or.inl ⟨by kernel_rfl, fun w' hSw => by have f1 := HC.out w' hSw; first | (go_simp; done) | (go_simp; with_reducible rfl)⟩) hHeld ?_
          set_option linter.unusedSimpArgs false in
          try simp only [Act.put, List.setIfInBounds_toArray, List.set_cons_zero, List.set_cons_succ]
          refine' takeAt (i := 11) (v := .slice A' n' c') (d := (some 50)) rfl rfl (by kernel_rfl) (by kernel_rfl) (by kernel_rfl) (fun _ _ _ h => h) (Or.inl ⟨by kernel_rfl, fun w' hSw => by have f1 := HC.out w' hSw; first | (go_simp; done) | (go_simp; with_reducible rfl)⟩) hHeld ?_
          set_option linter.unusedSimpArgs false in
          try simp only [Act.put, List.setIfInBounds_toArray, List.set_cons_zero, List.set_cons_succ]
          refine' takeAt (i := 12) (v := .int .i64 n') (d := (some 51)) rfl rfl (by kernel_rfl) (by kernel_rfl) (by kernel_rfl) (fun _ _ _ h => h) (Or.inl ⟨by kernel_rfl, fun w' hSw => by have f1 := HC.out w' hSw; first | (go_simp; done) | (go_simp; with_reducible rfl)⟩) hHeld ?_
          set_option linter.unusedSimpArgs false in
          try simp only [Act.put, List.setIfInBounds_toArray, List.set_cons_zero, List.set_cons_succ]
          refine' takeAt (i := 13) (v := .bool false) (d := (some 52)) rfl rfl (by kernel_rfl) (by kernel_rfl) (by kernel_rfl) (fun _ _ _ h => h) (Or.inl ⟨by kernel_rfl, fun w' hSw => by have f1 := HC.out w' hSw; first | (go_simp; done) | (go_simp; with_reducible rfl)⟩) hHeld ?_
          set_option linter.unusedSimpArgs false in
          try simp only [Act.put, List.setIfInBounds_toArray, List.set_cons_zero, List.set_cons_succ]
          refine' takeAt (i := 14) (v := .bool false) (d := (some 53)) rfl rfl (by kernel_rfl) (by kernel_rfl) (by kernel_rfl) (fun _ _ _ h => h) (Or.inl ⟨by kernel_rfl, fun w' hSw => by have f1 := HC.out w' hSw; first | (go_simp; done) | (go_simp; with_reducible rfl)⟩) hHeld ?_
          set_option linter.unusedSimpArgs false in
          try simp only [Act.put, List.setIfInBounds_toArray, List.set_cons_zero, List.set_cons_succ]
          refine' takeAt (i := 15) (v := .bool false) (d := (some 54)) rfl rfl (by kernel_rfl) (by kernel_rfl) (by kernel_rfl) (fun _ _ _ h => h) (Or.inl ⟨by kernel_rfl, fun w' hSw => by have f1 := HC.out w' hSw; first | (go_simp; done) | (go_simp; with_reducible rfl)⟩) hHeld ?_
          set_option linter.unusedSimpArgs false in
          try simp only [Act.put, List.setIfInBounds_toArray, List.set_cons_zero, List.set_cons_succ]
          refine' takeAt (i := 16) (v := .slice A3 n' c3) (d := (some 55)) rfl rfl (by kernel_rfl) (by kernel_rfl) (by kernel_rfl) (fun _ _ _ h => h) (Or.inl ⟨by kernel_rfl, fun w' hSw => by have f1 := HC.out w' hSw; first | (go_simp; done) | (go_simp; with_reducible rfl)⟩) hHeld ?_
          set_option linter.unusedSimpArgs false in
          try simp only [Act.put, List.setIfInBounds_toArray, List.set_cons_zero, List.set_cons_succ]
          refine' takeAt (i := 19) (v := .slice Rb nb cb) (d := (some 58)) rfl rfl (by kernel_rfl) (by kernel_rfl) (by kernel_rfl) (fun _ _ _ h => h) (Or.inl ⟨by kernel_rfl, fun w' hSw => by have f1 := HC.out w' hSw; first | (go_simp; done) | (go_simp; with_reducible rfl)⟩) hHeld ?_
          set_option linter.unusedSimpArgs false in
          try simp only [Act.put, List.setIfInBounds_toArray, List.set_cons_zero, List.set_cons_succ]
          refine' takeAt (i := 20) (v := .string S) (d := (some 59)) rfl rfl (by kernel_rfl) (by kernel_rfl) (by kernel_rfl) (fun _ _ _ h => h) (Or.inl ⟨by kernel_rfl, fun w' hSw => by have f1 := HC.out w' hSw; first | (go_simp; done) | (go_simp; with_reducible rfl)⟩) hHeld ?_
          set_option linter.unusedSimpArgs false in
          try simp only [Act.put, List.setIfInBounds_toArray, List.set_cons_zero, List.set_cons_succ]
          refine wpAnyH_ready (rs := [17]) (by kernel_rfl) (by simp) ?_
          refine AllReadyH.cons rfl (fun K hK => ?_) AllReadyH.nil
          go_simp
          refine (bytes_calls _ A3 n' c3 (gs.map bareE) (hxs.below hHeld) hxn hn3 hxa).mono ?_
          rintro en w4 ⟨Rx, nx, cx, rfl, hox, hb4⟩
          have fx := HCX.out w4 Rx nx cx hox.ints hox.len
          refine hK.out _ _ (below_trans hHeld hb4) (fun hHeld => ?_)
          clear hK K
          set_option linter.unusedSimpArgs false in
          try simp only [Act.put, List.setIfInBounds_toArray, List.set_cons_zero, List.set_cons_succ]
          refine wpAnyH_ready (rs := [18]) (by kernel_rfl) (by simp) ?_
          refine AllReadyH.cons rfl (fun K hK => ?_) AllReadyH.nil
          go_simp
          refine hK.out _ _ hHeld (fun hHeld => ?_)
          clear hK K
          set_option linter.unusedSimpArgs false in
          try simp only [Act.put, List.setIfInBounds_toArray, List.set_cons_zero, List.set_cons_succ]
          clear fx hox
          refine' takeAt (i := 21) (v := .bool false) (d := (some 60)) rfl rfl (by kernel_rfl) (by kernel_rfl) (by kernel_rfl) (fun _ _ _ h => h) (Or.inl ⟨by kernel_rfl, fun w' hSw => by have f1 := HC.out w' hSw; first | (go_simp; done) | (go_simp; with_reducible rfl)⟩) hHeld ?_
          set_option linter.unusedSimpArgs false in
          try simp only [Act.put, List.setIfInBounds_toArray, List.set_cons_zero, List.set_cons_succ]
          refine' takeAt (i := 22) (v := .bool false) (d := (some 61)) rfl rfl (by kernel_rfl) (by kernel_rfl) (by kernel_rfl) (fun _ _ _ h => h) (Or.inl ⟨by kernel_rfl, fun w' hSw => by have f1 := HC.out w' hSw; first | (go_simp; done) | (go_simp; with_reducible rfl)⟩) hHeld ?_
          set_option linter.unusedSimpArgs false in
          try simp only [Act.put, List.setIfInBounds_toArray, List.set_cons_zero, List.set_cons_succ]
          refine wpAnyH_done (by kernel_rfl) ?_ _
          have hH4 := hHeld
          clear hHeld
          go_wp2
          go_loopw [64] (fun i wr => ∃ k : Nat, k ≤ n' ∧ i = .int .i64 k ∧ Below w3.heap.size w3 wr) (fun i _ => n' - (intOf i).toNat)
          case atStart => exact ⟨0, Nat.zero_le _, rfl, hH4⟩
          case round =>
            clear hH4
            obtain ⟨k, hk, rfl, hbr3⟩ := hrel
            by_cases hlt : k < n'
            · obtain ⟨g, hg⟩ : ∃ g, gs[k]? = some g := ⟨_, List.getElem?_eq_getElem (by omega)⟩
              have hgm : mayB g = true := List.all_eq_true.1 hga g (List.mem_of_getElem? hg)
              obtain ⟨x, hxe⟩ : ∃ x, x = bareE g := ⟨_, rfl⟩
              have HXE := Lib.hid hxe
              have hxk : (gs.map bareE)[k]? = some x := by rw [List.getElem?_map, hg, hxe]; rfl
              obtain ⟨bx, ox, rfl, _, A1, c1, A2, c2, A4, c4, A5, c5, A6, c6, hrx, hatx⟩ := (hxs.below hbr3).get hxk
              obtain ⟨bg, og, rfl, _, D1, d1, D2, d2, D3, d3, D4, d4, D5, d5, hrg, hatg⟩ := (hz3.below hbr3).get hg
              have HATX := Lib.hid hatx
              have HATG := Lib.hid hatg
              clear hatx hatg hxe hxk hg
              go_upto_region 19 with (first
                | (refine wpList_load_mid rfl 38 _ rfl _ _ rfl [.int .i64 x.kind, .int .i64 x.slot, .int .u64 x.block.root, .int .u64 x.block.parent, .int .i64 x.block.slot, .slice A1 x.block.votes.length c1, .slice A2 x.block.proofs.length c2, .int .i64 x.vote.slot, .int .u64 x.vote.head, .int .i64 x.vote.src.e, .int .u64 x.vote.src.r, .int .i64 x.vote.tgt.e, .int .u64 x.vote.tgt.r, .slice A4 x.vote.who.length c4, .int .i64 x.proof.a.slot, .int .u64 x.proof.a.head, .int .i64 x.proof.a.src.e, .int .u64 x.proof.a.src.r, .int .i64 x.proof.a.tgt.e, .int .u64 x.proof.a.tgt.r, .slice A5 x.proof.a.who.length c5, .int .i64 x.proof.b.slot, .int .u64 x.proof.b.head, .int .i64 x.proof.b.src.e, .int .u64 x.proof.b.src.r, .int .i64 x.proof.b.tgt.e, .int .u64 x.proof.b.tgt.r, .slice A6 x.proof.b.who.length c6] _ HATX.out Try.underlying38 rfl iEv ?_)
                | (refine wpList_box2 38 11 10 (.tmp 66) (.int .i64 k) _ (.tmp 68) [.int .i64 x.kind, .int .i64 x.slot, .int .u64 x.block.root, .int .u64 x.block.parent, .int .i64 x.block.slot, .slice A1 x.block.votes.length c1, .slice A2 x.block.proofs.length c2, .int .i64 x.vote.slot, .int .u64 x.vote.head, .int .i64 x.vote.src.e, .int .u64 x.vote.src.r, .int .i64 x.vote.tgt.e, .int .u64 x.vote.tgt.r, .slice A4 x.vote.who.length c4, .int .i64 x.proof.a.slot, .int .u64 x.proof.a.head, .int .i64 x.proof.a.src.e, .int .u64 x.proof.a.src.r, .int .i64 x.proof.a.tgt.e, .int .u64 x.proof.a.tgt.r, .slice A5 x.proof.a.who.length c5, .int .i64 x.proof.b.slot, .int .u64 x.proof.b.head, .int .i64 x.proof.b.src.e, .int .u64 x.proof.b.src.r, .int .i64 x.proof.b.tgt.e, .int .u64 x.proof.b.tgt.r, .slice A6 x.proof.b.who.length c6] rfl rfl rfl rfl rfl zEv rfl rfl iEv rfl ?_))
              have hbx := heap_new wr (Obj.cells #[.int .i64 x.kind, .int .i64 x.slot, .int .u64 x.block.root, .int .u64 x.block.parent, .int .i64 x.block.slot, .slice A1 x.block.votes.length c1, .slice A2 x.block.proofs.length c2, .int .i64 x.vote.slot, .int .u64 x.vote.head, .int .i64 x.vote.src.e, .int .u64 x.vote.src.r, .int .i64 x.vote.tgt.e, .int .u64 x.vote.tgt.r, .slice A4 x.vote.who.length c4, .int .i64 x.proof.a.slot, .int .u64 x.proof.a.head, .int .i64 x.proof.a.src.e, .int .u64 x.proof.a.src.r, .int .i64 x.proof.a.tgt.e, .int .u64 x.proof.a.tgt.r, .slice A5 x.proof.a.who.length c5, .int .i64 x.proof.b.slot, .int .u64 x.proof.b.head, .int .i64 x.proof.b.src.e, .int .u64 x.proof.b.src.r, .int .i64 x.proof.b.tgt.e, .int .u64 x.proof.b.tgt.r, .slice A6 x.proof.b.who.length c6] 38)
              have hb5 := below_alloc (Below.refl wr.heap.size wr) (Obj.cells #[.int .i64 x.kind, .int .i64 x.slot, .int .u64 x.block.root, .int .u64 x.block.parent, .int .i64 x.block.slot, .slice A1 x.block.votes.length c1, .slice A2 x.block.proofs.length c2, .int .i64 x.vote.slot, .int .u64 x.vote.head, .int .i64 x.vote.src.e, .int .u64 x.vote.src.r, .int .i64 x.vote.tgt.e, .int .u64 x.vote.tgt.r, .slice A4 x.vote.who.length c4, .int .i64 x.proof.a.slot, .int .u64 x.proof.a.head, .int .i64 x.proof.a.src.e, .int .u64 x.proof.a.src.r, .int .i64 x.proof.a.tgt.e, .int .u64 x.proof.a.tgt.r, .slice A5 x.proof.a.who.length c5, .int .i64 x.proof.b.slot, .int .u64 x.proof.b.head, .int .i64 x.proof.b.src.e, .int .u64 x.proof.b.src.r, .int .i64 x.proof.b.tgt.e, .int .u64 x.proof.b.tgt.r, .slice A6 x.proof.b.who.length c6] 38)
              have HATG5 := Lib.hid (fun j v hj => cell_below (HATG.out j v hj) hb5)
              have hrx5 := hrx.below hb5
              have hrg5 := hrg.below hb5
              have hbr5 : Below w3.heap.size w3 (wr.alloc (Obj.cells #[.int .i64 x.kind, .int .i64 x.slot, .int .u64 x.block.root, .int .u64 x.block.parent, .int .i64 x.block.slot, .slice A1 x.block.votes.length c1, .slice A2 x.block.proofs.length c2, .int .i64 x.vote.slot, .int .u64 x.vote.head, .int .i64 x.vote.src.e, .int .u64 x.vote.src.r, .int .i64 x.vote.tgt.e, .int .u64 x.vote.tgt.r, .slice A4 x.vote.who.length c4, .int .i64 x.proof.a.slot, .int .u64 x.proof.a.head, .int .i64 x.proof.a.src.e, .int .u64 x.proof.a.src.r, .int .i64 x.proof.a.tgt.e, .int .u64 x.proof.a.tgt.r, .slice A5 x.proof.a.who.length c5, .int .i64 x.proof.b.slot, .int .u64 x.proof.b.head, .int .i64 x.proof.b.src.e, .int .u64 x.proof.b.src.r, .int .i64 x.proof.b.tgt.e, .int .u64 x.proof.b.tgt.r, .slice A6 x.proof.b.who.length c6] 38)) := below_trans hbr3 hb5
              clear hb5 hrx hrg HATX HATG
              generalize wr.alloc _ = W5 at hbx HATG5 hrx5 hrg5 hbr5 ⊢
              generalize wr.heap.size = Px at hbx ⊢
              go_wp2_with (refine wpList_load_mid rfl 38 _ rfl _ _ rfl [.int .i64 g.kind, .int .i64 g.slot, .int .u64 g.block.root, .int .u64 g.block.parent, .int .i64 g.block.slot, .slice D1 g.block.votes.length d1, .slice D2 g.block.proofs.length d2, .int .i64 g.vote.slot, .int .u64 g.vote.head, .int .i64 g.vote.src.e, .int .u64 g.vote.src.r, .int .i64 g.vote.tgt.e, .int .u64 g.vote.tgt.r, .slice D3 g.vote.who.length d3, .int .i64 g.proof.a.slot, .int .u64 g.proof.a.head, .int .i64 g.proof.a.src.e, .int .u64 g.proof.a.src.r, .int .i64 g.proof.a.tgt.e, .int .u64 g.proof.a.tgt.r, .slice D4 g.proof.a.who.length d4, .int .i64 g.proof.b.slot, .int .u64 g.proof.b.head, .int .i64 g.proof.b.src.e, .int .u64 g.proof.b.src.r, .int .i64 g.proof.b.tgt.e, .int .u64 g.proof.b.tgt.r, .slice D5 g.proof.b.who.length d5] _ HATG5.out Try.underlying38 rfl iEv ?_)
              refine (Bare_calls _ g D1 d1 D2 d2 D3 d3 D4 d4 D5 d5 hrg5.any).mono ?_
              rintro r w6 ⟨y, F1, g1, F2, g2, F3, g3, F4, g4, F5, g5, hye, rfl, hry, hb6⟩
              have HYE := Lib.hid hye
              clear hye
              go_upto_region 20 with (refine wpList_box 38 12 _ (.tmp 73) [.int .i64 y.kind, .int .i64 y.slot, .int .u64 y.block.root, .int .u64 y.block.parent, .int .i64 y.block.slot, .slice F1 y.block.votes.length g1, .slice F2 y.block.proofs.length g2, .int .i64 y.vote.slot, .int .u64 y.vote.head, .int .i64 y.vote.src.e, .int .u64 y.vote.src.r, .int .i64 y.vote.tgt.e, .int .u64 y.vote.tgt.r, .slice F3 y.vote.who.length g3, .int .i64 y.proof.a.slot, .int .u64 y.proof.a.head, .int .i64 y.proof.a.src.e, .int .u64 y.proof.a.src.r, .int .i64 y.proof.a.tgt.e, .int .u64 y.proof.a.tgt.r, .slice F4 y.proof.a.who.length g4, .int .i64 y.proof.b.slot, .int .u64 y.proof.b.head, .int .i64 y.proof.b.src.e, .int .u64 y.proof.b.src.r, .int .i64 y.proof.b.tgt.e, .int .u64 y.proof.b.tgt.r, .slice F5 y.proof.b.who.length g5] rfl rfl rfl zEv rfl rfl iEv rfl ?_)
              have hbx6 := blk_below hbx hb6
              have hb7 := below_alloc (Below.refl w6.heap.size w6) (Obj.cells #[.int .i64 y.kind, .int .i64 y.slot, .int .u64 y.block.root, .int .u64 y.block.parent, .int .i64 y.block.slot, .slice F1 y.block.votes.length g1, .slice F2 y.block.proofs.length g2, .int .i64 y.vote.slot, .int .u64 y.vote.head, .int .i64 y.vote.src.e, .int .u64 y.vote.src.r, .int .i64 y.vote.tgt.e, .int .u64 y.vote.tgt.r, .slice F3 y.vote.who.length g3, .int .i64 y.proof.a.slot, .int .u64 y.proof.a.head, .int .i64 y.proof.a.src.e, .int .u64 y.proof.a.src.r, .int .i64 y.proof.a.tgt.e, .int .u64 y.proof.a.tgt.r, .slice F4 y.proof.a.who.length g4, .int .i64 y.proof.b.slot, .int .u64 y.proof.b.head, .int .i64 y.proof.b.src.e, .int .u64 y.proof.b.src.r, .int .i64 y.proof.b.tgt.e, .int .u64 y.proof.b.tgt.r, .slice F5 y.proof.b.who.length g5] 38)
              have hby := heap_new w6 (Obj.cells #[.int .i64 y.kind, .int .i64 y.slot, .int .u64 y.block.root, .int .u64 y.block.parent, .int .i64 y.block.slot, .slice F1 y.block.votes.length g1, .slice F2 y.block.proofs.length g2, .int .i64 y.vote.slot, .int .u64 y.vote.head, .int .i64 y.vote.src.e, .int .u64 y.vote.src.r, .int .i64 y.vote.tgt.e, .int .u64 y.vote.tgt.r, .slice F3 y.vote.who.length g3, .int .i64 y.proof.a.slot, .int .u64 y.proof.a.head, .int .i64 y.proof.a.src.e, .int .u64 y.proof.a.src.r, .int .i64 y.proof.a.tgt.e, .int .u64 y.proof.a.tgt.r, .slice F4 y.proof.a.who.length g4, .int .i64 y.proof.b.slot, .int .u64 y.proof.b.head, .int .i64 y.proof.b.src.e, .int .u64 y.proof.b.src.r, .int .i64 y.proof.b.tgt.e, .int .u64 y.proof.b.tgt.r, .slice F5 y.proof.b.who.length g5] 38)
              have hb67 := below_trans hb6 hb7
              have hbx7 := blk_below hbx hb67
              have hrx7 := hrx5.below hb67
              have hry7 := hry.below hb7
              have hbr7 : Below w3.heap.size w3 (w6.alloc (Obj.cells #[.int .i64 y.kind, .int .i64 y.slot, .int .u64 y.block.root, .int .u64 y.block.parent, .int .i64 y.block.slot, .slice F1 y.block.votes.length g1, .slice F2 y.block.proofs.length g2, .int .i64 y.vote.slot, .int .u64 y.vote.head, .int .i64 y.vote.src.e, .int .u64 y.vote.src.r, .int .i64 y.vote.tgt.e, .int .u64 y.vote.tgt.r, .slice F3 y.vote.who.length g3, .int .i64 y.proof.a.slot, .int .u64 y.proof.a.head, .int .i64 y.proof.a.src.e, .int .u64 y.proof.a.src.r, .int .i64 y.proof.a.tgt.e, .int .u64 y.proof.a.tgt.r, .slice F4 y.proof.a.who.length g4, .int .i64 y.proof.b.slot, .int .u64 y.proof.b.head, .int .i64 y.proof.b.src.e, .int .u64 y.proof.b.src.r, .int .i64 y.proof.b.tgt.e, .int .u64 y.proof.b.tgt.r, .slice F5 y.proof.b.who.length g5] 38)) := below_trans hbr5 hb67
              clear hbx6 hb7 hb67 hrx5 hry hbr5 hbx hb6 HATG5 hrg5
              generalize w6.alloc _ = w7 at hby hbx7 hrx7 hry7 hbr7 ⊢
              generalize w6.heap.size = Py at hby ⊢
              have HXM : Hid (mayB x = true) := by show _ = _; rw [HXE.out, bareE_may]; exact hgm
              have HYX : Hid (y = x) := by show _ = _; rw [HXE.out, HYE.out]
              have HBS : Hid (∀ w' : World, Below w7.heap.size w7 w' → w'.heap[Px]? = some (.cells #[.int .i64 x.kind, .int .i64 x.slot, .int .u64 x.block.root, .int .u64 x.block.parent, .int .i64 x.block.slot, .slice A1 x.block.votes.length c1, .slice A2 x.block.proofs.length c2, .int .i64 x.vote.slot, .int .u64 x.vote.head, .int .i64 x.vote.src.e, .int .u64 x.vote.src.r, .int .i64 x.vote.tgt.e, .int .u64 x.vote.tgt.r, .slice A4 x.vote.who.length c4, .int .i64 x.proof.a.slot, .int .u64 x.proof.a.head, .int .i64 x.proof.a.src.e, .int .u64 x.proof.a.src.r, .int .i64 x.proof.a.tgt.e, .int .u64 x.proof.a.tgt.r, .slice A5 x.proof.a.who.length c5, .int .i64 x.proof.b.slot, .int .u64 x.proof.b.head, .int .i64 x.proof.b.src.e, .int .u64 x.proof.b.src.r, .int .i64 x.proof.b.tgt.e, .int .u64 x.proof.b.tgt.r, .slice A6 x.proof.b.who.length c6] 38 (0, 0)) ∧ w'.heap[Py]? = some (.cells #[.int .i64 y.kind, .int .i64 y.slot, .int .u64 y.block.root, .int .u64 y.block.parent, .int .i64 y.block.slot, .slice F1 y.block.votes.length g1, .slice F2 y.block.proofs.length g2, .int .i64 y.vote.slot, .int .u64 y.vote.head, .int .i64 y.vote.src.e, .int .u64 y.vote.src.r, .int .i64 y.vote.tgt.e, .int .u64 y.vote.tgt.r, .slice F3 y.vote.who.length g3, .int .i64 y.proof.a.slot, .int .u64 y.proof.a.head, .int .i64 y.proof.a.src.e, .int .u64 y.proof.a.src.r, .int .i64 y.proof.a.tgt.e, .int .u64 y.proof.a.tgt.r, .slice F4 y.proof.a.who.length g4, .int .i64 y.proof.b.slot, .int .u64 y.proof.b.head, .int .i64 y.proof.b.src.e, .int .u64 y.proof.b.src.r, .int .i64 y.proof.b.tgt.e, .int .u64 y.proof.b.tgt.r, .slice F5 y.proof.b.who.length g5] 38 (0, 0))) := fun w' h => ⟨blk_below hbx7 h, blk_below hby h⟩
              have HRX : Hid (∀ w' : World, w'.heap[Px]? = some (.cells #[.int .i64 x.kind, .int .i64 x.slot, .int .u64 x.block.root, .int .u64 x.block.parent, .int .i64 x.block.slot, .slice A1 x.block.votes.length c1, .slice A2 x.block.proofs.length c2, .int .i64 x.vote.slot, .int .u64 x.vote.head, .int .i64 x.vote.src.e, .int .u64 x.vote.src.r, .int .i64 x.vote.tgt.e, .int .u64 x.vote.tgt.r, .slice A4 x.vote.who.length c4, .int .i64 x.proof.a.slot, .int .u64 x.proof.a.head, .int .i64 x.proof.a.src.e, .int .u64 x.proof.a.src.r, .int .i64 x.proof.a.tgt.e, .int .u64 x.proof.a.tgt.r, .slice A5 x.proof.a.who.length c5, .int .i64 x.proof.b.slot, .int .u64 x.proof.b.head, .int .i64 x.proof.b.src.e, .int .u64 x.proof.b.src.r, .int .i64 x.proof.b.tgt.e, .int .u64 x.proof.b.tgt.r, .slice A6 x.proof.b.who.length c6] 38 (0, 0)) → w'.rangeAt Px 0 [.int .i64 x.kind, .int .i64 x.slot, .int .u64 x.block.root, .int .u64 x.block.parent, .int .i64 x.block.slot, .slice A1 x.block.votes.length c1, .slice A2 x.block.proofs.length c2, .int .i64 x.vote.slot, .int .u64 x.vote.head, .int .i64 x.vote.src.e, .int .u64 x.vote.src.r, .int .i64 x.vote.tgt.e, .int .u64 x.vote.tgt.r, .slice A4 x.vote.who.length c4, .int .i64 x.proof.a.slot, .int .u64 x.proof.a.head, .int .i64 x.proof.a.src.e, .int .u64 x.proof.a.src.r, .int .i64 x.proof.a.tgt.e, .int .u64 x.proof.a.tgt.r, .slice A5 x.proof.a.who.length c5, .int .i64 x.proof.b.slot, .int .u64 x.proof.b.head, .int .i64 x.proof.b.src.e, .int .u64 x.proof.b.src.r, .int .i64 x.proof.b.tgt.e, .int .u64 x.proof.b.tgt.r, .slice A6 x.proof.b.who.length c6]) := fun w' h j v hj => by rw [Nat.zero_add, blk_cell h]; simpa using hj
              have HRY : Hid (∀ w' : World, w'.heap[Py]? = some (.cells #[.int .i64 y.kind, .int .i64 y.slot, .int .u64 y.block.root, .int .u64 y.block.parent, .int .i64 y.block.slot, .slice F1 y.block.votes.length g1, .slice F2 y.block.proofs.length g2, .int .i64 y.vote.slot, .int .u64 y.vote.head, .int .i64 y.vote.src.e, .int .u64 y.vote.src.r, .int .i64 y.vote.tgt.e, .int .u64 y.vote.tgt.r, .slice F3 y.vote.who.length g3, .int .i64 y.proof.a.slot, .int .u64 y.proof.a.head, .int .i64 y.proof.a.src.e, .int .u64 y.proof.a.src.r, .int .i64 y.proof.a.tgt.e, .int .u64 y.proof.a.tgt.r, .slice F4 y.proof.a.who.length g4, .int .i64 y.proof.b.slot, .int .u64 y.proof.b.head, .int .i64 y.proof.b.src.e, .int .u64 y.proof.b.src.r, .int .i64 y.proof.b.tgt.e, .int .u64 y.proof.b.tgt.r, .slice F5 y.proof.b.who.length g5] 38 (0, 0)) → w'.rangeAt Py 0 [.int .i64 y.kind, .int .i64 y.slot, .int .u64 y.block.root, .int .u64 y.block.parent, .int .i64 y.block.slot, .slice F1 y.block.votes.length g1, .slice F2 y.block.proofs.length g2, .int .i64 y.vote.slot, .int .u64 y.vote.head, .int .i64 y.vote.src.e, .int .u64 y.vote.src.r, .int .i64 y.vote.tgt.e, .int .u64 y.vote.tgt.r, .slice F3 y.vote.who.length g3, .int .i64 y.proof.a.slot, .int .u64 y.proof.a.head, .int .i64 y.proof.a.src.e, .int .u64 y.proof.a.src.r, .int .i64 y.proof.a.tgt.e, .int .u64 y.proof.a.tgt.r, .slice F4 y.proof.a.who.length g4, .int .i64 y.proof.b.slot, .int .u64 y.proof.b.head, .int .i64 y.proof.b.src.e, .int .u64 y.proof.b.src.r, .int .i64 y.proof.b.tgt.e, .int .u64 y.proof.b.tgt.r, .slice F5 y.proof.b.who.length g5]) := fun w' h j v hj => by rw [Nat.zero_add, blk_cell h]; simpa using hj
              have HF : Hid (∀ w' : World, Below w7.heap.size w7 w' → w'.cell? ⟨Px, 0, none⟩ = some (.int .i64 x.kind) ∧ w'.cell? ⟨Px, 1, none⟩ = some (.int .i64 x.slot) ∧ w'.cell? ⟨Px, 2, none⟩ = some (.int .u64 x.block.root) ∧ w'.cell? ⟨Px, 3, none⟩ = some (.int .u64 x.block.parent) ∧ w'.cell? ⟨Px, 13, none⟩ = some (.slice A4 x.vote.who.length c4) ∧ w'.cell? ⟨Px, 20, none⟩ = some (.slice A5 x.proof.a.who.length c5) ∧ w'.cell? ⟨Py, 0, none⟩ = some (.int .i64 y.kind) ∧ w'.cell? ⟨Py, 1, none⟩ = some (.int .i64 y.slot)) := fun w' h => ⟨blk_cell (HBS.out w' h).1 0, blk_cell (HBS.out w' h).1 1, blk_cell (HBS.out w' h).1 2, blk_cell (HBS.out w' h).1 3, blk_cell (HBS.out w' h).1 13, blk_cell (HBS.out w' h).1 20, blk_cell (HBS.out w' h).2 0, blk_cell (HBS.out w' h).2 1⟩
              obtain ⟨SX, hSX⟩ : ∃ SX, Hid (SX = strOfNums (bes (evN x))) := ⟨_, rfl⟩
              have HEL : Hid ((evN x).length ≤ 200000) := evN_le HXM.out
              clear hbx7 hby
              refine wp_region_held_drew (S := fun w' => Below w7.heap.size w7 w') (by kernel_rfl) (Below.refl _ _).drew (fun hHeld => ?_)
              refine' takeAt (i := 0) (v := .pointer (some ⟨Px, 0, none⟩)) (d := (some 74)) rfl rfl (by kernel_rfl) (by kernel_rfl) (by kernel_rfl) (fun _ _ _ h => h) (Or.inl ⟨by kernel_rfl, fun w' hSw => by obtain ⟨f1, f2, f3, f4, f5, f6, f7, f8⟩ := HF.out w' hSw; first | (go_simp; done) | (go_simp; with_reducible rfl)⟩) hHeld ?_
              set_option linter.unusedSimpArgs false in
              try simp only [Act.put, List.setIfInBounds_toArray, List.set_cons_zero, List.set_cons_succ]
              refine' takeAt (i := 1) (v := .int .i64 x.kind) (d := (some 75)) rfl rfl (by kernel_rfl) (by kernel_rfl) (by kernel_rfl) (fun _ _ _ h => h) (Or.inl ⟨by kernel_rfl, fun w' hSw => by obtain ⟨f1, f2, f3, f4, f5, f6, f7, f8⟩ := HF.out w' hSw; first | (go_simp; done) | (go_simp; with_reducible rfl)⟩) hHeld ?_
              set_option linter.unusedSimpArgs false in
              try simp only [Act.put, List.setIfInBounds_toArray, List.set_cons_zero, List.set_cons_succ]
              refine' takeAt (i := 2) (v := .pointer (some ⟨Py, 0, none⟩)) (d := (some 76)) rfl rfl (by kernel_rfl) (by kernel_rfl) (by kernel_rfl) (fun _ _ _ h => h) (Or.inl ⟨by kernel_rfl, fun w' hSw => by obtain ⟨f1, f2, f3, f4, f5, f6, f7, f8⟩ := HF.out w' hSw; first | (go_simp; done) | (go_simp; with_reducible rfl)⟩) hHeld ?_
              set_option linter.unusedSimpArgs false in
              try simp only [Act.put, List.setIfInBounds_toArray, List.set_cons_zero, List.set_cons_succ]
              refine' takeAt (i := 3) (v := .int .i64 y.kind) (d := (some 77)) rfl rfl (by kernel_rfl) (by kernel_rfl) (by kernel_rfl) (fun _ _ _ h => h) (Or.inl ⟨by kernel_rfl, fun w' hSw => by obtain ⟨f1, f2, f3, f4, f5, f6, f7, f8⟩ := HF.out w' hSw; first | (go_simp; done) | (go_simp; with_reducible rfl)⟩) hHeld ?_
              set_option linter.unusedSimpArgs false in
              try simp only [Act.put, List.setIfInBounds_toArray, List.set_cons_zero, List.set_cons_succ]
              refine' takeAt (i := 4) (v := .bool false) (d := (some 78)) rfl rfl (by kernel_rfl) (by kernel_rfl) (by kernel_rfl) (fun _ _ _ h => h) (Or.inl ⟨by kernel_rfl, fun w' hSw => by have e1 := congrArg Ev.kind HYX.out; have e2 := congrArg Ev.slot HYX.out; first | (go_simp; done) | (go_simp; with_reducible rfl)⟩) hHeld ?_
              set_option linter.unusedSimpArgs false in
              try simp only [Act.put, List.setIfInBounds_toArray, List.set_cons_zero, List.set_cons_succ]
              refine' takeAt (i := 5) (v := .bool false) (d := (some 79)) rfl rfl (by kernel_rfl) (by kernel_rfl) (by kernel_rfl) (fun _ _ _ h => h) (Or.inl ⟨by kernel_rfl, fun w' hSw => by obtain ⟨f1, f2, f3, f4, f5, f6, f7, f8⟩ := HF.out w' hSw; first | (go_simp; done) | (go_simp; with_reducible rfl)⟩) hHeld ?_
              set_option linter.unusedSimpArgs false in
              try simp only [Act.put, List.setIfInBounds_toArray, List.set_cons_zero, List.set_cons_succ]
              refine' takeAt (i := 6) (v := .pointer (some ⟨Px, 1, none⟩)) (d := (some 80)) rfl rfl (by kernel_rfl) (by kernel_rfl) (by kernel_rfl) (fun _ _ _ h => h) (Or.inl ⟨by kernel_rfl, fun w' hSw => by obtain ⟨f1, f2, f3, f4, f5, f6, f7, f8⟩ := HF.out w' hSw; first | (go_simp; done) | (go_simp; with_reducible rfl)⟩) hHeld ?_
              set_option linter.unusedSimpArgs false in
              try simp only [Act.put, List.setIfInBounds_toArray, List.set_cons_zero, List.set_cons_succ]
              refine' takeAt (i := 7) (v := .int .i64 x.slot) (d := (some 81)) rfl rfl (by kernel_rfl) (by kernel_rfl) (by kernel_rfl) (fun _ _ _ h => h) (Or.inl ⟨by kernel_rfl, fun w' hSw => by obtain ⟨f1, f2, f3, f4, f5, f6, f7, f8⟩ := HF.out w' hSw; first | (go_simp; done) | (go_simp; with_reducible rfl)⟩) hHeld ?_
              set_option linter.unusedSimpArgs false in
              try simp only [Act.put, List.setIfInBounds_toArray, List.set_cons_zero, List.set_cons_succ]
              refine' takeAt (i := 8) (v := .pointer (some ⟨Py, 1, none⟩)) (d := (some 82)) rfl rfl (by kernel_rfl) (by kernel_rfl) (by kernel_rfl) (fun _ _ _ h => h) (Or.inl ⟨by kernel_rfl, fun w' hSw => by obtain ⟨f1, f2, f3, f4, f5, f6, f7, f8⟩ := HF.out w' hSw; first | (go_simp; done) | (go_simp; with_reducible rfl)⟩) hHeld ?_
              set_option linter.unusedSimpArgs false in
              try simp only [Act.put, List.setIfInBounds_toArray, List.set_cons_zero, List.set_cons_succ]
              refine' takeAt (i := 9) (v := .int .i64 y.slot) (d := (some 83)) rfl rfl (by kernel_rfl) (by kernel_rfl) (by kernel_rfl) (fun _ _ _ h => h) (Or.inl ⟨by kernel_rfl, fun w' hSw => by obtain ⟨f1, f2, f3, f4, f5, f6, f7, f8⟩ := HF.out w' hSw; first | (go_simp; done) | (go_simp; with_reducible rfl)⟩) hHeld ?_
              set_option linter.unusedSimpArgs false in
              try simp only [Act.put, List.setIfInBounds_toArray, List.set_cons_zero, List.set_cons_succ]
              refine' takeAt (i := 10) (v := .bool false) (d := (some 84)) rfl rfl (by kernel_rfl) (by kernel_rfl) (by kernel_rfl) (fun _ _ _ h => h) (Or.inl ⟨by kernel_rfl, fun w' hSw => by have e1 := congrArg Ev.kind HYX.out; have e2 := congrArg Ev.slot HYX.out; first | (go_simp; done) | (go_simp; with_reducible rfl)⟩) hHeld ?_
              set_option linter.unusedSimpArgs false in
              try simp only [Act.put, List.setIfInBounds_toArray, List.set_cons_zero, List.set_cons_succ]
              refine' takeAt (i := 11) (v := .bool false) (d := (some 85)) rfl rfl (by kernel_rfl) (by kernel_rfl) (by kernel_rfl) (fun _ _ _ h => h) (Or.inl ⟨by kernel_rfl, fun w' hSw => by obtain ⟨f1, f2, f3, f4, f5, f6, f7, f8⟩ := HF.out w' hSw; first | (go_simp; done) | (go_simp; with_reducible rfl)⟩) hHeld ?_
              set_option linter.unusedSimpArgs false in
              try simp only [Act.put, List.setIfInBounds_toArray, List.set_cons_zero, List.set_cons_succ]
              refine' takeAt (i := 12) (v := .bool false) (d := (some 86)) rfl rfl (by kernel_rfl) (by kernel_rfl) (by kernel_rfl) (fun _ _ _ h => h) (Or.inl ⟨by kernel_rfl, fun w' hSw => by obtain ⟨f1, f2, f3, f4, f5, f6, f7, f8⟩ := HF.out w' hSw; first | (go_simp; done) | (go_simp; with_reducible rfl)⟩) hHeld ?_
              set_option linter.unusedSimpArgs false in
              try simp only [Act.put, List.setIfInBounds_toArray, List.set_cons_zero, List.set_cons_succ]
              refine' takeAt (i := 13) (v := .agg #[.int .i64 x.kind, .int .i64 x.slot, .int .u64 x.block.root, .int .u64 x.block.parent, .int .i64 x.block.slot, .slice A1 x.block.votes.length c1, .slice A2 x.block.proofs.length c2, .int .i64 x.vote.slot, .int .u64 x.vote.head, .int .i64 x.vote.src.e, .int .u64 x.vote.src.r, .int .i64 x.vote.tgt.e, .int .u64 x.vote.tgt.r, .slice A4 x.vote.who.length c4, .int .i64 x.proof.a.slot, .int .u64 x.proof.a.head, .int .i64 x.proof.a.src.e, .int .u64 x.proof.a.src.r, .int .i64 x.proof.a.tgt.e, .int .u64 x.proof.a.tgt.r, .slice A5 x.proof.a.who.length c5, .int .i64 x.proof.b.slot, .int .u64 x.proof.b.head, .int .i64 x.proof.b.src.e, .int .u64 x.proof.b.src.r, .int .i64 x.proof.b.tgt.e, .int .u64 x.proof.b.tgt.r, .slice A6 x.proof.b.who.length c6]) (d := (some 87)) rfl rfl (by kernel_rfl) (by kernel_rfl) (by kernel_rfl) (fun _ _ _ h => h) (yieldsIf_load_mid (by kernel_rfl) 38 _ rfl Px 0 rfl [.int .i64 x.kind, .int .i64 x.slot, .int .u64 x.block.root, .int .u64 x.block.parent, .int .i64 x.block.slot, .slice A1 x.block.votes.length c1, .slice A2 x.block.proofs.length c2, .int .i64 x.vote.slot, .int .u64 x.vote.head, .int .i64 x.vote.src.e, .int .u64 x.vote.src.r, .int .i64 x.vote.tgt.e, .int .u64 x.vote.tgt.r, .slice A4 x.vote.who.length c4, .int .i64 x.proof.a.slot, .int .u64 x.proof.a.head, .int .i64 x.proof.a.src.e, .int .u64 x.proof.a.src.r, .int .i64 x.proof.a.tgt.e, .int .u64 x.proof.a.tgt.r, .slice A5 x.proof.a.who.length c5, .int .i64 x.proof.b.slot, .int .u64 x.proof.b.head, .int .i64 x.proof.b.src.e, .int .u64 x.proof.b.src.r, .int .i64 x.proof.b.tgt.e, .int .u64 x.proof.b.tgt.r, .slice A6 x.proof.b.who.length c6] _ (fun w' h => HRX.out _ (HBS.out _ h).1) Try.underlying38 rfl iEv) hHeld ?_
              set_option linter.unusedSimpArgs false in
              try simp only [Act.put, List.setIfInBounds_toArray, List.set_cons_zero, List.set_cons_succ]
              refine' takeAt (i := 17) (v := .agg #[.int .i64 y.kind, .int .i64 y.slot, .int .u64 y.block.root, .int .u64 y.block.parent, .int .i64 y.block.slot, .slice F1 y.block.votes.length g1, .slice F2 y.block.proofs.length g2, .int .i64 y.vote.slot, .int .u64 y.vote.head, .int .i64 y.vote.src.e, .int .u64 y.vote.src.r, .int .i64 y.vote.tgt.e, .int .u64 y.vote.tgt.r, .slice F3 y.vote.who.length g3, .int .i64 y.proof.a.slot, .int .u64 y.proof.a.head, .int .i64 y.proof.a.src.e, .int .u64 y.proof.a.src.r, .int .i64 y.proof.a.tgt.e, .int .u64 y.proof.a.tgt.r, .slice F4 y.proof.a.who.length g4, .int .i64 y.proof.b.slot, .int .u64 y.proof.b.head, .int .i64 y.proof.b.src.e, .int .u64 y.proof.b.src.r, .int .i64 y.proof.b.tgt.e, .int .u64 y.proof.b.tgt.r, .slice F5 y.proof.b.who.length g5]) (d := (some 91)) rfl rfl (by kernel_rfl) (by kernel_rfl) (by kernel_rfl) (fun _ _ _ h => h) (yieldsIf_load_mid (by kernel_rfl) 38 _ rfl Py 0 rfl [.int .i64 y.kind, .int .i64 y.slot, .int .u64 y.block.root, .int .u64 y.block.parent, .int .i64 y.block.slot, .slice F1 y.block.votes.length g1, .slice F2 y.block.proofs.length g2, .int .i64 y.vote.slot, .int .u64 y.vote.head, .int .i64 y.vote.src.e, .int .u64 y.vote.src.r, .int .i64 y.vote.tgt.e, .int .u64 y.vote.tgt.r, .slice F3 y.vote.who.length g3, .int .i64 y.proof.a.slot, .int .u64 y.proof.a.head, .int .i64 y.proof.a.src.e, .int .u64 y.proof.a.src.r, .int .i64 y.proof.a.tgt.e, .int .u64 y.proof.a.tgt.r, .slice F4 y.proof.a.who.length g4, .int .i64 y.proof.b.slot, .int .u64 y.proof.b.head, .int .i64 y.proof.b.src.e, .int .u64 y.proof.b.src.r, .int .i64 y.proof.b.tgt.e, .int .u64 y.proof.b.tgt.r, .slice F5 y.proof.b.who.length g5] _ (fun w' h => HRY.out _ (HBS.out _ h).2) Try.underlying38 rfl iEv) hHeld ?_
              set_option linter.unusedSimpArgs false in
              try simp only [Act.put, List.setIfInBounds_toArray, List.set_cons_zero, List.set_cons_succ]
              refine wpAnyH_ready (rs := [14]) (by kernel_rfl) (by simp) ?_
              refine AllReadyH.cons rfl (fun K hK => ?_) AllReadyH.nil
              go_simp
              refine (numbers_calls _ x A1 c1 A2 c2 A4 c4 A5 c5 A6 c6 (hrx7.below hHeld).any HXM.out).mono ?_
              rintro en w8 ⟨Ra8, na8, ca8, rfl, hoa8, hb8⟩
              have hla8 := hoa8.len
              refine hK.out _ _ (below_trans hHeld hb8) (fun hHeld => ?_)
              clear hK K
              set_option linter.unusedSimpArgs false in
              try simp only [Act.put, List.setIfInBounds_toArray, List.set_cons_zero, List.set_cons_succ]
              refine wpAnyH_ready (rs := [15]) (by kernel_rfl) (by simp) ?_
              refine AllReadyH.cons rfl (fun K hK => ?_) AllReadyH.nil
              go_simp
              refine (Put_calls _ none 0 0 [] Ra8 na8 ca8 (evN x) Lie.nil hoa8.ints rfl hla8 (by have := HEL.out; simp; omega)).mono ?_
              rintro en w9 ⟨Rb9, nb9, cb9, rfl, hob9, hb9⟩
              have fx9 : (convert 40 9 (.slice Rb9 nb9 cb9)).run Try.prog w9 = .ok (.string SX) w9 := by rw [hSX.out, ← List.nil_append (bes (evN x))]; exact run_str (Ints.of_own hob9).any (by have := hob9.1; simpa using this)
              refine hK.out _ _ (below_trans hHeld hb9) (fun hHeld => ?_)
              clear hK K
              set_option linter.unusedSimpArgs false in
              try simp only [Act.put, List.setIfInBounds_toArray, List.set_cons_zero, List.set_cons_succ]
              have HFX : Hid (∀ w' : World, Below w9.heap.size w9 w' → (convert 40 9 (.slice Rb9 nb9 cb9)).run Try.prog w' = .ok (.string SX) w') := fun w' h => by rw [hSX.out, ← List.nil_append (bes (evN x))]; exact run_str ((Ints.of_own hob9).any.below h) (by have := hob9.1; simpa using this)
              have HB9 := Lib.hid hHeld
              clear fx9 hob9 hoa8 hHeld
              refine wpAnyH_stronger (S2 := fun w' => Below w9.heap.size w9 w') (fun w' h => below_trans HB9.out h) _ _ _ _ ?_
              have hHeld := Below.refl w9.heap.size w9
              refine' takeAt (i := 16) (v := .string SX) (d := (some 90)) rfl rfl (by kernel_rfl) (by kernel_rfl) (by kernel_rfl) (fun _ _ _ h => h) (Or.inl ⟨by kernel_rfl, fun w' hSw => by have f1 := HFX.out w' hSw; first | (go_simp; done) | (go_simp; with_reducible rfl)⟩) hHeld ?_
              set_option linter.unusedSimpArgs false in
              try simp only [Act.put, List.setIfInBounds_toArray, List.set_cons_zero, List.set_cons_succ]
              refine wpAnyH_ready (rs := [18]) (by kernel_rfl) (by simp) ?_
              refine AllReadyH.cons rfl (fun K hK => ?_) AllReadyH.nil
              go_simp
              refine (numbers_calls _ y F1 g1 F2 g2 F3 g3 F4 g4 F5 g5 ((hry7.below HB9.out).below hHeld) (by rw [HYX.out]; exact HXM.out)).mono ?_
              rintro en w10 ⟨Ra10, na10, ca10, rfl, hoa10, hb10⟩
              have hla10 := hoa10.len
              refine hK.out _ _ (below_trans hHeld hb10) (fun hHeld => ?_)
              clear hK K
              set_option linter.unusedSimpArgs false in
              try simp only [Act.put, List.setIfInBounds_toArray, List.set_cons_zero, List.set_cons_succ]
              refine wpAnyH_ready (rs := [19]) (by kernel_rfl) (by simp) ?_
              refine AllReadyH.cons rfl (fun K hK => ?_) AllReadyH.nil
              go_simp
              refine (Put_calls _ none 0 0 [] Ra10 na10 ca10 (evN y) Lie.nil hoa10.ints rfl hla10 (by have := HEL.out; rw [HYX.out]; simp; omega)).mono ?_
              rintro en w11 ⟨Rb11, nb11, cb11, rfl, hob11, hb11⟩
              have fx11 : (convert 40 9 (.slice Rb11 nb11 cb11)).run Try.prog w11 = .ok (.string SX) w11 := by rw [hSX.out, ← HYX.out, ← List.nil_append (bes (evN y))]; exact run_str (Ints.of_own hob11).any (by have := hob11.1; simpa using this)
              refine hK.out _ _ (below_trans hHeld hb11) (fun hHeld => ?_)
              clear hK K
              set_option linter.unusedSimpArgs false in
              try simp only [Act.put, List.setIfInBounds_toArray, List.set_cons_zero, List.set_cons_succ]
              refine wpAnyH_ready (rs := [20]) (by kernel_rfl) (by simp) ?_
              refine AllReadyH.cons rfl (fun K hK => ?_) AllReadyH.nil
              go_simp
              refine hK.out _ _ hHeld (fun hHeld => ?_)
              clear hK K
              set_option linter.unusedSimpArgs false in
              try simp only [Act.put, List.setIfInBounds_toArray, List.set_cons_zero, List.set_cons_succ]
              clear fx11 hob11 hoa10
              refine' takeAt (i := 21) (v := .bool false) (d := (some 95)) rfl rfl (by kernel_rfl) (by kernel_rfl) (by kernel_rfl) (fun _ _ _ h => h) (Or.inl ⟨by kernel_rfl, fun w' hSw => by obtain ⟨f1, f2, f3, f4, f5, f6, f7, f8⟩ := HF.out w' (below_trans HB9.out hSw); first | (go_simp; done) | (go_simp; with_reducible rfl)⟩) hHeld ?_
              set_option linter.unusedSimpArgs false in
              try simp only [Act.put, List.setIfInBounds_toArray, List.set_cons_zero, List.set_cons_succ]
              refine' takeAt (i := 22) (v := .bool false) (d := (some 96)) rfl rfl (by kernel_rfl) (by kernel_rfl) (by kernel_rfl) (fun _ _ _ h => h) (Or.inl ⟨by kernel_rfl, fun w' hSw => by obtain ⟨f1, f2, f3, f4, f5, f6, f7, f8⟩ := HF.out w' (below_trans HB9.out hSw); first | (go_simp; done) | (go_simp; with_reducible rfl)⟩) hHeld ?_
              set_option linter.unusedSimpArgs false in
              try simp only [Act.put, List.setIfInBounds_toArray, List.set_cons_zero, List.set_cons_succ]
              refine' takeAt (i := 23) (v := .bool false) (d := (some 97)) rfl rfl (by kernel_rfl) (by kernel_rfl) (by kernel_rfl) (fun _ _ _ h => h) (Or.inl ⟨by kernel_rfl, fun w' hSw => by obtain ⟨f1, f2, f3, f4, f5, f6, f7, f8⟩ := HF.out w' (below_trans HB9.out hSw); first | (go_simp; done) | (go_simp; with_reducible rfl)⟩) hHeld ?_
              set_option linter.unusedSimpArgs false in
              try simp only [Act.put, List.setIfInBounds_toArray, List.set_cons_zero, List.set_cons_succ]
              refine' takeAt (i := 24) (v := .pointer (some ⟨Px, 0, none⟩)) (d := (some 98)) rfl rfl (by kernel_rfl) (by kernel_rfl) (by kernel_rfl) (fun _ _ _ h => h) (Or.inl ⟨by kernel_rfl, fun w' hSw => by obtain ⟨f1, f2, f3, f4, f5, f6, f7, f8⟩ := HF.out w' (below_trans HB9.out hSw); first | (go_simp; done) | (go_simp; with_reducible rfl)⟩) hHeld ?_
              set_option linter.unusedSimpArgs false in
              try simp only [Act.put, List.setIfInBounds_toArray, List.set_cons_zero, List.set_cons_succ]
              refine' takeAt (i := 25) (v := .int .i64 x.kind) (d := (some 99)) rfl rfl (by kernel_rfl) (by kernel_rfl) (by kernel_rfl) (fun _ _ _ h => h) (Or.inl ⟨by kernel_rfl, fun w' hSw => by obtain ⟨f1, f2, f3, f4, f5, f6, f7, f8⟩ := HF.out w' (below_trans HB9.out hSw); first | (go_simp; done) | (go_simp; with_reducible rfl)⟩) hHeld ?_
              set_option linter.unusedSimpArgs false in
              try simp only [Act.put, List.setIfInBounds_toArray, List.set_cons_zero, List.set_cons_succ]
              clear hgm
              by_cases k1 : x.kind = 1
              · have HZ2 : Hid (x.vote.who.length = 0) := by show _ = _; rw [HXE.out] at k1 ⊢; simp only [bareE] at k1; simp [bareE, k1, Vt.zero]
                have HZ3 : Hid (x.proof.a.who.length = 0) := by show _ = _; rw [HXE.out] at k1 ⊢; simp only [bareE] at k1; simp [bareE, k1, Pf.zero, Vt.zero]
                have k2 : x.kind ≠ 2 := by omega
                have k3 : x.kind ≠ 3 := by omega
                have kb1 : (x.kind == 1) = true := by simp [k1]
                have kb2 : (x.kind == 2) = false := by simp [k2]
                have kb3 : (x.kind == 3) = false := by simp [k3]
                have kc1 : (x.kind != 1) = false := by simp [k1]
                have kc2 : (x.kind != 2) = true := by simp [k2]
                have kc3 : (x.kind != 3) = true := by simp [k3]
                refine' takeAt (i := 26) (v := .bool false) (d := (some 100)) rfl rfl (by kernel_rfl) (by kernel_rfl) (by kernel_rfl) (fun _ _ _ h => h) (Or.inl ⟨by kernel_rfl, fun w' hSw => by first | (go_simp; done) | (go_simp; with_reducible rfl)⟩) hHeld ?_
                set_option linter.unusedSimpArgs false in
                try simp only [Act.put, List.setIfInBounds_toArray, List.set_cons_zero, List.set_cons_succ]
                refine' takeAt (i := 27) (v := .bool false) (d := (some 101)) rfl rfl (by kernel_rfl) (by kernel_rfl) (by kernel_rfl) (fun _ _ _ h => h) (Or.inl ⟨by kernel_rfl, fun w' hSw => by first | (go_simp; done) | (go_simp; with_reducible rfl)⟩) hHeld ?_
                set_option linter.unusedSimpArgs false in
                try simp only [Act.put, List.setIfInBounds_toArray, List.set_cons_zero, List.set_cons_succ]
                refine' takeAt (i := 28) (v := undef) (d := (some 102)) rfl rfl (by kernel_rfl) (by kernel_rfl) (by kernel_rfl) (fun _ _ _ h => h) (Or.inr ⟨by kernel_rfl, rfl⟩) hHeld ?_
                set_option linter.unusedSimpArgs false in
                try simp only [Act.put, List.setIfInBounds_toArray, List.set_cons_zero, List.set_cons_succ]
                refine' takeAt (i := 29) (v := undef) (d := (some 103)) rfl rfl (by kernel_rfl) (by kernel_rfl) (by kernel_rfl) (fun _ _ _ h => h) (Or.inr ⟨by kernel_rfl, rfl⟩) hHeld ?_
                set_option linter.unusedSimpArgs false in
                try simp only [Act.put, List.setIfInBounds_toArray, List.set_cons_zero, List.set_cons_succ]
                refine' takeAt (i := 30) (v := undef) (d := (some 104)) rfl rfl (by kernel_rfl) (by kernel_rfl) (by kernel_rfl) (fun _ _ _ h => h) (Or.inr ⟨by kernel_rfl, rfl⟩) hHeld ?_
                set_option linter.unusedSimpArgs false in
                try simp only [Act.put, List.setIfInBounds_toArray, List.set_cons_zero, List.set_cons_succ]
                refine' takeAt (i := 31) (v := undef) (d := (some 105)) rfl rfl (by kernel_rfl) (by kernel_rfl) (by kernel_rfl) (fun _ _ _ h => h) (Or.inr ⟨by kernel_rfl, rfl⟩) hHeld ?_
                set_option linter.unusedSimpArgs false in
                try simp only [Act.put, List.setIfInBounds_toArray, List.set_cons_zero, List.set_cons_succ]
                refine' takeAt (i := 32) (v := undef) (d := (some 106)) rfl rfl (by kernel_rfl) (by kernel_rfl) (by kernel_rfl) (fun _ _ _ h => h) (Or.inr ⟨by kernel_rfl, rfl⟩) hHeld ?_
                set_option linter.unusedSimpArgs false in
                try simp only [Act.put, List.setIfInBounds_toArray, List.set_cons_zero, List.set_cons_succ]
                refine' takeAt (i := 33) (v := undef) (d := (some 107)) rfl rfl (by kernel_rfl) (by kernel_rfl) (by kernel_rfl) (fun _ _ _ h => h) (Or.inr ⟨by kernel_rfl, rfl⟩) hHeld ?_
                set_option linter.unusedSimpArgs false in
                try simp only [Act.put, List.setIfInBounds_toArray, List.set_cons_zero, List.set_cons_succ]
                refine' takeAt (i := 34) (v := undef) (d := (some 108)) rfl rfl (by kernel_rfl) (by kernel_rfl) (by kernel_rfl) (fun _ _ _ h => h) (Or.inr ⟨by kernel_rfl, rfl⟩) hHeld ?_
                set_option linter.unusedSimpArgs false in
                try simp only [Act.put, List.setIfInBounds_toArray, List.set_cons_zero, List.set_cons_succ]
                refine' takeAt (i := 35) (v := undef) (d := (some 109)) rfl rfl (by kernel_rfl) (by kernel_rfl) (by kernel_rfl) (fun _ _ _ h => h) (Or.inr ⟨by kernel_rfl, rfl⟩) hHeld ?_
                set_option linter.unusedSimpArgs false in
                try simp only [Act.put, List.setIfInBounds_toArray, List.set_cons_zero, List.set_cons_succ]
                refine' takeAt (i := 36) (v := .bool false) (d := (some 110)) rfl rfl (by kernel_rfl) (by kernel_rfl) (by kernel_rfl) (fun _ _ _ h => h) (Or.inl ⟨by kernel_rfl, fun w' hSw => by obtain ⟨f1, f2, f3, f4, f5, f6, f7, f8⟩ := HF.out w' (below_trans HB9.out hSw); first | (go_simp; done) | (go_simp; with_reducible rfl)⟩) hHeld ?_
                set_option linter.unusedSimpArgs false in
                try simp only [Act.put, List.setIfInBounds_toArray, List.set_cons_zero, List.set_cons_succ]
                refine' takeAt (i := 37) (v := .bool false) (d := (some 111)) rfl rfl (by kernel_rfl) (by kernel_rfl) (by kernel_rfl) (fun _ _ _ h => h) (Or.inl ⟨by kernel_rfl, fun w' hSw => by obtain ⟨f1, f2, f3, f4, f5, f6, f7, f8⟩ := HF.out w' (below_trans HB9.out hSw); first | (go_simp; done) | (go_simp; with_reducible rfl)⟩) hHeld ?_
                set_option linter.unusedSimpArgs false in
                try simp only [Act.put, List.setIfInBounds_toArray, List.set_cons_zero, List.set_cons_succ]
                refine' takeAt (i := 38) (v := .bool false) (d := (some 112)) rfl rfl (by kernel_rfl) (by kernel_rfl) (by kernel_rfl) (fun _ _ _ h => h) (Or.inl ⟨by kernel_rfl, fun w' hSw => by obtain ⟨f1, f2, f3, f4, f5, f6, f7, f8⟩ := HF.out w' (below_trans HB9.out hSw); first | (go_simp; done) | (go_simp; with_reducible rfl)⟩) hHeld ?_
                set_option linter.unusedSimpArgs false in
                try simp only [Act.put, List.setIfInBounds_toArray, List.set_cons_zero, List.set_cons_succ]
                refine' takeAt (i := 39) (v := .pointer (some ⟨Px, 0, none⟩)) (d := (some 113)) rfl rfl (by kernel_rfl) (by kernel_rfl) (by kernel_rfl) (fun _ _ _ h => h) (Or.inl ⟨by kernel_rfl, fun w' hSw => by obtain ⟨f1, f2, f3, f4, f5, f6, f7, f8⟩ := HF.out w' (below_trans HB9.out hSw); first | (go_simp; done) | (go_simp; with_reducible rfl)⟩) hHeld ?_
                set_option linter.unusedSimpArgs false in
                try simp only [Act.put, List.setIfInBounds_toArray, List.set_cons_zero, List.set_cons_succ]
                refine' takeAt (i := 40) (v := .int .i64 x.kind) (d := (some 114)) rfl rfl (by kernel_rfl) (by kernel_rfl) (by kernel_rfl) (fun _ _ _ h => h) (Or.inl ⟨by kernel_rfl, fun w' hSw => by obtain ⟨f1, f2, f3, f4, f5, f6, f7, f8⟩ := HF.out w' (below_trans HB9.out hSw); first | (go_simp; done) | (go_simp; with_reducible rfl)⟩) hHeld ?_
                set_option linter.unusedSimpArgs false in
                try simp only [Act.put, List.setIfInBounds_toArray, List.set_cons_zero, List.set_cons_succ]
                refine' takeAt (i := 41) (v := .bool true) (d := (some 115)) rfl rfl (by kernel_rfl) (by kernel_rfl) (by kernel_rfl) (fun _ _ _ h => h) (Or.inl ⟨by kernel_rfl, fun w' hSw => by first | (go_simp; done) | (go_simp; with_reducible rfl)⟩) hHeld ?_
                set_option linter.unusedSimpArgs false in
                try simp only [Act.put, List.setIfInBounds_toArray, List.set_cons_zero, List.set_cons_succ]
                refine' takeAt (i := 42) (v := .bool true) (d := (some 116)) rfl rfl (by kernel_rfl) (by kernel_rfl) (by kernel_rfl) (fun _ _ _ h => h) (Or.inl ⟨by kernel_rfl, fun w' hSw => by first | (go_simp; done) | (go_simp; with_reducible rfl)⟩) hHeld ?_
                set_option linter.unusedSimpArgs false in
                try simp only [Act.put, List.setIfInBounds_toArray, List.set_cons_zero, List.set_cons_succ]
                refine' takeAt (i := 43) (v := .pointer (some ⟨Px, 7, none⟩)) (d := (some 117)) rfl rfl (by kernel_rfl) (by kernel_rfl) (by kernel_rfl) (fun _ _ _ h => h) (Or.inl ⟨by kernel_rfl, fun w' hSw => by obtain ⟨f1, f2, f3, f4, f5, f6, f7, f8⟩ := HF.out w' (below_trans HB9.out hSw); first | (go_simp; done) | (go_simp; with_reducible rfl)⟩) hHeld ?_
                set_option linter.unusedSimpArgs false in
                try simp only [Act.put, List.setIfInBounds_toArray, List.set_cons_zero, List.set_cons_succ]
                refine' takeAt (i := 44) (v := .pointer (some ⟨Px, 13, none⟩)) (d := (some 118)) rfl rfl (by kernel_rfl) (by kernel_rfl) (by kernel_rfl) (fun _ _ _ h => h) (Or.inl ⟨by kernel_rfl, fun w' hSw => by obtain ⟨f1, f2, f3, f4, f5, f6, f7, f8⟩ := HF.out w' (below_trans HB9.out hSw); first | (go_simp; done) | (go_simp; with_reducible rfl)⟩) hHeld ?_
                set_option linter.unusedSimpArgs false in
                try simp only [Act.put, List.setIfInBounds_toArray, List.set_cons_zero, List.set_cons_succ]
                refine' takeAt (i := 45) (v := .slice A4 x.vote.who.length c4) (d := (some 119)) rfl rfl (by kernel_rfl) (by kernel_rfl) (by kernel_rfl) (fun _ _ _ h => h) (Or.inl ⟨by kernel_rfl, fun w' hSw => by obtain ⟨f1, f2, f3, f4, f5, f6, f7, f8⟩ := HF.out w' (below_trans HB9.out hSw); first | (go_simp; done) | (go_simp; with_reducible rfl)⟩) hHeld ?_
                set_option linter.unusedSimpArgs false in
                try simp only [Act.put, List.setIfInBounds_toArray, List.set_cons_zero, List.set_cons_succ]
                refine' takeAt (i := 46) (v := .int .i64 x.vote.who.length) (d := (some 120)) rfl rfl (by kernel_rfl) (by kernel_rfl) (by kernel_rfl) (fun _ _ _ h => h) (Or.inl ⟨by kernel_rfl, fun w' hSw => by obtain ⟨f1, f2, f3, f4, f5, f6, f7, f8⟩ := HF.out w' (below_trans HB9.out hSw); first | (go_simp; done) | (go_simp; with_reducible rfl)⟩) hHeld ?_
                set_option linter.unusedSimpArgs false in
                try simp only [Act.put, List.setIfInBounds_toArray, List.set_cons_zero, List.set_cons_succ]
                refine' takeAt (i := 47) (v := .bool false) (d := (some 121)) rfl rfl (by kernel_rfl) (by kernel_rfl) (by kernel_rfl) (fun _ _ _ h => h) (Or.inl ⟨by kernel_rfl, fun w' hSw => by have b1 := HZ2.out; first | (go_simp; done) | (go_simp; with_reducible rfl)⟩) hHeld ?_
                set_option linter.unusedSimpArgs false in
                try simp only [Act.put, List.setIfInBounds_toArray, List.set_cons_zero, List.set_cons_succ]
                refine' takeAt (i := 48) (v := .bool false) (d := (some 122)) rfl rfl (by kernel_rfl) (by kernel_rfl) (by kernel_rfl) (fun _ _ _ h => h) (Or.inl ⟨by kernel_rfl, fun w' hSw => by obtain ⟨f1, f2, f3, f4, f5, f6, f7, f8⟩ := HF.out w' (below_trans HB9.out hSw); first | (go_simp; done) | (go_simp; with_reducible rfl)⟩) hHeld ?_
                set_option linter.unusedSimpArgs false in
                try simp only [Act.put, List.setIfInBounds_toArray, List.set_cons_zero, List.set_cons_succ]
                refine' takeAt (i := 49) (v := .bool false) (d := (some 123)) rfl rfl (by kernel_rfl) (by kernel_rfl) (by kernel_rfl) (fun _ _ _ h => h) (Or.inl ⟨by kernel_rfl, fun w' hSw => by obtain ⟨f1, f2, f3, f4, f5, f6, f7, f8⟩ := HF.out w' (below_trans HB9.out hSw); first | (go_simp; done) | (go_simp; with_reducible rfl)⟩) hHeld ?_
                set_option linter.unusedSimpArgs false in
                try simp only [Act.put, List.setIfInBounds_toArray, List.set_cons_zero, List.set_cons_succ]
                refine' takeAt (i := 50) (v := .bool false) (d := (some 124)) rfl rfl (by kernel_rfl) (by kernel_rfl) (by kernel_rfl) (fun _ _ _ h => h) (Or.inl ⟨by kernel_rfl, fun w' hSw => by obtain ⟨f1, f2, f3, f4, f5, f6, f7, f8⟩ := HF.out w' (below_trans HB9.out hSw); first | (go_simp; done) | (go_simp; with_reducible rfl)⟩) hHeld ?_
                set_option linter.unusedSimpArgs false in
                try simp only [Act.put, List.setIfInBounds_toArray, List.set_cons_zero, List.set_cons_succ]
                refine' takeAt (i := 51) (v := .pointer (some ⟨Px, 0, none⟩)) (d := (some 125)) rfl rfl (by kernel_rfl) (by kernel_rfl) (by kernel_rfl) (fun _ _ _ h => h) (Or.inl ⟨by kernel_rfl, fun w' hSw => by obtain ⟨f1, f2, f3, f4, f5, f6, f7, f8⟩ := HF.out w' (below_trans HB9.out hSw); first | (go_simp; done) | (go_simp; with_reducible rfl)⟩) hHeld ?_
                set_option linter.unusedSimpArgs false in
                try simp only [Act.put, List.setIfInBounds_toArray, List.set_cons_zero, List.set_cons_succ]
                refine' takeAt (i := 52) (v := .int .i64 x.kind) (d := (some 126)) rfl rfl (by kernel_rfl) (by kernel_rfl) (by kernel_rfl) (fun _ _ _ h => h) (Or.inl ⟨by kernel_rfl, fun w' hSw => by obtain ⟨f1, f2, f3, f4, f5, f6, f7, f8⟩ := HF.out w' (below_trans HB9.out hSw); first | (go_simp; done) | (go_simp; with_reducible rfl)⟩) hHeld ?_
                set_option linter.unusedSimpArgs false in
                try simp only [Act.put, List.setIfInBounds_toArray, List.set_cons_zero, List.set_cons_succ]
                refine' takeAt (i := 53) (v := .bool true) (d := (some 127)) rfl rfl (by kernel_rfl) (by kernel_rfl) (by kernel_rfl) (fun _ _ _ h => h) (Or.inl ⟨by kernel_rfl, fun w' hSw => by first | (go_simp; done) | (go_simp; with_reducible rfl)⟩) hHeld ?_
                set_option linter.unusedSimpArgs false in
                try simp only [Act.put, List.setIfInBounds_toArray, List.set_cons_zero, List.set_cons_succ]
                refine' takeAt (i := 54) (v := .bool true) (d := (some 128)) rfl rfl (by kernel_rfl) (by kernel_rfl) (by kernel_rfl) (fun _ _ _ h => h) (Or.inl ⟨by kernel_rfl, fun w' hSw => by first | (go_simp; done) | (go_simp; with_reducible rfl)⟩) hHeld ?_
                set_option linter.unusedSimpArgs false in
                try simp only [Act.put, List.setIfInBounds_toArray, List.set_cons_zero, List.set_cons_succ]
                refine' takeAt (i := 55) (v := .pointer (some ⟨Px, 14, none⟩)) (d := (some 129)) rfl rfl (by kernel_rfl) (by kernel_rfl) (by kernel_rfl) (fun _ _ _ h => h) (Or.inl ⟨by kernel_rfl, fun w' hSw => by obtain ⟨f1, f2, f3, f4, f5, f6, f7, f8⟩ := HF.out w' (below_trans HB9.out hSw); first | (go_simp; done) | (go_simp; with_reducible rfl)⟩) hHeld ?_
                set_option linter.unusedSimpArgs false in
                try simp only [Act.put, List.setIfInBounds_toArray, List.set_cons_zero, List.set_cons_succ]
                refine' takeAt (i := 56) (v := .pointer (some ⟨Px, 14, none⟩)) (d := (some 130)) rfl rfl (by kernel_rfl) (by kernel_rfl) (by kernel_rfl) (fun _ _ _ h => h) (Or.inl ⟨by kernel_rfl, fun w' hSw => by obtain ⟨f1, f2, f3, f4, f5, f6, f7, f8⟩ := HF.out w' (below_trans HB9.out hSw); first | (go_simp; done) | (go_simp; with_reducible rfl)⟩) hHeld ?_
                set_option linter.unusedSimpArgs false in
                try simp only [Act.put, List.setIfInBounds_toArray, List.set_cons_zero, List.set_cons_succ]
                refine' takeAt (i := 57) (v := .pointer (some ⟨Px, 20, none⟩)) (d := (some 131)) rfl rfl (by kernel_rfl) (by kernel_rfl) (by kernel_rfl) (fun _ _ _ h => h) (Or.inl ⟨by kernel_rfl, fun w' hSw => by obtain ⟨f1, f2, f3, f4, f5, f6, f7, f8⟩ := HF.out w' (below_trans HB9.out hSw); first | (go_simp; done) | (go_simp; with_reducible rfl)⟩) hHeld ?_
                set_option linter.unusedSimpArgs false in
                try simp only [Act.put, List.setIfInBounds_toArray, List.set_cons_zero, List.set_cons_succ]
                refine' takeAt (i := 58) (v := .slice A5 x.proof.a.who.length c5) (d := (some 132)) rfl rfl (by kernel_rfl) (by kernel_rfl) (by kernel_rfl) (fun _ _ _ h => h) (Or.inl ⟨by kernel_rfl, fun w' hSw => by obtain ⟨f1, f2, f3, f4, f5, f6, f7, f8⟩ := HF.out w' (below_trans HB9.out hSw); first | (go_simp; done) | (go_simp; with_reducible rfl)⟩) hHeld ?_
                set_option linter.unusedSimpArgs false in
                try simp only [Act.put, List.setIfInBounds_toArray, List.set_cons_zero, List.set_cons_succ]
                refine' takeAt (i := 59) (v := .int .i64 x.proof.a.who.length) (d := (some 133)) rfl rfl (by kernel_rfl) (by kernel_rfl) (by kernel_rfl) (fun _ _ _ h => h) (Or.inl ⟨by kernel_rfl, fun w' hSw => by obtain ⟨f1, f2, f3, f4, f5, f6, f7, f8⟩ := HF.out w' (below_trans HB9.out hSw); first | (go_simp; done) | (go_simp; with_reducible rfl)⟩) hHeld ?_
                set_option linter.unusedSimpArgs false in
                try simp only [Act.put, List.setIfInBounds_toArray, List.set_cons_zero, List.set_cons_succ]
                refine' takeAt (i := 60) (v := .bool false) (d := (some 134)) rfl rfl (by kernel_rfl) (by kernel_rfl) (by kernel_rfl) (fun _ _ _ h => h) (Or.inl ⟨by kernel_rfl, fun w' hSw => by have b1 := HZ3.out; first | (go_simp; done) | (go_simp; with_reducible rfl)⟩) hHeld ?_
                set_option linter.unusedSimpArgs false in
                try simp only [Act.put, List.setIfInBounds_toArray, List.set_cons_zero, List.set_cons_succ]
                refine' takeAt (i := 61) (v := .bool false) (d := (some 135)) rfl rfl (by kernel_rfl) (by kernel_rfl) (by kernel_rfl) (fun _ _ _ h => h) (Or.inl ⟨by kernel_rfl, fun w' hSw => by obtain ⟨f1, f2, f3, f4, f5, f6, f7, f8⟩ := HF.out w' (below_trans HB9.out hSw); first | (go_simp; done) | (go_simp; with_reducible rfl)⟩) hHeld ?_
                set_option linter.unusedSimpArgs false in
                try simp only [Act.put, List.setIfInBounds_toArray, List.set_cons_zero, List.set_cons_succ]
                refine' takeAt (i := 62) (v := .bool false) (d := (some 136)) rfl rfl (by kernel_rfl) (by kernel_rfl) (by kernel_rfl) (fun _ _ _ h => h) (Or.inl ⟨by kernel_rfl, fun w' hSw => by obtain ⟨f1, f2, f3, f4, f5, f6, f7, f8⟩ := HF.out w' (below_trans HB9.out hSw); first | (go_simp; done) | (go_simp; with_reducible rfl)⟩) hHeld ?_
                set_option linter.unusedSimpArgs false in
                try simp only [Act.put, List.setIfInBounds_toArray, List.set_cons_zero, List.set_cons_succ]
                refine wpAnyH_done (by kernel_rfl) ?_ _
                have hH9 := below_trans hbr7 (below_trans HB9.out hHeld)
                clear hHeld
                go_wp2
                go_roundw
                case rel => exact ⟨k + 1, by omega, by go_num, hH9⟩
                case measure => simp [intOf]; omega
              · by_cases k2 : x.kind = 2
                · have HZ1 : Hid (x.block.root = 0 ∧ x.block.parent = 0) := by show _ ∧ _; rw [HXE.out] at k2 ⊢; simp only [bareE] at k2; simp [bareE, k2, Bk.zero]
                  have HZ3 : Hid (x.proof.a.who.length = 0) := by show _ = _; rw [HXE.out] at k2 ⊢; simp only [bareE] at k2; simp [bareE, k2, Pf.zero, Vt.zero]
                  have k3 : x.kind ≠ 3 := by omega
                  have kb1 : (x.kind == 1) = false := by simp [k1]
                  have kb2 : (x.kind == 2) = true := by simp [k2]
                  have kb3 : (x.kind == 3) = false := by simp [k3]
                  have kc1 : (x.kind != 1) = true := by simp [k1]
                  have kc2 : (x.kind != 2) = false := by simp [k2]
                  have kc3 : (x.kind != 3) = true := by simp [k3]
                  refine' takeAt (i := 26) (v := .bool true) (d := (some 100)) rfl rfl (by kernel_rfl) (by kernel_rfl) (by kernel_rfl) (fun _ _ _ h => h) (Or.inl ⟨by kernel_rfl, fun w' hSw => by first | (go_simp; done) | (go_simp; with_reducible rfl)⟩) hHeld ?_
                  set_option linter.unusedSimpArgs false in
                  try simp only [Act.put, List.setIfInBounds_toArray, List.set_cons_zero, List.set_cons_succ]
                  refine' takeAt (i := 27) (v := .bool true) (d := (some 101)) rfl rfl (by kernel_rfl) (by kernel_rfl) (by kernel_rfl) (fun _ _ _ h => h) (Or.inl ⟨by kernel_rfl, fun w' hSw => by first | (go_simp; done) | (go_simp; with_reducible rfl)⟩) hHeld ?_
                  set_option linter.unusedSimpArgs false in
                  try simp only [Act.put, List.setIfInBounds_toArray, List.set_cons_zero, List.set_cons_succ]
                  refine' takeAt (i := 28) (v := .pointer (some ⟨Px, 2, none⟩)) (d := (some 102)) rfl rfl (by kernel_rfl) (by kernel_rfl) (by kernel_rfl) (fun _ _ _ h => h) (Or.inl ⟨by kernel_rfl, fun w' hSw => by obtain ⟨f1, f2, f3, f4, f5, f6, f7, f8⟩ := HF.out w' (below_trans HB9.out hSw); first | (go_simp; done) | (go_simp; with_reducible rfl)⟩) hHeld ?_
                  set_option linter.unusedSimpArgs false in
                  try simp only [Act.put, List.setIfInBounds_toArray, List.set_cons_zero, List.set_cons_succ]
                  refine' takeAt (i := 29) (v := .pointer (some ⟨Px, 2, none⟩)) (d := (some 103)) rfl rfl (by kernel_rfl) (by kernel_rfl) (by kernel_rfl) (fun _ _ _ h => h) (Or.inl ⟨by kernel_rfl, fun w' hSw => by obtain ⟨f1, f2, f3, f4, f5, f6, f7, f8⟩ := HF.out w' (below_trans HB9.out hSw); first | (go_simp; done) | (go_simp; with_reducible rfl)⟩) hHeld ?_
                  set_option linter.unusedSimpArgs false in
                  try simp only [Act.put, List.setIfInBounds_toArray, List.set_cons_zero, List.set_cons_succ]
                  refine' takeAt (i := 30) (v := .int .u64 x.block.root) (d := (some 104)) rfl rfl (by kernel_rfl) (by kernel_rfl) (by kernel_rfl) (fun _ _ _ h => h) (Or.inl ⟨by kernel_rfl, fun w' hSw => by obtain ⟨f1, f2, f3, f4, f5, f6, f7, f8⟩ := HF.out w' (below_trans HB9.out hSw); first | (go_simp; done) | (go_simp; with_reducible rfl)⟩) hHeld ?_
                  set_option linter.unusedSimpArgs false in
                  try simp only [Act.put, List.setIfInBounds_toArray, List.set_cons_zero, List.set_cons_succ]
                  refine' takeAt (i := 31) (v := .pointer (some ⟨Px, 2, none⟩)) (d := (some 105)) rfl rfl (by kernel_rfl) (by kernel_rfl) (by kernel_rfl) (fun _ _ _ h => h) (Or.inl ⟨by kernel_rfl, fun w' hSw => by obtain ⟨f1, f2, f3, f4, f5, f6, f7, f8⟩ := HF.out w' (below_trans HB9.out hSw); first | (go_simp; done) | (go_simp; with_reducible rfl)⟩) hHeld ?_
                  set_option linter.unusedSimpArgs false in
                  try simp only [Act.put, List.setIfInBounds_toArray, List.set_cons_zero, List.set_cons_succ]
                  refine' takeAt (i := 32) (v := .pointer (some ⟨Px, 3, none⟩)) (d := (some 106)) rfl rfl (by kernel_rfl) (by kernel_rfl) (by kernel_rfl) (fun _ _ _ h => h) (Or.inl ⟨by kernel_rfl, fun w' hSw => by obtain ⟨f1, f2, f3, f4, f5, f6, f7, f8⟩ := HF.out w' (below_trans HB9.out hSw); first | (go_simp; done) | (go_simp; with_reducible rfl)⟩) hHeld ?_
                  set_option linter.unusedSimpArgs false in
                  try simp only [Act.put, List.setIfInBounds_toArray, List.set_cons_zero, List.set_cons_succ]
                  refine' takeAt (i := 33) (v := .int .u64 x.block.parent) (d := (some 107)) rfl rfl (by kernel_rfl) (by kernel_rfl) (by kernel_rfl) (fun _ _ _ h => h) (Or.inl ⟨by kernel_rfl, fun w' hSw => by obtain ⟨f1, f2, f3, f4, f5, f6, f7, f8⟩ := HF.out w' (below_trans HB9.out hSw); first | (go_simp; done) | (go_simp; with_reducible rfl)⟩) hHeld ?_
                  set_option linter.unusedSimpArgs false in
                  try simp only [Act.put, List.setIfInBounds_toArray, List.set_cons_zero, List.set_cons_succ]
                  refine' takeAt (i := 34) (v := .int .u64 0) (d := (some 108)) rfl rfl (by kernel_rfl) (by kernel_rfl) (by kernel_rfl) (fun _ _ _ h => h) (Or.inl ⟨by kernel_rfl, fun w' hSw => by have b1 := HZ1.out.1; have b2 := HZ1.out.2; first | (go_simp; done) | (go_simp; rfl)⟩) hHeld ?_
                  set_option linter.unusedSimpArgs false in
                  try simp only [Act.put, List.setIfInBounds_toArray, List.set_cons_zero, List.set_cons_succ]
                  refine' takeAt (i := 35) (v := .bool false) (d := (some 109)) rfl rfl (by kernel_rfl) (by kernel_rfl) (by kernel_rfl) (fun _ _ _ h => h) (Or.inl ⟨by kernel_rfl, fun w' hSw => by obtain ⟨f1, f2, f3, f4, f5, f6, f7, f8⟩ := HF.out w' (below_trans HB9.out hSw); first | (go_simp; done) | (go_simp; with_reducible rfl)⟩) hHeld ?_
                  set_option linter.unusedSimpArgs false in
                  try simp only [Act.put, List.setIfInBounds_toArray, List.set_cons_zero, List.set_cons_succ]
                  refine' takeAt (i := 36) (v := .bool false) (d := (some 110)) rfl rfl (by kernel_rfl) (by kernel_rfl) (by kernel_rfl) (fun _ _ _ h => h) (Or.inl ⟨by kernel_rfl, fun w' hSw => by obtain ⟨f1, f2, f3, f4, f5, f6, f7, f8⟩ := HF.out w' (below_trans HB9.out hSw); first | (go_simp; done) | (go_simp; with_reducible rfl)⟩) hHeld ?_
                  set_option linter.unusedSimpArgs false in
                  try simp only [Act.put, List.setIfInBounds_toArray, List.set_cons_zero, List.set_cons_succ]
                  refine' takeAt (i := 37) (v := .bool false) (d := (some 111)) rfl rfl (by kernel_rfl) (by kernel_rfl) (by kernel_rfl) (fun _ _ _ h => h) (Or.inl ⟨by kernel_rfl, fun w' hSw => by obtain ⟨f1, f2, f3, f4, f5, f6, f7, f8⟩ := HF.out w' (below_trans HB9.out hSw); first | (go_simp; done) | (go_simp; with_reducible rfl)⟩) hHeld ?_
                  set_option linter.unusedSimpArgs false in
                  try simp only [Act.put, List.setIfInBounds_toArray, List.set_cons_zero, List.set_cons_succ]
                  refine' takeAt (i := 38) (v := .bool false) (d := (some 112)) rfl rfl (by kernel_rfl) (by kernel_rfl) (by kernel_rfl) (fun _ _ _ h => h) (Or.inl ⟨by kernel_rfl, fun w' hSw => by obtain ⟨f1, f2, f3, f4, f5, f6, f7, f8⟩ := HF.out w' (below_trans HB9.out hSw); first | (go_simp; done) | (go_simp; with_reducible rfl)⟩) hHeld ?_
                  set_option linter.unusedSimpArgs false in
                  try simp only [Act.put, List.setIfInBounds_toArray, List.set_cons_zero, List.set_cons_succ]
                  refine' takeAt (i := 39) (v := .pointer (some ⟨Px, 0, none⟩)) (d := (some 113)) rfl rfl (by kernel_rfl) (by kernel_rfl) (by kernel_rfl) (fun _ _ _ h => h) (Or.inl ⟨by kernel_rfl, fun w' hSw => by obtain ⟨f1, f2, f3, f4, f5, f6, f7, f8⟩ := HF.out w' (below_trans HB9.out hSw); first | (go_simp; done) | (go_simp; with_reducible rfl)⟩) hHeld ?_
                  set_option linter.unusedSimpArgs false in
                  try simp only [Act.put, List.setIfInBounds_toArray, List.set_cons_zero, List.set_cons_succ]
                  refine' takeAt (i := 40) (v := .int .i64 x.kind) (d := (some 114)) rfl rfl (by kernel_rfl) (by kernel_rfl) (by kernel_rfl) (fun _ _ _ h => h) (Or.inl ⟨by kernel_rfl, fun w' hSw => by obtain ⟨f1, f2, f3, f4, f5, f6, f7, f8⟩ := HF.out w' (below_trans HB9.out hSw); first | (go_simp; done) | (go_simp; with_reducible rfl)⟩) hHeld ?_
                  set_option linter.unusedSimpArgs false in
                  try simp only [Act.put, List.setIfInBounds_toArray, List.set_cons_zero, List.set_cons_succ]
                  refine' takeAt (i := 41) (v := .bool false) (d := (some 115)) rfl rfl (by kernel_rfl) (by kernel_rfl) (by kernel_rfl) (fun _ _ _ h => h) (Or.inl ⟨by kernel_rfl, fun w' hSw => by first | (go_simp; done) | (go_simp; with_reducible rfl)⟩) hHeld ?_
                  set_option linter.unusedSimpArgs false in
                  try simp only [Act.put, List.setIfInBounds_toArray, List.set_cons_zero, List.set_cons_succ]
                  refine' takeAt (i := 42) (v := .bool false) (d := (some 116)) rfl rfl (by kernel_rfl) (by kernel_rfl) (by kernel_rfl) (fun _ _ _ h => h) (Or.inl ⟨by kernel_rfl, fun w' hSw => by first | (go_simp; done) | (go_simp; with_reducible rfl)⟩) hHeld ?_
                  set_option linter.unusedSimpArgs false in
                  try simp only [Act.put, List.setIfInBounds_toArray, List.set_cons_zero, List.set_cons_succ]
                  refine' takeAt (i := 43) (v := undef) (d := (some 117)) rfl rfl (by kernel_rfl) (by kernel_rfl) (by kernel_rfl) (fun _ _ _ h => h) (Or.inr ⟨by kernel_rfl, rfl⟩) hHeld ?_
                  set_option linter.unusedSimpArgs false in
                  try simp only [Act.put, List.setIfInBounds_toArray, List.set_cons_zero, List.set_cons_succ]
                  refine' takeAt (i := 44) (v := undef) (d := (some 118)) rfl rfl (by kernel_rfl) (by kernel_rfl) (by kernel_rfl) (fun _ _ _ h => h) (Or.inr ⟨by kernel_rfl, rfl⟩) hHeld ?_
                  set_option linter.unusedSimpArgs false in
                  try simp only [Act.put, List.setIfInBounds_toArray, List.set_cons_zero, List.set_cons_succ]
                  refine' takeAt (i := 45) (v := undef) (d := (some 119)) rfl rfl (by kernel_rfl) (by kernel_rfl) (by kernel_rfl) (fun _ _ _ h => h) (Or.inr ⟨by kernel_rfl, rfl⟩) hHeld ?_
                  set_option linter.unusedSimpArgs false in
                  try simp only [Act.put, List.setIfInBounds_toArray, List.set_cons_zero, List.set_cons_succ]
                  refine' takeAt (i := 46) (v := undef) (d := (some 120)) rfl rfl (by kernel_rfl) (by kernel_rfl) (by kernel_rfl) (fun _ _ _ h => h) (Or.inr ⟨by kernel_rfl, rfl⟩) hHeld ?_
                  set_option linter.unusedSimpArgs false in
                  try simp only [Act.put, List.setIfInBounds_toArray, List.set_cons_zero, List.set_cons_succ]
                  refine' takeAt (i := 47) (v := undef) (d := (some 121)) rfl rfl (by kernel_rfl) (by kernel_rfl) (by kernel_rfl) (fun _ _ _ h => h) (Or.inr ⟨by kernel_rfl, rfl⟩) hHeld ?_
                  set_option linter.unusedSimpArgs false in
                  try simp only [Act.put, List.setIfInBounds_toArray, List.set_cons_zero, List.set_cons_succ]
                  refine' takeAt (i := 48) (v := .bool false) (d := (some 122)) rfl rfl (by kernel_rfl) (by kernel_rfl) (by kernel_rfl) (fun _ _ _ h => h) (Or.inl ⟨by kernel_rfl, fun w' hSw => by obtain ⟨f1, f2, f3, f4, f5, f6, f7, f8⟩ := HF.out w' (below_trans HB9.out hSw); first | (go_simp; done) | (go_simp; with_reducible rfl)⟩) hHeld ?_
                  set_option linter.unusedSimpArgs false in
                  try simp only [Act.put, List.setIfInBounds_toArray, List.set_cons_zero, List.set_cons_succ]
                  refine' takeAt (i := 49) (v := .bool false) (d := (some 123)) rfl rfl (by kernel_rfl) (by kernel_rfl) (by kernel_rfl) (fun _ _ _ h => h) (Or.inl ⟨by kernel_rfl, fun w' hSw => by obtain ⟨f1, f2, f3, f4, f5, f6, f7, f8⟩ := HF.out w' (below_trans HB9.out hSw); first | (go_simp; done) | (go_simp; with_reducible rfl)⟩) hHeld ?_
                  set_option linter.unusedSimpArgs false in
                  try simp only [Act.put, List.setIfInBounds_toArray, List.set_cons_zero, List.set_cons_succ]
                  refine' takeAt (i := 50) (v := .bool false) (d := (some 124)) rfl rfl (by kernel_rfl) (by kernel_rfl) (by kernel_rfl) (fun _ _ _ h => h) (Or.inl ⟨by kernel_rfl, fun w' hSw => by obtain ⟨f1, f2, f3, f4, f5, f6, f7, f8⟩ := HF.out w' (below_trans HB9.out hSw); first | (go_simp; done) | (go_simp; with_reducible rfl)⟩) hHeld ?_
                  set_option linter.unusedSimpArgs false in
                  try simp only [Act.put, List.setIfInBounds_toArray, List.set_cons_zero, List.set_cons_succ]
                  refine' takeAt (i := 51) (v := .pointer (some ⟨Px, 0, none⟩)) (d := (some 125)) rfl rfl (by kernel_rfl) (by kernel_rfl) (by kernel_rfl) (fun _ _ _ h => h) (Or.inl ⟨by kernel_rfl, fun w' hSw => by obtain ⟨f1, f2, f3, f4, f5, f6, f7, f8⟩ := HF.out w' (below_trans HB9.out hSw); first | (go_simp; done) | (go_simp; with_reducible rfl)⟩) hHeld ?_
                  set_option linter.unusedSimpArgs false in
                  try simp only [Act.put, List.setIfInBounds_toArray, List.set_cons_zero, List.set_cons_succ]
                  refine' takeAt (i := 52) (v := .int .i64 x.kind) (d := (some 126)) rfl rfl (by kernel_rfl) (by kernel_rfl) (by kernel_rfl) (fun _ _ _ h => h) (Or.inl ⟨by kernel_rfl, fun w' hSw => by obtain ⟨f1, f2, f3, f4, f5, f6, f7, f8⟩ := HF.out w' (below_trans HB9.out hSw); first | (go_simp; done) | (go_simp; with_reducible rfl)⟩) hHeld ?_
                  set_option linter.unusedSimpArgs false in
                  try simp only [Act.put, List.setIfInBounds_toArray, List.set_cons_zero, List.set_cons_succ]
                  refine' takeAt (i := 53) (v := .bool true) (d := (some 127)) rfl rfl (by kernel_rfl) (by kernel_rfl) (by kernel_rfl) (fun _ _ _ h => h) (Or.inl ⟨by kernel_rfl, fun w' hSw => by first | (go_simp; done) | (go_simp; with_reducible rfl)⟩) hHeld ?_
                  set_option linter.unusedSimpArgs false in
                  try simp only [Act.put, List.setIfInBounds_toArray, List.set_cons_zero, List.set_cons_succ]
                  refine' takeAt (i := 54) (v := .bool true) (d := (some 128)) rfl rfl (by kernel_rfl) (by kernel_rfl) (by kernel_rfl) (fun _ _ _ h => h) (Or.inl ⟨by kernel_rfl, fun w' hSw => by first | (go_simp; done) | (go_simp; with_reducible rfl)⟩) hHeld ?_
                  set_option linter.unusedSimpArgs false in
                  try simp only [Act.put, List.setIfInBounds_toArray, List.set_cons_zero, List.set_cons_succ]
                  refine' takeAt (i := 55) (v := .pointer (some ⟨Px, 14, none⟩)) (d := (some 129)) rfl rfl (by kernel_rfl) (by kernel_rfl) (by kernel_rfl) (fun _ _ _ h => h) (Or.inl ⟨by kernel_rfl, fun w' hSw => by obtain ⟨f1, f2, f3, f4, f5, f6, f7, f8⟩ := HF.out w' (below_trans HB9.out hSw); first | (go_simp; done) | (go_simp; with_reducible rfl)⟩) hHeld ?_
                  set_option linter.unusedSimpArgs false in
                  try simp only [Act.put, List.setIfInBounds_toArray, List.set_cons_zero, List.set_cons_succ]
                  refine' takeAt (i := 56) (v := .pointer (some ⟨Px, 14, none⟩)) (d := (some 130)) rfl rfl (by kernel_rfl) (by kernel_rfl) (by kernel_rfl) (fun _ _ _ h => h) (Or.inl ⟨by kernel_rfl, fun w' hSw => by obtain ⟨f1, f2, f3, f4, f5, f6, f7, f8⟩ := HF.out w' (below_trans HB9.out hSw); first | (go_simp; done) | (go_simp; with_reducible rfl)⟩) hHeld ?_
                  set_option linter.unusedSimpArgs false in
                  try simp only [Act.put, List.setIfInBounds_toArray, List.set_cons_zero, List.set_cons_succ]
                  refine' takeAt (i := 57) (v := .pointer (some ⟨Px, 20, none⟩)) (d := (some 131)) rfl rfl (by kernel_rfl) (by kernel_rfl) (by kernel_rfl) (fun _ _ _ h => h) (Or.inl ⟨by kernel_rfl, fun w' hSw => by obtain ⟨f1, f2, f3, f4, f5, f6, f7, f8⟩ := HF.out w' (below_trans HB9.out hSw); first | (go_simp; done) | (go_simp; with_reducible rfl)⟩) hHeld ?_
                  set_option linter.unusedSimpArgs false in
                  try simp only [Act.put, List.setIfInBounds_toArray, List.set_cons_zero, List.set_cons_succ]
                  refine' takeAt (i := 58) (v := .slice A5 x.proof.a.who.length c5) (d := (some 132)) rfl rfl (by kernel_rfl) (by kernel_rfl) (by kernel_rfl) (fun _ _ _ h => h) (Or.inl ⟨by kernel_rfl, fun w' hSw => by obtain ⟨f1, f2, f3, f4, f5, f6, f7, f8⟩ := HF.out w' (below_trans HB9.out hSw); first | (go_simp; done) | (go_simp; with_reducible rfl)⟩) hHeld ?_
                  set_option linter.unusedSimpArgs false in
                  try simp only [Act.put, List.setIfInBounds_toArray, List.set_cons_zero, List.set_cons_succ]
                  refine' takeAt (i := 59) (v := .int .i64 x.proof.a.who.length) (d := (some 133)) rfl rfl (by kernel_rfl) (by kernel_rfl) (by kernel_rfl) (fun _ _ _ h => h) (Or.inl ⟨by kernel_rfl, fun w' hSw => by obtain ⟨f1, f2, f3, f4, f5, f6, f7, f8⟩ := HF.out w' (below_trans HB9.out hSw); first | (go_simp; done) | (go_simp; with_reducible rfl)⟩) hHeld ?_
                  set_option linter.unusedSimpArgs false in
                  try simp only [Act.put, List.setIfInBounds_toArray, List.set_cons_zero, List.set_cons_succ]
                  refine' takeAt (i := 60) (v := .bool false) (d := (some 134)) rfl rfl (by kernel_rfl) (by kernel_rfl) (by kernel_rfl) (fun _ _ _ h => h) (Or.inl ⟨by kernel_rfl, fun w' hSw => by have b1 := HZ3.out; first | (go_simp; done) | (go_simp; with_reducible rfl)⟩) hHeld ?_
                  set_option linter.unusedSimpArgs false in
                  try simp only [Act.put, List.setIfInBounds_toArray, List.set_cons_zero, List.set_cons_succ]
                  refine' takeAt (i := 61) (v := .bool false) (d := (some 135)) rfl rfl (by kernel_rfl) (by kernel_rfl) (by kernel_rfl) (fun _ _ _ h => h) (Or.inl ⟨by kernel_rfl, fun w' hSw => by obtain ⟨f1, f2, f3, f4, f5, f6, f7, f8⟩ := HF.out w' (below_trans HB9.out hSw); first | (go_simp; done) | (go_simp; with_reducible rfl)⟩) hHeld ?_
                  set_option linter.unusedSimpArgs false in
                  try simp only [Act.put, List.setIfInBounds_toArray, List.set_cons_zero, List.set_cons_succ]
                  refine' takeAt (i := 62) (v := .bool false) (d := (some 136)) rfl rfl (by kernel_rfl) (by kernel_rfl) (by kernel_rfl) (fun _ _ _ h => h) (Or.inl ⟨by kernel_rfl, fun w' hSw => by obtain ⟨f1, f2, f3, f4, f5, f6, f7, f8⟩ := HF.out w' (below_trans HB9.out hSw); first | (go_simp; done) | (go_simp; with_reducible rfl)⟩) hHeld ?_
                  set_option linter.unusedSimpArgs false in
                  try simp only [Act.put, List.setIfInBounds_toArray, List.set_cons_zero, List.set_cons_succ]
                  refine wpAnyH_done (by kernel_rfl) ?_ _
                  have hH9 := below_trans hbr7 (below_trans HB9.out hHeld)
                  clear hHeld
                  go_wp2
                  go_roundw
                  case rel => exact ⟨k + 1, by omega, by go_num, hH9⟩
                  case measure => simp [intOf]; omega
                · by_cases k3 : x.kind = 3
                  · have HZ1 : Hid (x.block.root = 0 ∧ x.block.parent = 0) := by show _ ∧ _; rw [HXE.out] at k3 ⊢; simp only [bareE] at k3; simp [bareE, k3, Bk.zero]
                    have HZ2 : Hid (x.vote.who.length = 0) := by show _ = _; rw [HXE.out] at k3 ⊢; simp only [bareE] at k3; simp [bareE, k3, Vt.zero]
                    have kb1 : (x.kind == 1) = false := by simp [k1]
                    have kb2 : (x.kind == 2) = false := by simp [k2]
                    have kb3 : (x.kind == 3) = true := by simp [k3]
                    have kc1 : (x.kind != 1) = true := by simp [k1]
                    have kc2 : (x.kind != 2) = true := by simp [k2]
                    have kc3 : (x.kind != 3) = false := by simp [k3]
                    refine' takeAt (i := 26) (v := .bool true) (d := (some 100)) rfl rfl (by kernel_rfl) (by kernel_rfl) (by kernel_rfl) (fun _ _ _ h => h) (Or.inl ⟨by kernel_rfl, fun w' hSw => by first | (go_simp; done) | (go_simp; with_reducible rfl)⟩) hHeld ?_
                    set_option linter.unusedSimpArgs false in
                    try simp only [Act.put, List.setIfInBounds_toArray, List.set_cons_zero, List.set_cons_succ]
                    refine' takeAt (i := 27) (v := .bool true) (d := (some 101)) rfl rfl (by kernel_rfl) (by kernel_rfl) (by kernel_rfl) (fun _ _ _ h => h) (Or.inl ⟨by kernel_rfl, fun w' hSw => by first | (go_simp; done) | (go_simp; with_reducible rfl)⟩) hHeld ?_
                    set_option linter.unusedSimpArgs false in
                    try simp only [Act.put, List.setIfInBounds_toArray, List.set_cons_zero, List.set_cons_succ]
                    refine' takeAt (i := 28) (v := .pointer (some ⟨Px, 2, none⟩)) (d := (some 102)) rfl rfl (by kernel_rfl) (by kernel_rfl) (by kernel_rfl) (fun _ _ _ h => h) (Or.inl ⟨by kernel_rfl, fun w' hSw => by obtain ⟨f1, f2, f3, f4, f5, f6, f7, f8⟩ := HF.out w' (below_trans HB9.out hSw); first | (go_simp; done) | (go_simp; with_reducible rfl)⟩) hHeld ?_
                    set_option linter.unusedSimpArgs false in
                    try simp only [Act.put, List.setIfInBounds_toArray, List.set_cons_zero, List.set_cons_succ]
                    refine' takeAt (i := 29) (v := .pointer (some ⟨Px, 2, none⟩)) (d := (some 103)) rfl rfl (by kernel_rfl) (by kernel_rfl) (by kernel_rfl) (fun _ _ _ h => h) (Or.inl ⟨by kernel_rfl, fun w' hSw => by obtain ⟨f1, f2, f3, f4, f5, f6, f7, f8⟩ := HF.out w' (below_trans HB9.out hSw); first | (go_simp; done) | (go_simp; with_reducible rfl)⟩) hHeld ?_
                    set_option linter.unusedSimpArgs false in
                    try simp only [Act.put, List.setIfInBounds_toArray, List.set_cons_zero, List.set_cons_succ]
                    refine' takeAt (i := 30) (v := .int .u64 x.block.root) (d := (some 104)) rfl rfl (by kernel_rfl) (by kernel_rfl) (by kernel_rfl) (fun _ _ _ h => h) (Or.inl ⟨by kernel_rfl, fun w' hSw => by obtain ⟨f1, f2, f3, f4, f5, f6, f7, f8⟩ := HF.out w' (below_trans HB9.out hSw); first | (go_simp; done) | (go_simp; with_reducible rfl)⟩) hHeld ?_
                    set_option linter.unusedSimpArgs false in
                    try simp only [Act.put, List.setIfInBounds_toArray, List.set_cons_zero, List.set_cons_succ]
                    refine' takeAt (i := 31) (v := .pointer (some ⟨Px, 2, none⟩)) (d := (some 105)) rfl rfl (by kernel_rfl) (by kernel_rfl) (by kernel_rfl) (fun _ _ _ h => h) (Or.inl ⟨by kernel_rfl, fun w' hSw => by obtain ⟨f1, f2, f3, f4, f5, f6, f7, f8⟩ := HF.out w' (below_trans HB9.out hSw); first | (go_simp; done) | (go_simp; with_reducible rfl)⟩) hHeld ?_
                    set_option linter.unusedSimpArgs false in
                    try simp only [Act.put, List.setIfInBounds_toArray, List.set_cons_zero, List.set_cons_succ]
                    refine' takeAt (i := 32) (v := .pointer (some ⟨Px, 3, none⟩)) (d := (some 106)) rfl rfl (by kernel_rfl) (by kernel_rfl) (by kernel_rfl) (fun _ _ _ h => h) (Or.inl ⟨by kernel_rfl, fun w' hSw => by obtain ⟨f1, f2, f3, f4, f5, f6, f7, f8⟩ := HF.out w' (below_trans HB9.out hSw); first | (go_simp; done) | (go_simp; with_reducible rfl)⟩) hHeld ?_
                    set_option linter.unusedSimpArgs false in
                    try simp only [Act.put, List.setIfInBounds_toArray, List.set_cons_zero, List.set_cons_succ]
                    refine' takeAt (i := 33) (v := .int .u64 x.block.parent) (d := (some 107)) rfl rfl (by kernel_rfl) (by kernel_rfl) (by kernel_rfl) (fun _ _ _ h => h) (Or.inl ⟨by kernel_rfl, fun w' hSw => by obtain ⟨f1, f2, f3, f4, f5, f6, f7, f8⟩ := HF.out w' (below_trans HB9.out hSw); first | (go_simp; done) | (go_simp; with_reducible rfl)⟩) hHeld ?_
                    set_option linter.unusedSimpArgs false in
                    try simp only [Act.put, List.setIfInBounds_toArray, List.set_cons_zero, List.set_cons_succ]
                    refine' takeAt (i := 34) (v := .int .u64 0) (d := (some 108)) rfl rfl (by kernel_rfl) (by kernel_rfl) (by kernel_rfl) (fun _ _ _ h => h) (Or.inl ⟨by kernel_rfl, fun w' hSw => by have b1 := HZ1.out.1; have b2 := HZ1.out.2; first | (go_simp; done) | (go_simp; rfl)⟩) hHeld ?_
                    set_option linter.unusedSimpArgs false in
                    try simp only [Act.put, List.setIfInBounds_toArray, List.set_cons_zero, List.set_cons_succ]
                    refine' takeAt (i := 35) (v := .bool false) (d := (some 109)) rfl rfl (by kernel_rfl) (by kernel_rfl) (by kernel_rfl) (fun _ _ _ h => h) (Or.inl ⟨by kernel_rfl, fun w' hSw => by obtain ⟨f1, f2, f3, f4, f5, f6, f7, f8⟩ := HF.out w' (below_trans HB9.out hSw); first | (go_simp; done) | (go_simp; with_reducible rfl)⟩) hHeld ?_
                    set_option linter.unusedSimpArgs false in
                    try simp only [Act.put, List.setIfInBounds_toArray, List.set_cons_zero, List.set_cons_succ]
                    refine' takeAt (i := 36) (v := .bool false) (d := (some 110)) rfl rfl (by kernel_rfl) (by kernel_rfl) (by kernel_rfl) (fun _ _ _ h => h) (Or.inl ⟨by kernel_rfl, fun w' hSw => by obtain ⟨f1, f2, f3, f4, f5, f6, f7, f8⟩ := HF.out w' (below_trans HB9.out hSw); first | (go_simp; done) | (go_simp; with_reducible rfl)⟩) hHeld ?_
                    set_option linter.unusedSimpArgs false in
                    try simp only [Act.put, List.setIfInBounds_toArray, List.set_cons_zero, List.set_cons_succ]
                    refine' takeAt (i := 37) (v := .bool false) (d := (some 111)) rfl rfl (by kernel_rfl) (by kernel_rfl) (by kernel_rfl) (fun _ _ _ h => h) (Or.inl ⟨by kernel_rfl, fun w' hSw => by obtain ⟨f1, f2, f3, f4, f5, f6, f7, f8⟩ := HF.out w' (below_trans HB9.out hSw); first | (go_simp; done) | (go_simp; with_reducible rfl)⟩) hHeld ?_
                    set_option linter.unusedSimpArgs false in
                    try simp only [Act.put, List.setIfInBounds_toArray, List.set_cons_zero, List.set_cons_succ]
                    refine' takeAt (i := 38) (v := .bool false) (d := (some 112)) rfl rfl (by kernel_rfl) (by kernel_rfl) (by kernel_rfl) (fun _ _ _ h => h) (Or.inl ⟨by kernel_rfl, fun w' hSw => by obtain ⟨f1, f2, f3, f4, f5, f6, f7, f8⟩ := HF.out w' (below_trans HB9.out hSw); first | (go_simp; done) | (go_simp; with_reducible rfl)⟩) hHeld ?_
                    set_option linter.unusedSimpArgs false in
                    try simp only [Act.put, List.setIfInBounds_toArray, List.set_cons_zero, List.set_cons_succ]
                    refine' takeAt (i := 39) (v := .pointer (some ⟨Px, 0, none⟩)) (d := (some 113)) rfl rfl (by kernel_rfl) (by kernel_rfl) (by kernel_rfl) (fun _ _ _ h => h) (Or.inl ⟨by kernel_rfl, fun w' hSw => by obtain ⟨f1, f2, f3, f4, f5, f6, f7, f8⟩ := HF.out w' (below_trans HB9.out hSw); first | (go_simp; done) | (go_simp; with_reducible rfl)⟩) hHeld ?_
                    set_option linter.unusedSimpArgs false in
                    try simp only [Act.put, List.setIfInBounds_toArray, List.set_cons_zero, List.set_cons_succ]
                    refine' takeAt (i := 40) (v := .int .i64 x.kind) (d := (some 114)) rfl rfl (by kernel_rfl) (by kernel_rfl) (by kernel_rfl) (fun _ _ _ h => h) (Or.inl ⟨by kernel_rfl, fun w' hSw => by obtain ⟨f1, f2, f3, f4, f5, f6, f7, f8⟩ := HF.out w' (below_trans HB9.out hSw); first | (go_simp; done) | (go_simp; with_reducible rfl)⟩) hHeld ?_
                    set_option linter.unusedSimpArgs false in
                    try simp only [Act.put, List.setIfInBounds_toArray, List.set_cons_zero, List.set_cons_succ]
                    refine' takeAt (i := 41) (v := .bool true) (d := (some 115)) rfl rfl (by kernel_rfl) (by kernel_rfl) (by kernel_rfl) (fun _ _ _ h => h) (Or.inl ⟨by kernel_rfl, fun w' hSw => by first | (go_simp; done) | (go_simp; with_reducible rfl)⟩) hHeld ?_
                    set_option linter.unusedSimpArgs false in
                    try simp only [Act.put, List.setIfInBounds_toArray, List.set_cons_zero, List.set_cons_succ]
                    refine' takeAt (i := 42) (v := .bool true) (d := (some 116)) rfl rfl (by kernel_rfl) (by kernel_rfl) (by kernel_rfl) (fun _ _ _ h => h) (Or.inl ⟨by kernel_rfl, fun w' hSw => by first | (go_simp; done) | (go_simp; with_reducible rfl)⟩) hHeld ?_
                    set_option linter.unusedSimpArgs false in
                    try simp only [Act.put, List.setIfInBounds_toArray, List.set_cons_zero, List.set_cons_succ]
                    refine' takeAt (i := 43) (v := .pointer (some ⟨Px, 7, none⟩)) (d := (some 117)) rfl rfl (by kernel_rfl) (by kernel_rfl) (by kernel_rfl) (fun _ _ _ h => h) (Or.inl ⟨by kernel_rfl, fun w' hSw => by obtain ⟨f1, f2, f3, f4, f5, f6, f7, f8⟩ := HF.out w' (below_trans HB9.out hSw); first | (go_simp; done) | (go_simp; with_reducible rfl)⟩) hHeld ?_
                    set_option linter.unusedSimpArgs false in
                    try simp only [Act.put, List.setIfInBounds_toArray, List.set_cons_zero, List.set_cons_succ]
                    refine' takeAt (i := 44) (v := .pointer (some ⟨Px, 13, none⟩)) (d := (some 118)) rfl rfl (by kernel_rfl) (by kernel_rfl) (by kernel_rfl) (fun _ _ _ h => h) (Or.inl ⟨by kernel_rfl, fun w' hSw => by obtain ⟨f1, f2, f3, f4, f5, f6, f7, f8⟩ := HF.out w' (below_trans HB9.out hSw); first | (go_simp; done) | (go_simp; with_reducible rfl)⟩) hHeld ?_
                    set_option linter.unusedSimpArgs false in
                    try simp only [Act.put, List.setIfInBounds_toArray, List.set_cons_zero, List.set_cons_succ]
                    refine' takeAt (i := 45) (v := .slice A4 x.vote.who.length c4) (d := (some 119)) rfl rfl (by kernel_rfl) (by kernel_rfl) (by kernel_rfl) (fun _ _ _ h => h) (Or.inl ⟨by kernel_rfl, fun w' hSw => by obtain ⟨f1, f2, f3, f4, f5, f6, f7, f8⟩ := HF.out w' (below_trans HB9.out hSw); first | (go_simp; done) | (go_simp; with_reducible rfl)⟩) hHeld ?_
                    set_option linter.unusedSimpArgs false in
                    try simp only [Act.put, List.setIfInBounds_toArray, List.set_cons_zero, List.set_cons_succ]
                    refine' takeAt (i := 46) (v := .int .i64 x.vote.who.length) (d := (some 120)) rfl rfl (by kernel_rfl) (by kernel_rfl) (by kernel_rfl) (fun _ _ _ h => h) (Or.inl ⟨by kernel_rfl, fun w' hSw => by obtain ⟨f1, f2, f3, f4, f5, f6, f7, f8⟩ := HF.out w' (below_trans HB9.out hSw); first | (go_simp; done) | (go_simp; with_reducible rfl)⟩) hHeld ?_
                    set_option linter.unusedSimpArgs false in
                    try simp only [Act.put, List.setIfInBounds_toArray, List.set_cons_zero, List.set_cons_succ]
                    refine' takeAt (i := 47) (v := .bool false) (d := (some 121)) rfl rfl (by kernel_rfl) (by kernel_rfl) (by kernel_rfl) (fun _ _ _ h => h) (Or.inl ⟨by kernel_rfl, fun w' hSw => by have b1 := HZ2.out; first | (go_simp; done) | (go_simp; with_reducible rfl)⟩) hHeld ?_
                    set_option linter.unusedSimpArgs false in
                    try simp only [Act.put, List.setIfInBounds_toArray, List.set_cons_zero, List.set_cons_succ]
                    refine' takeAt (i := 48) (v := .bool false) (d := (some 122)) rfl rfl (by kernel_rfl) (by kernel_rfl) (by kernel_rfl) (fun _ _ _ h => h) (Or.inl ⟨by kernel_rfl, fun w' hSw => by obtain ⟨f1, f2, f3, f4, f5, f6, f7, f8⟩ := HF.out w' (below_trans HB9.out hSw); first | (go_simp; done) | (go_simp; with_reducible rfl)⟩) hHeld ?_
                    set_option linter.unusedSimpArgs false in
                    try simp only [Act.put, List.setIfInBounds_toArray, List.set_cons_zero, List.set_cons_succ]
                    refine' takeAt (i := 49) (v := .bool false) (d := (some 123)) rfl rfl (by kernel_rfl) (by kernel_rfl) (by kernel_rfl) (fun _ _ _ h => h) (Or.inl ⟨by kernel_rfl, fun w' hSw => by obtain ⟨f1, f2, f3, f4, f5, f6, f7, f8⟩ := HF.out w' (below_trans HB9.out hSw); first | (go_simp; done) | (go_simp; with_reducible rfl)⟩) hHeld ?_
                    set_option linter.unusedSimpArgs false in
                    try simp only [Act.put, List.setIfInBounds_toArray, List.set_cons_zero, List.set_cons_succ]
                    refine' takeAt (i := 50) (v := .bool false) (d := (some 124)) rfl rfl (by kernel_rfl) (by kernel_rfl) (by kernel_rfl) (fun _ _ _ h => h) (Or.inl ⟨by kernel_rfl, fun w' hSw => by obtain ⟨f1, f2, f3, f4, f5, f6, f7, f8⟩ := HF.out w' (below_trans HB9.out hSw); first | (go_simp; done) | (go_simp; with_reducible rfl)⟩) hHeld ?_
                    set_option linter.unusedSimpArgs false in
                    try simp only [Act.put, List.setIfInBounds_toArray, List.set_cons_zero, List.set_cons_succ]
                    refine' takeAt (i := 51) (v := .pointer (some ⟨Px, 0, none⟩)) (d := (some 125)) rfl rfl (by kernel_rfl) (by kernel_rfl) (by kernel_rfl) (fun _ _ _ h => h) (Or.inl ⟨by kernel_rfl, fun w' hSw => by obtain ⟨f1, f2, f3, f4, f5, f6, f7, f8⟩ := HF.out w' (below_trans HB9.out hSw); first | (go_simp; done) | (go_simp; with_reducible rfl)⟩) hHeld ?_
                    set_option linter.unusedSimpArgs false in
                    try simp only [Act.put, List.setIfInBounds_toArray, List.set_cons_zero, List.set_cons_succ]
                    refine' takeAt (i := 52) (v := .int .i64 x.kind) (d := (some 126)) rfl rfl (by kernel_rfl) (by kernel_rfl) (by kernel_rfl) (fun _ _ _ h => h) (Or.inl ⟨by kernel_rfl, fun w' hSw => by obtain ⟨f1, f2, f3, f4, f5, f6, f7, f8⟩ := HF.out w' (below_trans HB9.out hSw); first | (go_simp; done) | (go_simp; with_reducible rfl)⟩) hHeld ?_
                    set_option linter.unusedSimpArgs false in
                    try simp only [Act.put, List.setIfInBounds_toArray, List.set_cons_zero, List.set_cons_succ]
                    refine' takeAt (i := 53) (v := .bool false) (d := (some 127)) rfl rfl (by kernel_rfl) (by kernel_rfl) (by kernel_rfl) (fun _ _ _ h => h) (Or.inl ⟨by kernel_rfl, fun w' hSw => by first | (go_simp; done) | (go_simp; with_reducible rfl)⟩) hHeld ?_
                    set_option linter.unusedSimpArgs false in
                    try simp only [Act.put, List.setIfInBounds_toArray, List.set_cons_zero, List.set_cons_succ]
                    refine' takeAt (i := 54) (v := .bool false) (d := (some 128)) rfl rfl (by kernel_rfl) (by kernel_rfl) (by kernel_rfl) (fun _ _ _ h => h) (Or.inl ⟨by kernel_rfl, fun w' hSw => by first | (go_simp; done) | (go_simp; with_reducible rfl)⟩) hHeld ?_
                    set_option linter.unusedSimpArgs false in
                    try simp only [Act.put, List.setIfInBounds_toArray, List.set_cons_zero, List.set_cons_succ]
                    refine' takeAt (i := 55) (v := undef) (d := (some 129)) rfl rfl (by kernel_rfl) (by kernel_rfl) (by kernel_rfl) (fun _ _ _ h => h) (Or.inr ⟨by kernel_rfl, rfl⟩) hHeld ?_
                    set_option linter.unusedSimpArgs false in
                    try simp only [Act.put, List.setIfInBounds_toArray, List.set_cons_zero, List.set_cons_succ]
                    refine' takeAt (i := 56) (v := undef) (d := (some 130)) rfl rfl (by kernel_rfl) (by kernel_rfl) (by kernel_rfl) (fun _ _ _ h => h) (Or.inr ⟨by kernel_rfl, rfl⟩) hHeld ?_
                    set_option linter.unusedSimpArgs false in
                    try simp only [Act.put, List.setIfInBounds_toArray, List.set_cons_zero, List.set_cons_succ]
                    refine' takeAt (i := 57) (v := undef) (d := (some 131)) rfl rfl (by kernel_rfl) (by kernel_rfl) (by kernel_rfl) (fun _ _ _ h => h) (Or.inr ⟨by kernel_rfl, rfl⟩) hHeld ?_
                    set_option linter.unusedSimpArgs false in
                    try simp only [Act.put, List.setIfInBounds_toArray, List.set_cons_zero, List.set_cons_succ]
                    refine' takeAt (i := 58) (v := undef) (d := (some 132)) rfl rfl (by kernel_rfl) (by kernel_rfl) (by kernel_rfl) (fun _ _ _ h => h) (Or.inr ⟨by kernel_rfl, rfl⟩) hHeld ?_
                    set_option linter.unusedSimpArgs false in
                    try simp only [Act.put, List.setIfInBounds_toArray, List.set_cons_zero, List.set_cons_succ]
                    refine' takeAt (i := 59) (v := undef) (d := (some 133)) rfl rfl (by kernel_rfl) (by kernel_rfl) (by kernel_rfl) (fun _ _ _ h => h) (Or.inr ⟨by kernel_rfl, rfl⟩) hHeld ?_
                    set_option linter.unusedSimpArgs false in
                    try simp only [Act.put, List.setIfInBounds_toArray, List.set_cons_zero, List.set_cons_succ]
                    refine' takeAt (i := 60) (v := undef) (d := (some 134)) rfl rfl (by kernel_rfl) (by kernel_rfl) (by kernel_rfl) (fun _ _ _ h => h) (Or.inr ⟨by kernel_rfl, rfl⟩) hHeld ?_
                    set_option linter.unusedSimpArgs false in
                    try simp only [Act.put, List.setIfInBounds_toArray, List.set_cons_zero, List.set_cons_succ]
                    refine' takeAt (i := 61) (v := .bool false) (d := (some 135)) rfl rfl (by kernel_rfl) (by kernel_rfl) (by kernel_rfl) (fun _ _ _ h => h) (Or.inl ⟨by kernel_rfl, fun w' hSw => by obtain ⟨f1, f2, f3, f4, f5, f6, f7, f8⟩ := HF.out w' (below_trans HB9.out hSw); first | (go_simp; done) | (go_simp; with_reducible rfl)⟩) hHeld ?_
                    set_option linter.unusedSimpArgs false in
                    try simp only [Act.put, List.setIfInBounds_toArray, List.set_cons_zero, List.set_cons_succ]
                    refine' takeAt (i := 62) (v := .bool false) (d := (some 136)) rfl rfl (by kernel_rfl) (by kernel_rfl) (by kernel_rfl) (fun _ _ _ h => h) (Or.inl ⟨by kernel_rfl, fun w' hSw => by obtain ⟨f1, f2, f3, f4, f5, f6, f7, f8⟩ := HF.out w' (below_trans HB9.out hSw); first | (go_simp; done) | (go_simp; with_reducible rfl)⟩) hHeld ?_
                    set_option linter.unusedSimpArgs false in
                    try simp only [Act.put, List.setIfInBounds_toArray, List.set_cons_zero, List.set_cons_succ]
                    refine wpAnyH_done (by kernel_rfl) ?_ _
                    have hH9 := below_trans hbr7 (below_trans HB9.out hHeld)
                    clear hHeld
                    go_wp2
                    go_roundw
                    case rel => exact ⟨k + 1, by omega, by go_num, hH9⟩
                    case measure => simp [intOf]; omega
                  · have HZ1 : Hid (x.block.root = 0 ∧ x.block.parent = 0) := by show _ ∧ _; rw [HXE.out] at k1 ⊢; simp only [bareE] at k1; simp [bareE, k1, Bk.zero]
                    have HZ2 : Hid (x.vote.who.length = 0) := by show _ = _; rw [HXE.out] at k2 ⊢; simp only [bareE] at k2; simp [bareE, k2, Vt.zero]
                    have HZ3 : Hid (x.proof.a.who.length = 0) := by show _ = _; rw [HXE.out] at k3 ⊢; simp only [bareE] at k3; simp [bareE, k3, Pf.zero, Vt.zero]
                    have kb1 : (x.kind == 1) = false := by simp [k1]
                    have kb2 : (x.kind == 2) = false := by simp [k2]
                    have kb3 : (x.kind == 3) = false := by simp [k3]
                    have kc1 : (x.kind != 1) = true := by simp [k1]
                    have kc2 : (x.kind != 2) = true := by simp [k2]
                    have kc3 : (x.kind != 3) = true := by simp [k3]
                    refine' takeAt (i := 26) (v := .bool true) (d := (some 100)) rfl rfl (by kernel_rfl) (by kernel_rfl) (by kernel_rfl) (fun _ _ _ h => h) (Or.inl ⟨by kernel_rfl, fun w' hSw => by first | (go_simp; done) | (go_simp; with_reducible rfl)⟩) hHeld ?_
                    set_option linter.unusedSimpArgs false in
                    try simp only [Act.put, List.setIfInBounds_toArray, List.set_cons_zero, List.set_cons_succ]
                    refine' takeAt (i := 27) (v := .bool true) (d := (some 101)) rfl rfl (by kernel_rfl) (by kernel_rfl) (by kernel_rfl) (fun _ _ _ h => h) (Or.inl ⟨by kernel_rfl, fun w' hSw => by first | (go_simp; done) | (go_simp; with_reducible rfl)⟩) hHeld ?_
                    set_option linter.unusedSimpArgs false in
                    try simp only [Act.put, List.setIfInBounds_toArray, List.set_cons_zero, List.set_cons_succ]
                    refine' takeAt (i := 28) (v := .pointer (some ⟨Px, 2, none⟩)) (d := (some 102)) rfl rfl (by kernel_rfl) (by kernel_rfl) (by kernel_rfl) (fun _ _ _ h => h) (Or.inl ⟨by kernel_rfl, fun w' hSw => by obtain ⟨f1, f2, f3, f4, f5, f6, f7, f8⟩ := HF.out w' (below_trans HB9.out hSw); first | (go_simp; done) | (go_simp; with_reducible rfl)⟩) hHeld ?_
                    set_option linter.unusedSimpArgs false in
                    try simp only [Act.put, List.setIfInBounds_toArray, List.set_cons_zero, List.set_cons_succ]
                    refine' takeAt (i := 29) (v := .pointer (some ⟨Px, 2, none⟩)) (d := (some 103)) rfl rfl (by kernel_rfl) (by kernel_rfl) (by kernel_rfl) (fun _ _ _ h => h) (Or.inl ⟨by kernel_rfl, fun w' hSw => by obtain ⟨f1, f2, f3, f4, f5, f6, f7, f8⟩ := HF.out w' (below_trans HB9.out hSw); first | (go_simp; done) | (go_simp; with_reducible rfl)⟩) hHeld ?_
                    set_option linter.unusedSimpArgs false in
                    try simp only [Act.put, List.setIfInBounds_toArray, List.set_cons_zero, List.set_cons_succ]
                    refine' takeAt (i := 30) (v := .int .u64 x.block.root) (d := (some 104)) rfl rfl (by kernel_rfl) (by kernel_rfl) (by kernel_rfl) (fun _ _ _ h => h) (Or.inl ⟨by kernel_rfl, fun w' hSw => by obtain ⟨f1, f2, f3, f4, f5, f6, f7, f8⟩ := HF.out w' (below_trans HB9.out hSw); first | (go_simp; done) | (go_simp; with_reducible rfl)⟩) hHeld ?_
                    set_option linter.unusedSimpArgs false in
                    try simp only [Act.put, List.setIfInBounds_toArray, List.set_cons_zero, List.set_cons_succ]
                    refine' takeAt (i := 31) (v := .pointer (some ⟨Px, 2, none⟩)) (d := (some 105)) rfl rfl (by kernel_rfl) (by kernel_rfl) (by kernel_rfl) (fun _ _ _ h => h) (Or.inl ⟨by kernel_rfl, fun w' hSw => by obtain ⟨f1, f2, f3, f4, f5, f6, f7, f8⟩ := HF.out w' (below_trans HB9.out hSw); first | (go_simp; done) | (go_simp; with_reducible rfl)⟩) hHeld ?_
                    set_option linter.unusedSimpArgs false in
                    try simp only [Act.put, List.setIfInBounds_toArray, List.set_cons_zero, List.set_cons_succ]
                    refine' takeAt (i := 32) (v := .pointer (some ⟨Px, 3, none⟩)) (d := (some 106)) rfl rfl (by kernel_rfl) (by kernel_rfl) (by kernel_rfl) (fun _ _ _ h => h) (Or.inl ⟨by kernel_rfl, fun w' hSw => by obtain ⟨f1, f2, f3, f4, f5, f6, f7, f8⟩ := HF.out w' (below_trans HB9.out hSw); first | (go_simp; done) | (go_simp; with_reducible rfl)⟩) hHeld ?_
                    set_option linter.unusedSimpArgs false in
                    try simp only [Act.put, List.setIfInBounds_toArray, List.set_cons_zero, List.set_cons_succ]
                    refine' takeAt (i := 33) (v := .int .u64 x.block.parent) (d := (some 107)) rfl rfl (by kernel_rfl) (by kernel_rfl) (by kernel_rfl) (fun _ _ _ h => h) (Or.inl ⟨by kernel_rfl, fun w' hSw => by obtain ⟨f1, f2, f3, f4, f5, f6, f7, f8⟩ := HF.out w' (below_trans HB9.out hSw); first | (go_simp; done) | (go_simp; with_reducible rfl)⟩) hHeld ?_
                    set_option linter.unusedSimpArgs false in
                    try simp only [Act.put, List.setIfInBounds_toArray, List.set_cons_zero, List.set_cons_succ]
                    refine' takeAt (i := 34) (v := .int .u64 0) (d := (some 108)) rfl rfl (by kernel_rfl) (by kernel_rfl) (by kernel_rfl) (fun _ _ _ h => h) (Or.inl ⟨by kernel_rfl, fun w' hSw => by have b1 := HZ1.out.1; have b2 := HZ1.out.2; first | (go_simp; done) | (go_simp; rfl)⟩) hHeld ?_
                    set_option linter.unusedSimpArgs false in
                    try simp only [Act.put, List.setIfInBounds_toArray, List.set_cons_zero, List.set_cons_succ]
                    refine' takeAt (i := 35) (v := .bool false) (d := (some 109)) rfl rfl (by kernel_rfl) (by kernel_rfl) (by kernel_rfl) (fun _ _ _ h => h) (Or.inl ⟨by kernel_rfl, fun w' hSw => by obtain ⟨f1, f2, f3, f4, f5, f6, f7, f8⟩ := HF.out w' (below_trans HB9.out hSw); first | (go_simp; done) | (go_simp; with_reducible rfl)⟩) hHeld ?_
                    set_option linter.unusedSimpArgs false in
                    try simp only [Act.put, List.setIfInBounds_toArray, List.set_cons_zero, List.set_cons_succ]
                    refine' takeAt (i := 36) (v := .bool false) (d := (some 110)) rfl rfl (by kernel_rfl) (by kernel_rfl) (by kernel_rfl) (fun _ _ _ h => h) (Or.inl ⟨by kernel_rfl, fun w' hSw => by obtain ⟨f1, f2, f3, f4, f5, f6, f7, f8⟩ := HF.out w' (below_trans HB9.out hSw); first | (go_simp; done) | (go_simp; with_reducible rfl)⟩) hHeld ?_
                    set_option linter.unusedSimpArgs false in
                    try simp only [Act.put, List.setIfInBounds_toArray, List.set_cons_zero, List.set_cons_succ]
                    refine' takeAt (i := 37) (v := .bool false) (d := (some 111)) rfl rfl (by kernel_rfl) (by kernel_rfl) (by kernel_rfl) (fun _ _ _ h => h) (Or.inl ⟨by kernel_rfl, fun w' hSw => by obtain ⟨f1, f2, f3, f4, f5, f6, f7, f8⟩ := HF.out w' (below_trans HB9.out hSw); first | (go_simp; done) | (go_simp; with_reducible rfl)⟩) hHeld ?_
                    set_option linter.unusedSimpArgs false in
                    try simp only [Act.put, List.setIfInBounds_toArray, List.set_cons_zero, List.set_cons_succ]
                    refine' takeAt (i := 38) (v := .bool false) (d := (some 112)) rfl rfl (by kernel_rfl) (by kernel_rfl) (by kernel_rfl) (fun _ _ _ h => h) (Or.inl ⟨by kernel_rfl, fun w' hSw => by obtain ⟨f1, f2, f3, f4, f5, f6, f7, f8⟩ := HF.out w' (below_trans HB9.out hSw); first | (go_simp; done) | (go_simp; with_reducible rfl)⟩) hHeld ?_
                    set_option linter.unusedSimpArgs false in
                    try simp only [Act.put, List.setIfInBounds_toArray, List.set_cons_zero, List.set_cons_succ]
                    refine' takeAt (i := 39) (v := .pointer (some ⟨Px, 0, none⟩)) (d := (some 113)) rfl rfl (by kernel_rfl) (by kernel_rfl) (by kernel_rfl) (fun _ _ _ h => h) (Or.inl ⟨by kernel_rfl, fun w' hSw => by obtain ⟨f1, f2, f3, f4, f5, f6, f7, f8⟩ := HF.out w' (below_trans HB9.out hSw); first | (go_simp; done) | (go_simp; with_reducible rfl)⟩) hHeld ?_
                    set_option linter.unusedSimpArgs false in
                    try simp only [Act.put, List.setIfInBounds_toArray, List.set_cons_zero, List.set_cons_succ]
                    refine' takeAt (i := 40) (v := .int .i64 x.kind) (d := (some 114)) rfl rfl (by kernel_rfl) (by kernel_rfl) (by kernel_rfl) (fun _ _ _ h => h) (Or.inl ⟨by kernel_rfl, fun w' hSw => by obtain ⟨f1, f2, f3, f4, f5, f6, f7, f8⟩ := HF.out w' (below_trans HB9.out hSw); first | (go_simp; done) | (go_simp; with_reducible rfl)⟩) hHeld ?_
                    set_option linter.unusedSimpArgs false in
                    try simp only [Act.put, List.setIfInBounds_toArray, List.set_cons_zero, List.set_cons_succ]
                    refine' takeAt (i := 41) (v := .bool true) (d := (some 115)) rfl rfl (by kernel_rfl) (by kernel_rfl) (by kernel_rfl) (fun _ _ _ h => h) (Or.inl ⟨by kernel_rfl, fun w' hSw => by first | (go_simp; done) | (go_simp; with_reducible rfl)⟩) hHeld ?_
                    set_option linter.unusedSimpArgs false in
                    try simp only [Act.put, List.setIfInBounds_toArray, List.set_cons_zero, List.set_cons_succ]
                    refine' takeAt (i := 42) (v := .bool true) (d := (some 116)) rfl rfl (by kernel_rfl) (by kernel_rfl) (by kernel_rfl) (fun _ _ _ h => h) (Or.inl ⟨by kernel_rfl, fun w' hSw => by first | (go_simp; done) | (go_simp; with_reducible rfl)⟩) hHeld ?_
                    set_option linter.unusedSimpArgs false in
                    try simp only [Act.put, List.setIfInBounds_toArray, List.set_cons_zero, List.set_cons_succ]
                    refine' takeAt (i := 43) (v := .pointer (some ⟨Px, 7, none⟩)) (d := (some 117)) rfl rfl (by kernel_rfl) (by kernel_rfl) (by kernel_rfl) (fun _ _ _ h => h) (Or.inl ⟨by kernel_rfl, fun w' hSw => by obtain ⟨f1, f2, f3, f4, f5, f6, f7, f8⟩ := HF.out w' (below_trans HB9.out hSw); first | (go_simp; done) | (go_simp; with_reducible rfl)⟩) hHeld ?_
                    set_option linter.unusedSimpArgs false in
                    try simp only [Act.put, List.setIfInBounds_toArray, List.set_cons_zero, List.set_cons_succ]
                    refine' takeAt (i := 44) (v := .pointer (some ⟨Px, 13, none⟩)) (d := (some 118)) rfl rfl (by kernel_rfl) (by kernel_rfl) (by kernel_rfl) (fun _ _ _ h => h) (Or.inl ⟨by kernel_rfl, fun w' hSw => by obtain ⟨f1, f2, f3, f4, f5, f6, f7, f8⟩ := HF.out w' (below_trans HB9.out hSw); first | (go_simp; done) | (go_simp; with_reducible rfl)⟩) hHeld ?_
                    set_option linter.unusedSimpArgs false in
                    try simp only [Act.put, List.setIfInBounds_toArray, List.set_cons_zero, List.set_cons_succ]
                    refine' takeAt (i := 45) (v := .slice A4 x.vote.who.length c4) (d := (some 119)) rfl rfl (by kernel_rfl) (by kernel_rfl) (by kernel_rfl) (fun _ _ _ h => h) (Or.inl ⟨by kernel_rfl, fun w' hSw => by obtain ⟨f1, f2, f3, f4, f5, f6, f7, f8⟩ := HF.out w' (below_trans HB9.out hSw); first | (go_simp; done) | (go_simp; with_reducible rfl)⟩) hHeld ?_
                    set_option linter.unusedSimpArgs false in
                    try simp only [Act.put, List.setIfInBounds_toArray, List.set_cons_zero, List.set_cons_succ]
                    refine' takeAt (i := 46) (v := .int .i64 x.vote.who.length) (d := (some 120)) rfl rfl (by kernel_rfl) (by kernel_rfl) (by kernel_rfl) (fun _ _ _ h => h) (Or.inl ⟨by kernel_rfl, fun w' hSw => by obtain ⟨f1, f2, f3, f4, f5, f6, f7, f8⟩ := HF.out w' (below_trans HB9.out hSw); first | (go_simp; done) | (go_simp; with_reducible rfl)⟩) hHeld ?_
                    set_option linter.unusedSimpArgs false in
                    try simp only [Act.put, List.setIfInBounds_toArray, List.set_cons_zero, List.set_cons_succ]
                    refine' takeAt (i := 47) (v := .bool false) (d := (some 121)) rfl rfl (by kernel_rfl) (by kernel_rfl) (by kernel_rfl) (fun _ _ _ h => h) (Or.inl ⟨by kernel_rfl, fun w' hSw => by have b1 := HZ2.out; first | (go_simp; done) | (go_simp; with_reducible rfl)⟩) hHeld ?_
                    set_option linter.unusedSimpArgs false in
                    try simp only [Act.put, List.setIfInBounds_toArray, List.set_cons_zero, List.set_cons_succ]
                    refine' takeAt (i := 48) (v := .bool false) (d := (some 122)) rfl rfl (by kernel_rfl) (by kernel_rfl) (by kernel_rfl) (fun _ _ _ h => h) (Or.inl ⟨by kernel_rfl, fun w' hSw => by obtain ⟨f1, f2, f3, f4, f5, f6, f7, f8⟩ := HF.out w' (below_trans HB9.out hSw); first | (go_simp; done) | (go_simp; with_reducible rfl)⟩) hHeld ?_
                    set_option linter.unusedSimpArgs false in
                    try simp only [Act.put, List.setIfInBounds_toArray, List.set_cons_zero, List.set_cons_succ]
                    refine' takeAt (i := 49) (v := .bool false) (d := (some 123)) rfl rfl (by kernel_rfl) (by kernel_rfl) (by kernel_rfl) (fun _ _ _ h => h) (Or.inl ⟨by kernel_rfl, fun w' hSw => by obtain ⟨f1, f2, f3, f4, f5, f6, f7, f8⟩ := HF.out w' (below_trans HB9.out hSw); first | (go_simp; done) | (go_simp; with_reducible rfl)⟩) hHeld ?_
                    set_option linter.unusedSimpArgs false in
                    try simp only [Act.put, List.setIfInBounds_toArray, List.set_cons_zero, List.set_cons_succ]
                    refine' takeAt (i := 50) (v := .bool false) (d := (some 124)) rfl rfl (by kernel_rfl) (by kernel_rfl) (by kernel_rfl) (fun _ _ _ h => h) (Or.inl ⟨by kernel_rfl, fun w' hSw => by obtain ⟨f1, f2, f3, f4, f5, f6, f7, f8⟩ := HF.out w' (below_trans HB9.out hSw); first | (go_simp; done) | (go_simp; with_reducible rfl)⟩) hHeld ?_
                    set_option linter.unusedSimpArgs false in
                    try simp only [Act.put, List.setIfInBounds_toArray, List.set_cons_zero, List.set_cons_succ]
                    refine' takeAt (i := 51) (v := .pointer (some ⟨Px, 0, none⟩)) (d := (some 125)) rfl rfl (by kernel_rfl) (by kernel_rfl) (by kernel_rfl) (fun _ _ _ h => h) (Or.inl ⟨by kernel_rfl, fun w' hSw => by obtain ⟨f1, f2, f3, f4, f5, f6, f7, f8⟩ := HF.out w' (below_trans HB9.out hSw); first | (go_simp; done) | (go_simp; with_reducible rfl)⟩) hHeld ?_
                    set_option linter.unusedSimpArgs false in
                    try simp only [Act.put, List.setIfInBounds_toArray, List.set_cons_zero, List.set_cons_succ]
                    refine' takeAt (i := 52) (v := .int .i64 x.kind) (d := (some 126)) rfl rfl (by kernel_rfl) (by kernel_rfl) (by kernel_rfl) (fun _ _ _ h => h) (Or.inl ⟨by kernel_rfl, fun w' hSw => by obtain ⟨f1, f2, f3, f4, f5, f6, f7, f8⟩ := HF.out w' (below_trans HB9.out hSw); first | (go_simp; done) | (go_simp; with_reducible rfl)⟩) hHeld ?_
                    set_option linter.unusedSimpArgs false in
                    try simp only [Act.put, List.setIfInBounds_toArray, List.set_cons_zero, List.set_cons_succ]
                    refine' takeAt (i := 53) (v := .bool true) (d := (some 127)) rfl rfl (by kernel_rfl) (by kernel_rfl) (by kernel_rfl) (fun _ _ _ h => h) (Or.inl ⟨by kernel_rfl, fun w' hSw => by first | (go_simp; done) | (go_simp; with_reducible rfl)⟩) hHeld ?_
                    set_option linter.unusedSimpArgs false in
                    try simp only [Act.put, List.setIfInBounds_toArray, List.set_cons_zero, List.set_cons_succ]
                    refine' takeAt (i := 54) (v := .bool true) (d := (some 128)) rfl rfl (by kernel_rfl) (by kernel_rfl) (by kernel_rfl) (fun _ _ _ h => h) (Or.inl ⟨by kernel_rfl, fun w' hSw => by first | (go_simp; done) | (go_simp; with_reducible rfl)⟩) hHeld ?_
                    set_option linter.unusedSimpArgs false in
                    try simp only [Act.put, List.setIfInBounds_toArray, List.set_cons_zero, List.set_cons_succ]
                    refine' takeAt (i := 55) (v := .pointer (some ⟨Px, 14, none⟩)) (d := (some 129)) rfl rfl (by kernel_rfl) (by kernel_rfl) (by kernel_rfl) (fun _ _ _ h => h) (Or.inl ⟨by kernel_rfl, fun w' hSw => by obtain ⟨f1, f2, f3, f4, f5, f6, f7, f8⟩ := HF.out w' (below_trans HB9.out hSw); first | (go_simp; done) | (go_simp; with_reducible rfl)⟩) hHeld ?_
                    set_option linter.unusedSimpArgs false in
                    try simp only [Act.put, List.setIfInBounds_toArray, List.set_cons_zero, List.set_cons_succ]
                    refine' takeAt (i := 56) (v := .pointer (some ⟨Px, 14, none⟩)) (d := (some 130)) rfl rfl (by kernel_rfl) (by kernel_rfl) (by kernel_rfl) (fun _ _ _ h => h) (Or.inl ⟨by kernel_rfl, fun w' hSw => by obtain ⟨f1, f2, f3, f4, f5, f6, f7, f8⟩ := HF.out w' (below_trans HB9.out hSw); first | (go_simp; done) | (go_simp; with_reducible rfl)⟩) hHeld ?_
                    set_option linter.unusedSimpArgs false in
                    try simp only [Act.put, List.setIfInBounds_toArray, List.set_cons_zero, List.set_cons_succ]
                    refine' takeAt (i := 57) (v := .pointer (some ⟨Px, 20, none⟩)) (d := (some 131)) rfl rfl (by kernel_rfl) (by kernel_rfl) (by kernel_rfl) (fun _ _ _ h => h) (Or.inl ⟨by kernel_rfl, fun w' hSw => by obtain ⟨f1, f2, f3, f4, f5, f6, f7, f8⟩ := HF.out w' (below_trans HB9.out hSw); first | (go_simp; done) | (go_simp; with_reducible rfl)⟩) hHeld ?_
                    set_option linter.unusedSimpArgs false in
                    try simp only [Act.put, List.setIfInBounds_toArray, List.set_cons_zero, List.set_cons_succ]
                    refine' takeAt (i := 58) (v := .slice A5 x.proof.a.who.length c5) (d := (some 132)) rfl rfl (by kernel_rfl) (by kernel_rfl) (by kernel_rfl) (fun _ _ _ h => h) (Or.inl ⟨by kernel_rfl, fun w' hSw => by obtain ⟨f1, f2, f3, f4, f5, f6, f7, f8⟩ := HF.out w' (below_trans HB9.out hSw); first | (go_simp; done) | (go_simp; with_reducible rfl)⟩) hHeld ?_
                    set_option linter.unusedSimpArgs false in
                    try simp only [Act.put, List.setIfInBounds_toArray, List.set_cons_zero, List.set_cons_succ]
                    refine' takeAt (i := 59) (v := .int .i64 x.proof.a.who.length) (d := (some 133)) rfl rfl (by kernel_rfl) (by kernel_rfl) (by kernel_rfl) (fun _ _ _ h => h) (Or.inl ⟨by kernel_rfl, fun w' hSw => by obtain ⟨f1, f2, f3, f4, f5, f6, f7, f8⟩ := HF.out w' (below_trans HB9.out hSw); first | (go_simp; done) | (go_simp; with_reducible rfl)⟩) hHeld ?_
                    set_option linter.unusedSimpArgs false in
                    try simp only [Act.put, List.setIfInBounds_toArray, List.set_cons_zero, List.set_cons_succ]
                    refine' takeAt (i := 60) (v := .bool false) (d := (some 134)) rfl rfl (by kernel_rfl) (by kernel_rfl) (by kernel_rfl) (fun _ _ _ h => h) (Or.inl ⟨by kernel_rfl, fun w' hSw => by have b1 := HZ3.out; first | (go_simp; done) | (go_simp; with_reducible rfl)⟩) hHeld ?_
                    set_option linter.unusedSimpArgs false in
                    try simp only [Act.put, List.setIfInBounds_toArray, List.set_cons_zero, List.set_cons_succ]
                    refine' takeAt (i := 61) (v := .bool false) (d := (some 135)) rfl rfl (by kernel_rfl) (by kernel_rfl) (by kernel_rfl) (fun _ _ _ h => h) (Or.inl ⟨by kernel_rfl, fun w' hSw => by obtain ⟨f1, f2, f3, f4, f5, f6, f7, f8⟩ := HF.out w' (below_trans HB9.out hSw); first | (go_simp; done) | (go_simp; with_reducible rfl)⟩) hHeld ?_
                    set_option linter.unusedSimpArgs false in
                    try simp only [Act.put, List.setIfInBounds_toArray, List.set_cons_zero, List.set_cons_succ]
                    refine' takeAt (i := 62) (v := .bool false) (d := (some 136)) rfl rfl (by kernel_rfl) (by kernel_rfl) (by kernel_rfl) (fun _ _ _ h => h) (Or.inl ⟨by kernel_rfl, fun w' hSw => by obtain ⟨f1, f2, f3, f4, f5, f6, f7, f8⟩ := HF.out w' (below_trans HB9.out hSw); first | (go_simp; done) | (go_simp; with_reducible rfl)⟩) hHeld ?_
                    set_option linter.unusedSimpArgs false in
                    try simp only [Act.put, List.setIfInBounds_toArray, List.set_cons_zero, List.set_cons_succ]
                    refine wpAnyH_done (by kernel_rfl) ?_ _
                    have hH9 := below_trans hbr7 (below_trans HB9.out hHeld)
                    clear hHeld
                    go_wp2
                    go_roundw
                    case rel => exact ⟨k + 1, by omega, by go_num, hH9⟩
                    case measure => simp [intOf]; omega
            · go_wp2
              go_ret
              exact ⟨rfl, hbB3.trans (hbr3.mono (Nat.le_trans hB2 hbB3.size))⟩
        · cases h1
  · go_enter Try.func7, Try.ntmps7
    go_wp2_with (go_at_call 9; refine (l04awake_calls _).mono ?_; rintro e w1 ⟨rfl, hb1⟩)
    go_ret
    exact ⟨rfl, hb1⟩
end Go.Proofs.Ytccficljaomhhaa
