/- The statements of layer 4: the numbers of a block; of any event. -/
import Derived.Test.YtccficljaomhhaaDoorL04e
namespace Go.Proofs.YtccficljaomhhaaDoor
open Go.RowKit
attribute [local go_sem ↓] Go.wp_at_zero Go.wp_at_succ
theorem list_all_get {α : Type} {p : α → Bool} {l : List α} (h : l.all p = true) {k : Nat} {x : α} (hx : l[k]? = some x) : p x = true := List.all_eq_true.1 h x (List.mem_of_getElem? hx)
theorem voteB_who {v : Vt} (h : voteB v = true) : v.who.length ≤ 4096 := by simp [voteB] at h; exact h.1.2
theorem flatMap_take_le {α : Type} (f : α → List Int) (m : Nat) (l : List α) (k : Nat) (h : ∀ x ∈ l, (f x).length ≤ m) (hk : k ≤ l.length) : ((l.take k).flatMap f).length ≤ k * m := by
  have := flatMap_le f m (l.take k) (fun x hx => h x (List.mem_of_mem_take hx))
  rwa [List.length_take, Nat.min_eq_left hk] at this
set_option maxRecDepth 100000 in
set_option maxHeartbeats 2000000 in
theorem numbers1_calls (w : World) (e : Ev) (A1 : Option Addr) (c1 : Nat) (A2 : Option Addr) (c2 : Nat) (A3 : Option Addr) (c3 : Nat) (A4 : Option Addr) (c4 : Nat) (A5 : Option Addr) (c5 : Nat) (hr : EvR anyB w e A1 c1 A2 c2 A3 c3 A4 c4 A5 c5) (hm : mayB e = true) (k1 : e.kind = 1) :
    Calls Tryd.prog 14 #[.agg #[.int .i64 e.kind, .int .i64 e.slot, .int .u64 e.block.root, .int .u64 e.block.parent, .int .i64 e.block.slot, .slice A1 e.block.votes.length c1, .slice A2 e.block.proofs.length c2, .int .i64 e.vote.slot, .int .u64 e.vote.head, .int .i64 e.vote.src.e, .int .u64 e.vote.src.r, .int .i64 e.vote.tgt.e, .int .u64 e.vote.tgt.r, .slice A3 e.vote.who.length c3, .int .i64 e.proof.a.slot, .int .u64 e.proof.a.head, .int .i64 e.proof.a.src.e, .int .u64 e.proof.a.src.r, .int .i64 e.proof.a.tgt.e, .int .u64 e.proof.a.tgt.r, .slice A4 e.proof.a.who.length c4, .int .i64 e.proof.b.slot, .int .u64 e.proof.b.head, .int .i64 e.proof.b.src.e, .int .u64 e.proof.b.src.r, .int .i64 e.proof.b.tgt.e, .int .u64 e.proof.b.tgt.r, .slice A5 e.proof.b.who.length c5]] w fun en w' => ∃ A' n' c', en = .returned (.slice A' n' c') ∧ Own64 w.heap.size w' A' n' c' (evN e) ∧ Below w.heap.size w w' := by
  have hbk : blockB e.block = true := by simpa [mayB, k1] using hm
  simp only [blockB, Bool.and_eq_true, decide_eq_true_eq] at hbk
  obtain ⟨⟨⟨⟨hs1, hs2⟩, hl1⟩, hav⟩, hap⟩ := hbk
  have HAV := Lib.hid hav
  have HAP := Lib.hid hap
  have hev : Hid (evN e = [w64 1] ++ [e.block.root, e.block.parent, w64 e.block.slot, w64 e.block.votes.length, w64 e.block.proofs.length] ++ e.block.votes.flatMap voteN ++ e.block.proofs.flatMap proofN) := by show _ = _; simp [evN, k1, blockN]
  have hv1 : w64 (e.block.votes.length : Int) = e.block.votes.length := w64_id (by omega) (by omega)
  have hv2 : w64 (e.block.proofs.length : Int) = e.block.proofs.length := w64_id (by omega) (by omega)
  have hv3 : w64 e.block.slot = e.block.slot := w64_id hs1.1 (by omega)
  have hv4 : w64 1 = 1 := rfl
  rw [hv1, hv2, hv3, hv4] at hev
  have kb : (e.kind == 1) = true := by simp [k1]
  have kb0 : (e.kind == 0) = false := by simp [k1]
  have kb2 : (e.kind == 2) = false := by simp [k1]
  have kb3 : (e.kind == 3) = false := by simp [k1]
  have kw : IntKind.u64.wrap e.kind = 1 := by rw [k1]; rfl
  clear k1 hm hav hap hv1 hv2 hv3 hv4
  obtain ⟨B, HB, hB1, hB2⟩ := size_hid w
  rw [HB.out]
  go_enter Tryd.func14, Tryd.ntmps14
  go_upto_region 1 with fail
  generalize hW0 : w.alloc (Obj.cells _ 40) = W0
  have hb0 : Below w.heap.size w W0 := by rw [← hW0]; exact below_alloc (Below.refl _ _) _
  have hat : EvAt W0 w.heap.size 0 e A1 c1 A2 c2 A3 c3 A4 c4 A5 c5 := EvAt.blk (by rw [← hW0]; exact heap_new _ _)
  clear hW0
  rw [HB.out] at hat ⊢
  obtain ⟨⟨h0, _, h2, h3, h4, h5, h6⟩, _⟩ := hat
  simp only [Nat.zero_add] at h2 h3 h4 h5 h6
  have hr0 := hr.below hb0
  have hr0v := hr.r1
  have hr0p := hr.r2
  clear hr
  have hBlt : B < W0.heap.size := cell_lt h0
  go_upto_region 10 with fail
  generalize hW1 : (W0.alloc (Obj.cells _ 27)).alloc (Obj.cells _ 31) = W1
  have hsz1 : W1.heap.size = W0.heap.size + 2 := by rw [← hW1]; simp
  have hb1 : Below W0.heap.size W0 W1 := by rw [← hW1]; exact below_alloc (below_alloc (Below.refl _ _) _) _
  have ho1 : Own64 B W1 (some ⟨W0.heap.size, 0, none⟩) 1 1 [1] := own_blk (w := W1) (b := W0.heap.size) (cs := #[.int .u64 1]) (by rw [← hW1]; exact (Below.heap_alloc _ _ _ (by simp)).trans (heap_new _ _)) (by omega) rfl (by simp [maxLen])
  have hbk : W1.heap[W0.heap.size + 1]? = some (.cells #[.int .u64 e.block.root, .int .u64 e.block.parent, .int .i64 e.block.slot, .slice A1 e.block.votes.length c1, .slice A2 e.block.proofs.length c2] 31 (0, 0)) := by rw [← hW1]; exact heap_new1 _ _ _
  clear hW1 h0 h2 h3 h4 h5 h6
  have hv0 : Vts (· < B) w A1 e.block.votes := (Vts.lt hr0v).mono (fun b hb => Nat.lt_of_lt_of_le hb.2 hB1) (fun _ _ _ => rfl)
  have hp0 : Pfs (· < B) w A2 e.block.proofs := (Pfs.lt hr0p).mono (fun b hb => Nat.lt_of_lt_of_le hb.2 hB1) (fun _ _ _ => rfl)
  have HV : Hid (∀ w', Below B w w' → Vts anyB w' A1 e.block.votes) := fun w' h => hv0.mono (fun _ _ => trivial) (fun b hb _ => h.block b hb)
  have HP : Hid (∀ w', Below B w w' → Pfs (· < B) w' A2 e.block.proofs) := fun w' h => hp0.mono (fun _ x => x) (fun b hb _ => h.block b hb)
  have hbB1 : Below B w W1 := (below_trans hb0 hb1).mono hB2
  clear hv0 hp0 hr0v hr0p hr0 hb1 hb0
  have hPB : B ≤ W0.heap.size + 1 := by omega
  generalize W0.heap.size + 1 = Pb at hbk hPB ⊢
  generalize W0.heap.size = B0 at ho1 ⊢
  have hBs1 : B ≤ W1.heap.size := Nat.le_trans hB2 hbB1.size
  clear hsz1 hBlt
  have g0 := blk_cell hbk 0
  have g1 := blk_cell hbk 1
  have g2 := blk_cell hbk 2
  have g3 := blk_cell hbk 3
  have g4 := blk_cell hbk 4
  simp only [List.getElem?_toArray, List.getElem?_cons_zero, List.getElem?_cons_succ] at g0 g1 g2 g3 g4
  have HO := Lib.hid ho1
  have HBK := Lib.hid hbk
  have hPl := blk_lt hbk
  clear ho1 hbk
  go_upto_region 11 with (at_builtin; refine wpList_app B rfl _ _ 57 27 (.int .u64 0) 1 8 rfl Tryd.underlying57 infoU64 rfl (by decide) _ 1 (u64s [1]) rfl (World.ownsRow.alloc HO.out _) (some ⟨W1.heap.size, 0, none⟩) 5 5 (u64s [e.block.root, e.block.parent, e.block.slot, (e.block.votes.length : Int), (e.block.proofs.length : Int)]) rfl rfl (Flat.of_ints (ints_blk [e.block.root, e.block.parent, e.block.slot, (e.block.votes.length : Int), (e.block.proofs.length : Int)] (heap_new _ _))) (by simp [Value.oneCell']) (by omega) (by omega) (by simp; omega) ?_; intro A6 c6 w2 ho2 hg2 _)
  have hbB2 : Below B w w2 := (below_alloc' hbB1 hB2 _).grown hg2 (by simp; omega) (own_base HO.out)
  have hbk2 : w2.heap[Pb]? = some (.cells #[.int .u64 e.block.root, .int .u64 e.block.parent, .int .i64 e.block.slot, .slice A1 e.block.votes.length c1, .slice A2 e.block.proofs.length c2] 31 (0, 0)) := blk_app (blk_below HBK.out (below_alloc (Below.refl _ _) _)) (World.ownsRow.alloc HO.out _) (by decide) hg2
  obtain ⟨L, HL⟩ : ∃ L, Hid (L = [1, e.block.root, e.block.parent, e.block.slot, (e.block.votes.length : Int), (e.block.proofs.length : Int)]) := ⟨_, rfl⟩
  have hLl : L.length = 6 := by rw [HL.out]; rfl
  have ho2' : Own64 B w2 A6 6 c6 L := by rw [HL.out]; exact ho2
  have g3 := blk_cell hbk2 3
  simp only [List.getElem?_toArray, List.getElem?_cons_zero, List.getElem?_cons_succ] at g3
  have HBK2 := Lib.hid hbk2
  have HO2 := Lib.hid ho2'
  have HLl := Lib.hid hLl
  clear g0 g1 g2 g4 hbk2 ho2' ho2 hg2 HBK HO hbB1 hBs1 hPl hLl
  go_wp2
  go_loopw [66, 3] (fun i s wr => ∃ k : Nat, k ≤ e.block.votes.length ∧ i = .int .i64 k ∧ (∃ A' n' c', s = .slice A' n' c' ∧ Own64 B wr A' n' c' (L ++ (e.block.votes.take k).flatMap voteN)) ∧ wr.heap[Pb]? = some (.cells #[.int .u64 e.block.root, .int .u64 e.block.parent, .int .i64 e.block.slot, .slice A1 e.block.votes.length c1, .slice A2 e.block.proofs.length c2] 31 (0, 0)) ∧ Below B w wr) (fun i _ _ => e.block.votes.length - (intOf i).toNat)
  case atStart => exact ⟨0, Nat.zero_le _, rfl, ⟨A6, 6, c6, rfl, by simpa using HO2.out⟩, HBK2.out, hbB2⟩
  case round =>
    clear hbB2 g3
    obtain ⟨k, hk, rfl, ⟨A', n', c', rfl, ho⟩, hbk, hbr⟩ := hrel
    have HO := Lib.hid ho
    have HBK := Lib.hid hbk
    clear ho hbk
    by_cases hlt : k < e.block.votes.length
    · obtain ⟨v, hx⟩ : ∃ v, e.block.votes[k]? = some v := ⟨_, List.getElem?_eq_getElem hlt⟩
      obtain ⟨bb, o, rfl, _, A1', c1', hf, hi, hc⟩ := (HV.out _ hbr).get hx
      have hvl := voteB_who (list_all_get HAV.out hx)
      have HX := Lib.hid (flatMap_take_succ voteN hx)
      have HNL : Hid (n' ≤ 6 + 16 * 4103) := by
        show _ ≤ _
        have h1 := HO.out.len
        rw [List.length_append, HLl.out] at h1
        have h2 := flatMap_take_le voteN 4103 e.block.votes k (fun x hx => voteN_le (List.all_eq_true.1 HAV.out x hx)) hk
        have h3 := Nat.mul_le_mul_right 4103 (show k ≤ 16 by omega)
        omega
      clear hx
      obtain ⟨hc0, hc1, hc2, hc3, hc4', hc5, hc6⟩ := hc
      go_wp2_with (first
        | (go_at_call 23; refine (l04vote_calls _ v A1' c1' (Ints.below hi (below_alloc (Below.refl _ _) _)) (by omega)).mono ?_; rintro en w3 ⟨Ra, na, ca, rfl, hoa, hb3⟩)
        | (at_builtin; refine wpList_app B rfl _ _ 57 27 (.int .u64 0) 1 8 rfl Tryd.underlying57 infoU64 rfl (by decide) _ n' _ rfl (own_below (World.ownsRow.alloc HO.out _) hb3) Ra na ca (u64s (voteN v)) rfl hoa.1 (Flat.of_ints (Ints.of_own hoa)) (by simp [Value.oneCell']) (by have h1 := HNL.out; have h2 := hoa.1; simp [voteN_length] at h2; omega) (by have h1 := HNL.out; have h2 := hoa.1; simp [voteN_length] at h2; omega) (by have h1 := hbr.size; have h2 := hb3.size; simp at h2; omega) ?_; intro A7 c7 w4 ho4 hg4 _))
      have hb13 := below_trans (below_alloc (Below.refl wr.heap.size wr) _) hb3
      go_roundw
      case rel =>
        refine ⟨k + 1, by omega, by go_num, ⟨A7, _, c7, rfl, ?_⟩, blk_app (blk_below HBK.out hb13) (own_below HO.out hb13) (by decide) hg4, (hbr.trans (hb13.mono (Nat.le_trans hB2 hbr.size))).grown hg4 (Nat.le_trans hB2 (hbr.trans (hb13.mono (Nat.le_trans hB2 hbr.size))).size) (own_base HO.out)⟩
        rw [HX.out, ← List.append_assoc]
        show World.ownsRow _ _ _ _ _ _ _
        rw [u64s, List.map_append]
        exact ho4
      case measure => simp [intOf]; omega
    · obtain rfl : k = e.block.votes.length := by omega
      rw [List.take_length] at HO
      obtain ⟨wo, rfl⟩ : ∃ wo : World, wo = wr := ⟨_, rfl⟩
      have HB0 := Lib.hid hbr
      have g4 := blk_cell HBK.out 4
      simp only [List.getElem?_toArray, List.getElem?_cons_zero, List.getElem?_cons_succ] at g4
      have hNL : n' ≤ 6 + 16 * 4103 := by
        have h1 := HO.out.len
        rw [List.length_append, HLl.out] at h1
        have h2 := flatMap_take_le voteN 4103 e.block.votes e.block.votes.length (fun x hx => voteN_le (List.all_eq_true.1 HAV.out x hx)) (Nat.le_refl _)
        rw [List.take_length] at h2
        have h3 := Nat.mul_le_mul_right 4103 (show e.block.votes.length ≤ 16 by omega)
        omega
      clear hbr HO2 HBK2 hlt hk
      go_wp2
      go_loopw [78, 3] (fun i s wr => ∃ k : Nat, k ≤ e.block.proofs.length ∧ i = .int .i64 k ∧ (∃ A' n' c', s = .slice A' n' c' ∧ Own64 B wr A' n' c' ((L ++ e.block.votes.flatMap voteN) ++ (e.block.proofs.take k).flatMap proofN)) ∧ Below B w wr) (fun i _ _ => e.block.proofs.length - (intOf i).toNat)
      case atStart => exact ⟨0, Nat.zero_le _, rfl, ⟨A', n', c', rfl, by simpa using HO.out⟩, HB0.out⟩
      case round =>
        have HL1 : Hid (L.length + (e.block.votes.flatMap voteN).length ≤ 6 + 16 * 4103) := by
          show _ ≤ _
          have h1 := HO.out.len
          rw [List.length_append] at h1
          omega
        clear HO HBK HB0 hNL g4
        obtain ⟨k, hk, rfl, ⟨A', n', c', rfl, ho⟩, hbr⟩ := hrel
        have HO := Lib.hid ho
        clear ho
        by_cases hlt : k < e.block.proofs.length
        · obtain ⟨v, hx⟩ : ∃ v, e.block.proofs[k]? = some v := ⟨_, List.getElem?_eq_getElem hlt⟩
          obtain ⟨bb, o, rfl, _, A3', c3', A4', c4', hf, hi, hc, hf2, hi2, hc'⟩ := (HP.out _ hbr).get hx
          have hpb := list_all_get HAP.out hx
          simp only [proofB, Bool.and_eq_true] at hpb
          have hla := voteB_who hpb.1
          have hlb := voteB_who hpb.2
          clear hpb
          have HX := Lib.hid (flatMap_take_succ proofN hx)
          have HNL : Hid (n' ≤ 6 + 16 * 4103 + 16 * 8206) := by
            show _ ≤ _
            have h1 := HO.out.len
            rw [List.length_append, List.length_append] at h1
            have h2 := flatMap_take_le proofN 8206 e.block.proofs k (fun x hx => by have h := List.all_eq_true.1 HAP.out x hx; simp only [proofB, Bool.and_eq_true] at h; have a := voteN_le h.1; have b := voteN_le h.2; rw [proofN, List.length_append]; omega) hk
            have h3 := Nat.mul_le_mul_right 8206 (show k ≤ 16 by omega)
            have h4 := HL1.out
            omega
          clear hx
          obtain ⟨hc0, hc1, hc2, hc3, hc4', hc5, hc6⟩ := hc
          obtain ⟨hd0, hd1, hd2, hd3, hd4', hd5, hd6⟩ := hc'
          go_upto_region 19 with fail
          generalize hW2 : wr.alloc (Obj.cells _ 38) = W2
          have hpx : W2.heap[wr.heap.size]? = some (.cells #[.int .i64 v.a.slot, .int .u64 v.a.head, .int .i64 v.a.src.e, .int .u64 v.a.src.r, .int .i64 v.a.tgt.e, .int .u64 v.a.tgt.r, .slice A3' v.a.who.length c3', .int .i64 v.b.slot, .int .u64 v.b.head, .int .i64 v.b.src.e, .int .u64 v.b.src.r, .int .i64 v.b.tgt.e, .int .u64 v.b.tgt.r, .slice A4' v.b.who.length c4'] 38 (0, 0)) := by rw [← hW2]; exact heap_new _ _
          have hbw2 : Below wr.heap.size wr W2 := by rw [← hW2]; exact below_alloc (Below.refl _ _) _
          clear hW2 hc0 hc1 hc2 hc3 hc4' hc5 hc6 hd0 hd1 hd2 hd3 hd4' hd5 hd6
          have hia : Ints anyB .i64 W2 A3' v.a.who := (Ints.below hi hbw2).any
          have H5 : Hid (∀ w2 w3, Below W2.heap.size W2 w2 → Below B w2 w3 → Ints anyB .i64 w3 A4' v.b.who) := fun w2 w3 x y => Lie.mono hi2 (fun _ _ _ x => x) (fun _ _ => trivial) (fun i hi hi' => ((y.block i hi).trans (x.block i (Nat.lt_of_lt_of_le hi' hbw2.size))).trans (hbw2.block i hi'))
          have HO1 : Hid (Own64 B W2 A' n' c' ((L ++ e.block.votes.flatMap voteN) ++ (e.block.proofs.take k).flatMap proofN)) := own_below HO.out hbw2
          have hbB1 : Below B w W2 := hbr.trans (hbw2.mono (Nat.le_trans hB2 hbr.size))
          have hBs1 : B ≤ W2.heap.size := Nat.le_trans hB2 hbB1.size
          clear hi hi2 HO hbw2
          generalize wr.heap.size = Px at hpx ⊢
          have HPX := Lib.hid hpx
          obtain ⟨a0, a1, a2, a3, a4, a5, a6⟩ : VtAt W2 Px 0 v.a A3' c3' := ⟨blk_cell hpx 0, blk_cell hpx 1, blk_cell hpx 2, blk_cell hpx 3, blk_cell hpx 4, blk_cell hpx 5, blk_cell hpx 6⟩
          obtain ⟨b0, b1, b2, b3, b4, b5, b6⟩ : VtAt W2 Px 7 v.b A4' c4' := ⟨blk_cell hpx 7, blk_cell hpx 8, blk_cell hpx 9, blk_cell hpx 10, blk_cell hpx 11, blk_cell hpx 12, blk_cell hpx 13⟩
          simp only [Nat.zero_add, Nat.reduceAdd] at a1 a2 a3 a4 a5 a6 b1 b2 b3 b4 b5 b6
          clear hpx
          have HK : Hid (∀ w', w'.heap[Px]? = some (.cells #[.int .i64 v.a.slot, .int .u64 v.a.head, .int .i64 v.a.src.e, .int .u64 v.a.src.r, .int .i64 v.a.tgt.e, .int .u64 v.a.tgt.r, .slice A3' v.a.who.length c3', .int .i64 v.b.slot, .int .u64 v.b.head, .int .i64 v.b.src.e, .int .u64 v.b.src.r, .int .i64 v.b.tgt.e, .int .u64 v.b.tgt.r, .slice A4' v.b.who.length c4'] 38 (0, 0)) → VtAt w' Px 0 v.a A3' c3' ∧ VtAt w' Px 7 v.b A4' c4') := fun w' h => ⟨⟨blk_cell h 0, blk_cell h 1, blk_cell h 2, blk_cell h 3, blk_cell h 4, blk_cell h 5, blk_cell h 6⟩, ⟨blk_cell h 7, blk_cell h 8, blk_cell h 9, blk_cell h 10, blk_cell h 11, blk_cell h 12, blk_cell h 13⟩⟩
          have tok1 : True := trivial
          have tok2 : True := trivial
          go_region_held3 (fun w' => (w'.cell? ⟨Px, 0, none⟩ = some (.int .i64 v.a.slot) ∧ w'.cell? ⟨Px, 1, none⟩ = some (.int .u64 v.a.head) ∧ w'.cell? ⟨Px, 2, none⟩ = some (.int .i64 v.a.src.e) ∧ w'.cell? ⟨Px, 3, none⟩ = some (.int .u64 v.a.src.r) ∧ w'.cell? ⟨Px, 4, none⟩ = some (.int .i64 v.a.tgt.e) ∧ w'.cell? ⟨Px, 5, none⟩ = some (.int .u64 v.a.tgt.r) ∧ w'.cell? ⟨Px, 6, none⟩ = some (.slice A3' v.a.who.length c3')) ∧ (w'.cell? ⟨Px, 7, none⟩ = some (.int .i64 v.b.slot) ∧ w'.cell? ⟨Px, 8, none⟩ = some (.int .u64 v.b.head) ∧ w'.cell? ⟨Px, 9, none⟩ = some (.int .i64 v.b.src.e) ∧ w'.cell? ⟨Px, 10, none⟩ = some (.int .u64 v.b.src.r) ∧ w'.cell? ⟨Px, 11, none⟩ = some (.int .i64 v.b.tgt.e) ∧ w'.cell? ⟨Px, 12, none⟩ = some (.int .u64 v.b.tgt.r) ∧ w'.cell? ⟨Px, 13, none⟩ = some (.slice A4' v.b.who.length c4'))) (first | exact hkA | exact hkB | exact hkC | exact hkD | go_keep)
            (first
              | (go_at_call 23; have _t := tok1; refine (l04vote_calls _ v.a A3' c3' (Ints.below hia (Below.refl _ _).drew) (by omega)).mono ?_; rintro en w2 ⟨Ra, na, ca, rfl, hoa, hb2'⟩; have hb2 := undrew hb2'; have hla2 : na = 7 + v.a.who.length := (by have := hoa.1; simp [voteN_length] at this; exact this.symm); have HLA := Lib.hid hla2; clear hla2; have HPX2 := Lib.hid (blk_below HPX.out hb2); have hkA := HK.out _ HPX2.out; clear _t tok1)
              | (have _t := tok2; refine step_app B (by rfl) (.tmp 82) (.tmp 85) 57 27 (.int .u64 0) 1 8 (by rfl) Tryd.underlying57 infoU64 rfl (by decide) _ n' _ (by rfl) (own_below HO1.out hb2) Ra na ca (u64s (voteN v.a)) (by rfl) hoa.1 (Flat.of_ints (Ints.of_own hoa)) (by simp [Value.oneCell']) (by have := HLA.out; have := HNL.out; omega) (by have := HLA.out; have := HNL.out; omega) (Nat.le_trans hBs1 hb2.size) ?_; intro A6 c6 w3 ho3 hg3 _; have hb3 : Below B w2 w3 := (Below.refl _ _).grown hg3 (Nat.le_trans hBs1 hb2.size) (own_base HO1.out); have HPX3 := Lib.hid (blk_app HPX2.out (own_below HO1.out hb2) (by decide) hg3); have hkB := HK.out _ HPX3.out; have hbB3 : Below B w w3 := (hbB1.trans (hb2.mono (Nat.le_trans hB2 hbB1.size))).trans hb3; clear _t tok2)
              | (go_at_call 23; have _t := hkB; refine (l04vote_calls _ v.b A4' c4' (H5.out _ _ hb2 hb3) (by omega)).mono ?_; rintro en w4 ⟨Rb, nb, cb, rfl, hob, hb4⟩; have hlb2 : nb = 7 + v.b.who.length := (by have := hob.1; simp [voteN_length] at this; exact this.symm); have HLB := Lib.hid hlb2; clear hlb2; have HPX4 := Lib.hid (blk_below HPX3.out hb4); have hkC := HK.out _ HPX4.out; clear _t hkB)
              | (refine step_app B (by rfl) (.tmp 86) (.tmp 89) 57 27 (.int .u64 0) 1 8 (by rfl) Tryd.underlying57 infoU64 rfl (by decide) _ (n' + na) _ (by rfl) (own_below ho3 hb4) Rb nb cb (u64s (voteN v.b)) (by rfl) hob.1 (Flat.of_ints (Ints.of_own hob)) (by simp [Value.oneCell']) (by have := HLA.out; have := HLB.out; have := HNL.out; omega) (by have := HLA.out; have := HLB.out; have := HNL.out; omega) (Nat.le_trans (Nat.le_trans (Nat.le_trans hBs1 hb2.size) hb3.size) hb4.size) ?_; intro A7 c7 w5 ho5 hg5 _; have hb5 : Below B w4 w5 := (Below.refl _ _).grown hg5 (Nat.le_trans (Nat.le_trans (Nat.le_trans hBs1 hb2.size) hb3.size) hb4.size) (own_base ho3); have hkD := HK.out _ (blk_app HPX4.out (own_below ho3 hb4) (by decide) hg5)))
          go_wp2
          go_roundw
          case rel =>
            refine ⟨k + 1, by omega, by go_num, ⟨A7, _, c7, rfl, ?_⟩, (hbB3.trans (hb4.mono (Nat.le_trans hB2 hbB3.size))).trans hb5⟩
            rw [HX.out, proofN]
            show World.ownsRow _ _ _ _ _ _ _
            simpa [u64s, List.append_assoc] using ho5
          case measure => simp [intOf]; omega
        · obtain rfl : k = e.block.proofs.length := by omega
          rw [List.take_length] at HO
          go_wp2
          go_ret
          refine ⟨A', _, c', rfl, ?_, hbr⟩
          rw [hev.out]
          have := HO.out
          rw [HL.out] at this
          simpa [List.append_assoc] using this
end Go.Proofs.YtccficljaomhhaaDoor
