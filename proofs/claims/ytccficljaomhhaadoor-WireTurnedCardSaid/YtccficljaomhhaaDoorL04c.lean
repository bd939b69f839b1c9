/- The statements of layer 4: may. -/
import Derived.Test.YtccficljaomhhaaDoorL04b
namespace Go.Proofs.YtccficljaomhhaaDoor
open Go.RowKit
def bpreB (b : Bk) : Bool := (decide (0 ≤ b.slot) && decide (b.slot ≤ 1099511627776)) && decide (b.votes.length ≤ 16) && decide (b.proofs.length ≤ 16)
set_option maxRecDepth 100000 in
set_option maxHeartbeats 1000000 in
theorem l04may_calls (w : World) (e : Ev) (A1 : Option Addr) (c1 : Nat) (A2 : Option Addr) (c2 : Nat) (A3 : Option Addr) (c3 : Nat) (A4 : Option Addr) (c4 : Nat) (A5 : Option Addr) (c5 : Nat) (hr : EvR anyB w e A1 c1 A2 c2 A3 c3 A4 c4 A5 c5) :
    Calls Tryd.prog 7 #[.agg #[.int .i64 e.kind, .int .i64 e.slot, .int .u64 e.block.root, .int .u64 e.block.parent, .int .i64 e.block.slot, .slice A1 e.block.votes.length c1, .slice A2 e.block.proofs.length c2, .int .i64 e.vote.slot, .int .u64 e.vote.head, .int .i64 e.vote.src.e, .int .u64 e.vote.src.r, .int .i64 e.vote.tgt.e, .int .u64 e.vote.tgt.r, .slice A3 e.vote.who.length c3, .int .i64 e.proof.a.slot, .int .u64 e.proof.a.head, .int .i64 e.proof.a.src.e, .int .u64 e.proof.a.src.r, .int .i64 e.proof.a.tgt.e, .int .u64 e.proof.a.tgt.r, .slice A4 e.proof.a.who.length c4, .int .i64 e.proof.b.slot, .int .u64 e.proof.b.head, .int .i64 e.proof.b.src.e, .int .u64 e.proof.b.src.r, .int .i64 e.proof.b.tgt.e, .int .u64 e.proof.b.tgt.r, .slice A5 e.proof.b.who.length c5]] w fun en w' => en = .returned (.bool (mayB e)) ∧ Below w.heap.size w w' := by
  go_enter Tryd.func7, Tryd.ntmps7
  go_upto_region 1 with fail
  generalize hW0 : w.alloc (Obj.cells _ 40) = W0
  have hb0 : Below w.heap.size w W0 := by rw [← hW0]; exact below_alloc (Below.refl _ _) _
  have hat : EvAt W0 w.heap.size 0 e A1 c1 A2 c2 A3 c3 A4 c4 A5 c5 := EvAt.blk (by rw [← hW0]; exact heap_new _ _)
  clear hW0
  simp only [EvAt, VtAt, Nat.zero_add, Nat.reduceAdd] at hat
  obtain ⟨⟨h0, h1, h2, h3, h4, h5, h6⟩, ⟨h7, h8, h9, h10, h11, h12, h13⟩, ⟨h14, h15, h16, h17, h18, h19, h20⟩, ⟨h21, h22, h23, h24, h25, h26, h27⟩⟩ := hat
  have hr0 := hr.below hb0
  clear hr
  by_cases k0 : e.kind = 0
  · have K0 := Lib.hid k0
    have kb : (e.kind == 0) = true := by simp [k0]
    clear k0 h2 h3 h4 h5 h6 h7 h8 h9 h10 h11 h12 h13 h14 h15 h16 h17 h18 h19 h20 h21 h22 h23 h24 h25 h26 h27
    go_wp2
    all_goals
      go_ret
      exact ⟨ret_bool (by rw [mayB, if_pos K0.out, Bool.eq_iff_iff]; simp; try omega), hb0⟩
  · have kb0 : (e.kind == 0) = false := by simp [k0]
    by_cases k2 : e.kind = 2
    · have K0 := Lib.hid k0
      have K1 : Hid (¬ e.kind = 1) := by show ¬ _; omega
      have K2 := Lib.hid k2
      have kb : (e.kind == 2) = true := by simp [k2]
      clear k0 k2 h1 h2 h3 h4 h5 h6 h14 h15 h16 h17 h18 h19 h20 h21 h22 h23 h24 h25 h26 h27
      go_wp2_with (go_at_call 12; refine (fits_calls _ e.vote _ _ hr0.r3 hr0.f3.2).mono ?_; rintro en w1 ⟨rfl, hb1⟩)
      go_ret
      exact ⟨ret_bool (by rw [mayB, if_neg K0.out, if_neg K1.out, if_pos K2.out]), below_trans hb0 hb1⟩
    · have kb2 : (e.kind == 2) = false := by simp [k2]
      by_cases k3 : e.kind = 3
      · have K0 := Lib.hid k0
        have K1 : Hid (¬ e.kind = 1) := by show ¬ _; omega
        have K2 := Lib.hid k2
        have K3 := Lib.hid k3
        have kb : (e.kind == 3) = true := by simp [k3]
        clear k0 k2 k3 h1 h2 h3 h4 h5 h6 h7 h8 h9 h10 h11 h12 h13
        go_wp2_with fail
        refine (fits_calls _ e.proof.a _ _ hr0.r4 hr0.f4.2).mono ?_
        rintro en w1 ⟨rfl, hb1⟩
        have g21 := cell_below h21 hb1
        have g22 := cell_below h22 hb1
        have g23 := cell_below h23 hb1
        have g24 := cell_below h24 hb1
        have g25 := cell_below h25 hb1
        have g26 := cell_below h26 hb1
        have g27 := cell_below h27 hb1
        have hb01 := below_trans hb0 hb1
        cases hva : voteB e.proof.a
        · have HV := Lib.hid hva
          go_wp2
          go_ret
          exact ⟨ret_bool (by rw [mayB, if_neg K0.out, if_neg K1.out, if_neg K2.out, if_pos K3.out, proofB, HV.out]; rfl), hb01⟩
        · have HV := Lib.hid hva
          go_wp2_with (go_at_call 12; refine (fits_calls _ e.proof.b _ _ (Ints.below hr0.r5 hb1) hr0.f5.2).mono ?_; rintro en w2 ⟨rfl, hb2⟩)
          go_ret
          exact ⟨ret_bool (by rw [mayB, if_neg K0.out, if_neg K1.out, if_neg K2.out, if_pos K3.out, proofB, HV.out]; rfl), below_trans hb01 hb2⟩
      · have kb3 : (e.kind == 3) = false := by simp [k3]
        by_cases k1 : e.kind = 1
        · have K0 := Lib.hid k0
          have K1 := Lib.hid k1
          have kb : (e.kind == 1) = true := by simp [k1]
          clear k0 k1 k2 k3 h1 h7 h8 h9 h10 h11 h12 h13 h14 h15 h16 h17 h18 h19 h20 h21 h22 h23 h24 h25 h26 h27
          go_upto_region 9 with fail
          obtain ⟨p, hp⟩ : ∃ p, p = bpreB e.block := ⟨_, rfl⟩
          have HP := Lib.hid hp
          clear hp
          go_cut [3] (fun s3 w' => s3 = .bool p ∧ W0 = w')
          case first =>
            go_wp2
            all_goals
              go_meet
              case rel =>
                refine ⟨?_, rfl⟩
                rw [HP.out, bpreB]
                congr 1
                rw [Bool.eq_iff_iff]
                simp
                try omega
          case rest =>
            obtain ⟨rfl, rfl⟩ := hcut
            have hm1 := hr0.f1.2
            have hm2 := hr0.f2.2
            unfold maxLen at hm1 hm2
            clear h0 h2 h3 h4
            go_wp2
            go_loopw [67, 3] (fun i s wr => ∃ k : Nat, k ≤ e.block.votes.length ∧ i = .int .i64 k ∧ (∃ q, s = .bool q ∧ Hid (q = (p && (e.block.votes.take k).all voteB))) ∧ Below W0.heap.size W0 wr) (fun i _ _ => e.block.votes.length - (intOf i).toNat)
            case atStart => exact ⟨0, Nat.zero_le _, rfl, ⟨p, rfl, by show _ = _; simp⟩, Below.refl _ _⟩
            case round =>
              obtain ⟨k, hk, rfl, ⟨q, rfl, HQ⟩, hbr⟩ := hrel
              by_cases hlt : k < e.block.votes.length
              · obtain ⟨v, hx⟩ : ∃ v, e.block.votes[k]? = some v := ⟨_, List.getElem?_eq_getElem hlt⟩
                obtain ⟨bb, o, rfl, _, A1', c1', hf, hi, hc⟩ := (hr0.r1.below hbr).get hx
                have HX : Hid ((e.block.votes.take (k + 1)).all voteB = ((e.block.votes.take k).all voteB && voteB v)) := by show _ = _; rw [List.take_add_one, List.all_append, hx]; simp
                clear hx
                obtain ⟨hc0, hc1, hc2, hc3, hc4', hc5, hc6⟩ := hc
                cases q with
                | false =>
                  go_wp2
                  go_roundw
                  case rel => exact ⟨k + 1, by omega, by go_num, ⟨_, rfl, by show _ = _; rw [HX.out, ← Bool.and_assoc, ← HQ.out]; rfl⟩, below_alloc hbr _⟩
                  case measure => simp [intOf]; omega
                | true =>
                  go_wp2_with (go_at_call 12; refine (fits_calls _ v A1' c1' (Ints.below hi (below_alloc (Below.refl _ _) _)) hf.2).mono ?_; rintro en w1 ⟨rfl, hb1⟩)
                  go_roundw
                  case rel => exact ⟨k + 1, by omega, by go_num, ⟨_, rfl, by show _ = _; rw [HX.out, ← Bool.and_assoc, ← HQ.out]; rfl⟩, below_trans (below_alloc hbr _) hb1⟩
                  case measure => simp [intOf]; omega
              · obtain rfl : k = e.block.votes.length := by omega
                rw [List.take_length] at HQ
                have h6r := cell_below h6 hbr
                go_wp2
                obtain ⟨wo, rfl⟩ : ∃ wo : World, wo = wr := ⟨_, rfl⟩
                go_loopw [81, 3] (fun i s wr => ∃ k : Nat, k ≤ e.block.proofs.length ∧ i = .int .i64 k ∧ (∃ q2, s = .bool q2 ∧ Hid (q2 = (q && (e.block.proofs.take k).all proofB))) ∧ Below W0.heap.size W0 wr) (fun i _ _ => e.block.proofs.length - (intOf i).toNat)
                case atStart => exact ⟨0, Nat.zero_le _, rfl, ⟨q, rfl, by show _ = _; simp⟩, hbr⟩
                case round =>
                  clear hbr h6r
                  obtain ⟨k, hk, rfl, ⟨q2, rfl, HQ2⟩, hbr⟩ := hrel
                  by_cases hlt : k < e.block.proofs.length
                  · obtain ⟨v, hx⟩ : ∃ v, e.block.proofs[k]? = some v := ⟨_, List.getElem?_eq_getElem hlt⟩
                    obtain ⟨bb, o, rfl, _, A1', c1', A3', c3', hf, hi, hc, hf2, hi2, hc'⟩ := (hr0.r2.below hbr).get hx
                    have HX : Hid ((e.block.proofs.take (k + 1)).all proofB = ((e.block.proofs.take k).all proofB && proofB v)) := by show _ = _; rw [List.take_add_one, List.all_append, hx]; simp
                    clear hx
                    obtain ⟨hc0, hc1, hc2, hc3, hc4', hc5, hc6⟩ := hc
                    obtain ⟨hd0, hd1, hd2, hd3, hd4', hd5, hd6⟩ := hc'
                    cases q2 with
                    | false =>
                      go_wp2
                      go_roundw
                      case rel => exact ⟨k + 1, by omega, by go_num, ⟨_, rfl, by show _ = _; rw [HX.out, ← Bool.and_assoc, ← HQ2.out]; rfl⟩, below_alloc hbr _⟩
                      case measure => simp [intOf]; omega
                    | true =>
                      go_wp2_with fail
                      generalize hW2 : wr.alloc (Obj.cells _ 38) = W2
                      have hbx : VtAt W2 wr.heap.size 7 v.b A3' c3' := by rw [← hW2]; refine ⟨?_, ?_, ?_, ?_, ?_, ?_, ?_⟩ <;> simp
                      have hbw2 : Below wr.heap.size wr W2 := by rw [← hW2]; exact below_alloc (Below.refl _ _) _
                      clear hW2
                      refine (fits_calls _ v.a A1' c1' (Ints.below hi hbw2) hf.2).mono ?_
                      rintro en w1 ⟨rfl, hb1⟩
                      have hbx1 := hbx.below hb1
                      have hbw1 := below_trans hbw2 hb1
                      obtain ⟨he0, he1, he2, he3, he4, he5, he6⟩ := hbx1
                      clear hc0 hc1 hc2 hc3 hc4' hc5 hc6 hd0 hd1 hd2 hd3 hd4' hd5 hd6 hbx hb1
                      cases hva : voteB v.a
                      · have HV := Lib.hid hva
                        go_wp2
                        go_roundw
                        case rel => exact ⟨k + 1, by omega, by go_num, ⟨_, rfl, by show _ = _; rw [HX.out, ← Bool.and_assoc, ← HQ2.out, proofB, HV.out]; rfl⟩, below_trans hbr hbw1⟩
                        case measure => simp [intOf]; omega
                      · have HV := Lib.hid hva
                        go_wp2_with (go_at_call 12; refine (fits_calls _ v.b A3' c3' (Ints.below hi2 hbw1) hf2.2).mono ?_; rintro en w2 ⟨rfl, hb2⟩)
                        go_roundw
                        case rel => exact ⟨k + 1, by omega, by go_num, ⟨_, rfl, by show _ = _; rw [HX.out, ← Bool.and_assoc, ← HQ2.out, proofB, HV.out]; rfl⟩, below_trans (below_trans hbr hbw1) hb2⟩
                        case measure => simp [intOf]; omega
                  · obtain rfl : k = e.block.proofs.length := by omega
                    rw [List.take_length] at HQ2
                    go_wp2
                    go_ret
                    exact ⟨ret_bool (by rw [HQ2.out, HQ.out, HP.out, mayB, if_neg K0.out, if_pos K1.out, blockB, bpreB]), below_trans hb0 hbr⟩
        · have kb1 : (e.kind == 1) = false := by simp [k1]
          have K0 := Lib.hid k0
          have K1 := Lib.hid k1
          have K2 := Lib.hid k2
          have K3 := Lib.hid k3
          clear k0 k1 k2 k3
          go_wp2
          go_ret
          exact ⟨ret_bool (by rw [mayB, if_neg K0.out, if_neg K1.out, if_neg K2.out, if_neg K3.out]), hb0⟩
end Go.Proofs.YtccficljaomhhaaDoor
