/- wire: which events may have bytes: small, vote, block, May. -/
import Derived.Test.YtccficljaomhhaaDoorProg
import Derived.Test.YtccficljaomhhaaDoorEvt
import Derived.KernelRfl
import Derived.WalkSpells
import Derived.WalkLawsBesides
namespace Go.Proofs.YtccficljaomhhaaDoor
open Go.RowKit
def smallB (ns : List Int) : Bool := ns.all fun n => decide (0 ≤ n) && decide (n ≤ 1099511627776)
def whoB (ns : List Int) : Bool := ns.all fun n => decide (0 ≤ n) && decide (n < 4096)
def voteB (v : Vt) : Bool := smallB [v.slot, v.src.e, v.tgt.e] && decide (v.who.length ≤ 4096) && whoB v.who
theorem all_snoc {p : Int → Bool} {ns : List Int} {k : Nat} (h : (ns.take k).all p = true) (hk : k < ns.length) (hp : p (ns[k]?.getD 0) = true) : (ns.take (k + 1)).all p = true := by
  rw [List.take_add_one, List.all_append, h, List.getElem?_eq_getElem hk]
  simpa [List.getElem?_eq_getElem hk] using hp
theorem all_not {α : Type} {p : α → Bool} {ns : List α} {k : Nat} {x : α} (hx : ns[k]? = some x) (hp : p x = false) : ns.all p = false := by
  rw [List.all_eq_false]
  exact ⟨x, List.mem_of_getElem? hx, by simp [hp]⟩
theorem getD_some {α : Type} {ns : List α} {k : Nat} (d : α) (hk : k < ns.length) : ns[k]? = some (ns[k]?.getD d) := by simp [List.getElem?_eq_getElem hk]
set_option maxHeartbeats 400000 in
theorem wsmall_calls (w : World) (A : Option Addr) (c : Nat) (ns : List Int) (hn : Ints anyB .i64 w A ns) (hl : ns.length ≤ maxLen) :
    Calls Tryd.prog 31 #[.slice A ns.length c] w fun e w' => e = .returned (.bool (smallB ns)) ∧ w = w' := by
  unfold maxLen at hl
  have HN : Hid (∀ j : Nat, j < ns.length → ∃ b o, A = some ⟨b, o, none⟩ ∧ anyB b ∧ w.cell? ⟨b, o + j, none⟩ = some (.int .i64 (ns.getD j 0))) := fun j hj => hn.get hj
  clear hn
  go_enter Tryd.func31, Tryd.ntmps31
  go_wp2
  go_loop [7] (fun i => ∃ k : Nat, k ≤ ns.length ∧ i = .int .i64 k ∧ Hid (smallB (ns.take k) = true)) (fun i => ns.length - (intOf i).toNat)
  case atStart => exact ⟨0, Nat.zero_le _, rfl, rfl⟩
  case round =>
    obtain ⟨k, hk, rfl, HS⟩ := hrel
    by_cases hlt : k < ns.length
    · obtain ⟨b, o, rfl, _, hc⟩ := HN.out k hlt
      obtain ⟨x, hx⟩ : ∃ x, x = ns[k]?.getD 0 := ⟨_, rfl⟩
      rw [List.getD_eq_getElem?_getD, ← hx] at hc
      have HX : Hid (ns[k]? = some x) := by rw [hx]; exact getD_some 0 hlt
      clear hx
      by_cases h1 : x < 0
      · go_wp2
        go_ret
        exact ⟨ret_bool (all_not HX.out (by simp; omega)).symm, rfl⟩
      · by_cases h2 : x > 1099511627776
        · go_wp2
          go_ret
          exact ⟨ret_bool (all_not HX.out (by simp; omega)).symm, rfl⟩
        · go_wp2
          go_round
          case rel => exact ⟨k + 1, by omega, by go_num, all_snoc HS.out hlt (by rw [HX.out]; simp; omega)⟩
          case measure => simp [intOf]; omega
    · go_wp2
      go_ret
      obtain rfl : k = ns.length := by omega
      have := HS.out
      rw [List.take_length] at this
      exact ⟨ret_bool this.symm, rfl⟩
theorem smallB_three (a b c : Int) : smallB [a, b, c] = (decide (0 ≤ a) && decide (a ≤ 1099511627776) && (decide (0 ≤ b) && decide (b ≤ 1099511627776)) && (decide (0 ≤ c) && decide (c ≤ 1099511627776))) := by simp [smallB, Bool.and_assoc]
set_option maxHeartbeats 400000 in
theorem wvote_calls (w : World) (v : Vt) (A : Option Addr) (c : Nat) (hi : Ints anyB .i64 w A v.who) (hl : v.who.length ≤ maxLen) :
    Calls Tryd.prog 33 #[.agg #[.int .i64 v.slot, .int .u64 v.head, .int .i64 v.src.e, .int .u64 v.src.r, .int .i64 v.tgt.e, .int .u64 v.tgt.r, .slice A v.who.length c]] w fun e w' => e = .returned (.bool (voteB v)) ∧ Below w.heap.size w w' := by
  unfold maxLen at hl
  obtain ⟨B, HB, hB1, hB2⟩ := size_hid w
  rw [HB.out]
  have HN : Hid (∀ j : Nat, j < v.who.length → ∃ b o, A = some ⟨b, o, none⟩ ∧ anyB b ∧ w.cell? ⟨b, o + j, none⟩ = some (.int .i64 (v.who.getD j 0))) := fun j hj => hi.get hj
  clear hi
  have HS : Hid (smallB [v.slot, v.src.e, v.tgt.e] = true) ∨ smallB [v.slot, v.src.e, v.tgt.e] = false := by
    cases h : smallB [v.slot, v.src.e, v.tgt.e]
    · exact .inr rfl
    · exact .inl rfl
  rcases HS with HS | hS
  · have hs := HS.out
    by_cases hL : v.who.length ≤ 4096
    · go_enter Tryd.func33, Tryd.ntmps33
      go_wp2_with (go_at_call 31; refine (wsmall_calls _ _ _ [v.slot, v.src.e, v.tgt.e] (ints_blk _ (heap_new1 _ _ _)) (by simp [maxLen])).mono ?_; rintro e w1 ⟨rfl, rfl⟩)
      clear hs
      have HB2 : Below B w ((w.alloc (.cells #[.int .i64 v.slot, .int .u64 v.head, .int .i64 v.src.e, .int .u64 v.src.r, .int .i64 v.tgt.e, .int .u64 v.tgt.r, .slice A v.who.length c] 36)).alloc (.cells #[.int .i64 v.slot, .int .i64 v.src.e, .int .i64 v.tgt.e] 3)) := below_alloc' (below_alloc' (Below.refl _ _) hB2 _) hB2 _
      obtain ⟨W, hW⟩ : ∃ W, W = ((w.alloc (.cells #[.int .i64 v.slot, .int .u64 v.head, .int .i64 v.src.e, .int .u64 v.src.r, .int .i64 v.tgt.e, .int .u64 v.tgt.r, .slice A v.who.length c] 36)).alloc (.cells #[.int .i64 v.slot, .int .i64 v.src.e, .int .i64 v.tgt.e] 3)) := ⟨_, rfl⟩
      rw [← hW] at HB2 ⊢
      clear hW
      go_loop [25] (fun i => ∃ k : Nat, k ≤ v.who.length ∧ i = .int .i64 k ∧ Hid (whoB (v.who.take k) = true)) (fun i => v.who.length - (intOf i).toNat)
      case atStart => exact ⟨0, Nat.zero_le _, rfl, rfl⟩
      case round =>
        obtain ⟨k, hk, rfl, HW⟩ := hrel
        by_cases hlt : k < v.who.length
        · obtain ⟨b, o, rfl, _, hc0⟩ := HN.out k hlt
          have hc := cell_below (w1 := W) hc0 (HB2.mono hB1)
          clear hc0
          obtain ⟨x, hx⟩ : ∃ x, x = v.who[k]?.getD 0 := ⟨_, rfl⟩
          rw [List.getD_eq_getElem?_getD, ← hx] at hc
          have HX : Hid (v.who[k]? = some x) := by rw [hx]; exact getD_some 0 hlt
          clear hx
          by_cases h1 : x < 0
          · go_wp2
            go_ret
            exact ⟨ret_bool (by rw [voteB, whoB, all_not HX.out (by simp; omega)]; simp), HB2⟩
          · by_cases h2 : 4096 ≤ x
            · go_wp2
              go_ret
              exact ⟨ret_bool (by rw [voteB, whoB, all_not HX.out (by simp; omega)]; simp), HB2⟩
            · go_wp2
              go_round
              case rel => exact ⟨k + 1, by omega, by go_num, all_snoc HW.out hlt (by rw [HX.out]; simp; omega)⟩
              case measure => simp [intOf]; omega
        · go_wp2
          go_ret
          obtain rfl : k = v.who.length := by omega
          have := HW.out
          rw [List.take_length] at this
          exact ⟨ret_bool (by rw [voteB, HS.out, this]; simp [hL]), HB2⟩
    · go_enter Tryd.func33, Tryd.ntmps33
      go_wp2_with (go_at_call 31; refine (wsmall_calls _ _ _ [v.slot, v.src.e, v.tgt.e] (ints_blk _ (heap_new1 _ _ _)) (by simp [maxLen])).mono ?_; rintro e w1 ⟨rfl, rfl⟩)
      go_ret
      exact ⟨ret_bool (by rw [voteB]; simp [hL]), below_alloc' (below_alloc' (Below.refl _ _) hB2 _) hB2 _⟩
  · go_enter Tryd.func33, Tryd.ntmps33
    go_wp2_with (go_at_call 31; refine (wsmall_calls _ _ _ [v.slot, v.src.e, v.tgt.e] (ints_blk _ (heap_new1 _ _ _)) (by simp [maxLen])).mono ?_; rintro e w1 ⟨rfl, rfl⟩)
    go_ret
    exact ⟨ret_bool (by rw [voteB, hS]; simp), below_alloc' (below_alloc' (Below.refl _ _) hB2 _) hB2 _⟩
theorem wsmall1 (w : World) (A : Option Addr) (c : Nat) (n : Int) (hn : Ints anyB .i64 w A [n]) :
    Calls Tryd.prog 31 #[.slice A 1 c] w fun e w' => e = .returned (.bool (decide (0 ≤ n) && decide (n ≤ 1099511627776))) ∧ w = w' :=
  (wsmall_calls w A c [n] hn (by simp [maxLen])).mono fun e w' ⟨h1, h2⟩ => ⟨by rw [h1]; simp [smallB], h2⟩
def proofB (p : Pf) : Bool := voteB p.a && voteB p.b
def blockB (b : Bk) : Bool := (decide (0 ≤ b.slot) && decide (b.slot ≤ 1099511627776)) && decide (b.votes.length ≤ 16) && decide (b.proofs.length ≤ 16) && b.votes.all voteB && b.proofs.all proofB
set_option maxHeartbeats 400000 in
theorem wblock_calls (w : World) (b : Bk) (A : Option Addr) (c : Nat) (A2 : Option Addr) (c2 : Nat) (hv : Vts anyB w A b.votes) (hp : Pfs anyB w A2 b.proofs) (hl : b.votes.length ≤ maxLen) (hl2 : b.proofs.length ≤ maxLen) :
    Calls Tryd.prog 32 #[.agg #[.int .u64 b.root, .int .u64 b.parent, .int .i64 b.slot, .slice A b.votes.length c, .slice A2 b.proofs.length c2]] w fun e w' => e = .returned (.bool (blockB b)) ∧ Below w.heap.size w w' := by
  unfold maxLen at hl hl2
  obtain ⟨B, HB, hB1, hB2⟩ := size_hid w
  rw [HB.out]
  have HS : Hid ((decide (0 ≤ b.slot) && decide (b.slot ≤ 1099511627776)) = true) ∨ (decide (0 ≤ b.slot) && decide (b.slot ≤ 1099511627776)) = false := by
    cases h : (decide (0 ≤ b.slot) && decide (b.slot ≤ 1099511627776))
    · exact .inr rfl
    · exact .inl rfl
  rcases HS with HS | hS
  · have HS' : Hid (0 ≤ b.slot ∧ b.slot ≤ 1099511627776) := by have := HS.out; show _ ∧ _; simpa using this
    have hs0 : 0 ≤ b.slot := by have := HS.out; simp at this; exact this.1
    have hs1 : b.slot ≤ 1099511627776 := by have := HS.out; simp at this; exact this.2
    by_cases hL : b.votes.length ≤ 16
    · by_cases hL2 : b.proofs.length ≤ 16
      · go_enter Tryd.func32, Tryd.ntmps32
        go_wp2_with (go_at_call 31; refine (wsmall1 _ _ _ b.slot (ints_blk _ (heap_new1 _ _ _))).mono ?_; rintro e w1 ⟨rfl, rfl⟩)
        clear hs0 hs1
        rw [HB.out]
        have hc4 : ((w.alloc (.cells #[.int .u64 b.root, .int .u64 b.parent, .int .i64 b.slot, .slice A b.votes.length c, .slice A2 b.proofs.length c2] 31)).alloc (.cells #[.int .i64 b.slot] 3)).cell? ⟨B, 4, none⟩ = some (.slice A2 b.proofs.length c2) := by rw [← HB.out]; simp
        have hbw := below_alloc (below_alloc (Below.refl w.heap.size w) (.cells #[.int .u64 b.root, .int .u64 b.parent, .int .i64 b.slot, .slice A b.votes.length c, .slice A2 b.proofs.length c2] 31)) (.cells #[.int .i64 b.slot] 3)
        have hBs : B < ((w.alloc (.cells #[.int .u64 b.root, .int .u64 b.parent, .int .i64 b.slot, .slice A b.votes.length c, .slice A2 b.proofs.length c2] 31)).alloc (.cells #[.int .i64 b.slot] 3)).heap.size := cell_lt hc4
        generalize ((w.alloc (.cells #[.int .u64 b.root, .int .u64 b.parent, .int .i64 b.slot, .slice A b.votes.length c, .slice A2 b.proofs.length c2] 31)).alloc (.cells #[.int .i64 b.slot] 3)) = W at *
        have hvW := hv.below hbw
        have hpW := hp.below hbw
        clear hv hp
        go_loopw [27] (fun i wr => ∃ k : Nat, k ≤ b.votes.length ∧ i = .int .i64 k ∧ Hid ((b.votes.take k).all voteB = true) ∧ Below W.heap.size W wr) (fun i _ => b.votes.length - (intOf i).toNat)
        case atStart => exact ⟨0, Nat.zero_le _, rfl, rfl, Below.refl _ _⟩
        case round =>
          obtain ⟨k, hk, rfl, HK, hbr⟩ := hrel
          by_cases hlt : k < b.votes.length
          · obtain ⟨v, hx⟩ : ∃ v, b.votes[k]? = some v := ⟨_, List.getElem?_eq_getElem hlt⟩
            obtain ⟨bb, o, rfl, _, A1, c1, hf, hi, hc⟩ := (hvW.below hbr).get hx
            have HX := Lib.hid hx
            clear hx
            obtain ⟨hc0, hc1, hc2, hc3, hc4', hc5, hc6⟩ := hc
            cases hvb : voteB v
            · have HV := Lib.hid hvb
              go_wp2_with (go_at_call 33; refine (wvote_calls _ v A1 c1 (Ints.below hi (below_alloc (Below.refl _ _) _)) hf.2).mono ?_; rintro e w1 ⟨rfl, hb1⟩)
              go_ret
              exact ⟨ret_bool (by rw [blockB, all_not HX.out HV.out]; simp), by rw [← HB.out]; exact below_trans (below_trans (below_trans hbw hbr) (below_alloc (Below.refl _ _) _)) hb1⟩
            · have HV := Lib.hid hvb
              go_wp2_with (go_at_call 33; refine (wvote_calls _ v A1 c1 (Ints.below hi (below_alloc (Below.refl _ _) _)) hf.2).mono ?_; rintro e w1 ⟨rfl, hb1⟩)
              go_roundw
              case rel =>
                refine ⟨k + 1, by omega, by go_num, ?_, below_trans (below_trans hbr (below_alloc (Below.refl _ _) _)) hb1⟩
                show List.all _ _ = true
                rw [List.take_add_one, List.all_append, HK.out, HX.out]
                simpa using HV.out
              case measure => simp [intOf]; omega
          · obtain rfl : k = b.votes.length := by omega
            have HK2 : Hid (b.votes.all voteB = true) := by have := HK.out; rwa [List.take_length] at this
            clear HK hk hlt
            have hc4r := cell_below hc4 hbr
            go_wp2
            obtain ⟨wo, rfl⟩ : ∃ wo : World, wo = wr := ⟨_, rfl⟩
            go_loopw [38] (fun i wr => ∃ k : Nat, k ≤ b.proofs.length ∧ i = .int .i64 k ∧ Hid ((b.proofs.take k).all proofB = true) ∧ Below W.heap.size W wr) (fun i _ => b.proofs.length - (intOf i).toNat)
            case atStart => exact ⟨0, Nat.zero_le _, rfl, rfl, hbr⟩
            case round =>
              clear hbr hc4r
              obtain ⟨k, hk, rfl, HK, hbr⟩ := hrel
              by_cases hlt : k < b.proofs.length
              · obtain ⟨v, hx⟩ : ∃ v, b.proofs[k]? = some v := ⟨_, List.getElem?_eq_getElem hlt⟩
                obtain ⟨bb, o, rfl, _, A1, c1, A3, c3, hf, hi, hc, hf2, hi2, hc'⟩ := (hpW.below hbr).get hx
                have HX := Lib.hid hx
                clear hx
                obtain ⟨hc0, hc1, hc2, hc3, hc4', hc5, hc6⟩ := hc
                obtain ⟨hd0, hd1, hd2, hd3, hd4', hd5, hd6⟩ := hc'
                go_wp2_with fail
                generalize hW2 : wr.alloc (Obj.cells _ 38) = W2
                have hbx : VtAt W2 wr.heap.size 7 v.b A3 c3 := by rw [← hW2]; refine ⟨?_, ?_, ?_, ?_, ?_, ?_, ?_⟩ <;> simp
                have hbw2 : Below wr.heap.size wr W2 := by rw [← hW2]; exact below_alloc (Below.refl _ _) _
                clear hW2
                refine (wvote_calls _ v.a A1 c1 (Ints.below hi hbw2) hf.2).mono ?_
                rintro e w1 ⟨rfl, hb1⟩
                have hbx1 := hbx.below hb1
                have hbw1 := below_trans hbw2 hb1
                obtain ⟨he0, he1, he2, he3, he4, he5, he6⟩ := hbx1
                clear hc0 hc1 hc2 hc3 hc4' hc5 hc6 hd0 hd1 hd2 hd3 hd4' hd5 hd6 hbx hb1
                cases hva : voteB v.a
                · have HV := Lib.hid hva
                  go_wp2
                  go_ret
                  exact ⟨ret_bool (by rw [blockB, all_not HX.out (by rw [proofB, HV.out]; rfl)]; simp), by rw [← HB.out]; exact below_trans (below_trans hbw hbr) hbw1⟩
                · have HV := Lib.hid hva
                  cases hvb : voteB v.b
                  · have HV2 := Lib.hid hvb
                    go_wp2_with (go_at_call 33; refine (wvote_calls _ v.b A3 c3 (Ints.below hi2 hbw1) hf2.2).mono ?_; rintro e w2 ⟨rfl, hb2⟩)
                    go_ret
                    exact ⟨ret_bool (by rw [blockB, all_not HX.out (by rw [proofB, HV.out, HV2.out]; rfl)]; simp), by rw [← HB.out]; exact below_trans (below_trans (below_trans hbw hbr) hbw1) hb2⟩
                  · have HV2 := Lib.hid hvb
                    go_wp2_with (go_at_call 33; refine (wvote_calls _ v.b A3 c3 (Ints.below hi2 hbw1) hf2.2).mono ?_; rintro e w2 ⟨rfl, hb2⟩)
                    go_roundw
                    case rel =>
                      refine ⟨k + 1, by omega, by go_num, ?_, below_trans (below_trans hbr hbw1) hb2⟩
                      show List.all _ _ = true
                      rw [List.take_add_one, List.all_append, HK.out, HX.out]
                      simp [proofB, HV.out, HV2.out]
                    case measure => simp [intOf]; omega
              · obtain rfl : k = b.proofs.length := by omega
                have hp2 := HK.out
                rw [List.take_length] at hp2
                have HK3 := Lib.hid hp2
                clear hp2
                go_wp2
                go_ret
                exact ⟨ret_bool (by rw [blockB, HK2.out, HK3.out]; simp [hL, hL2]; exact HS'.out), by rw [← HB.out]; exact below_trans hbw hbr⟩
      · go_enter Tryd.func32, Tryd.ntmps32
        go_wp2_with (go_at_call 31; refine (wsmall1 _ _ _ b.slot (ints_blk _ (heap_new1 _ _ _))).mono ?_; rintro e w1 ⟨rfl, rfl⟩)
        go_ret
        exact ⟨ret_bool (by simp [blockB, hL2]), below_alloc' (below_alloc' (Below.refl _ _) hB2 _) hB2 _⟩
    · go_enter Tryd.func32, Tryd.ntmps32
      go_wp2_with (go_at_call 31; refine (wsmall1 _ _ _ b.slot (ints_blk _ (heap_new1 _ _ _))).mono ?_; rintro e w1 ⟨rfl, rfl⟩)
      go_ret
      exact ⟨ret_bool (by simp [blockB, hL]), below_alloc' (below_alloc' (Below.refl _ _) hB2 _) hB2 _⟩
  · go_enter Tryd.func32, Tryd.ntmps32
    go_wp2_with (go_at_call 31; refine (wsmall1 _ _ _ b.slot (ints_blk _ (heap_new1 _ _ _))).mono ?_; rintro e w1 ⟨rfl, rfl⟩)
    go_ret
    exact ⟨ret_bool (by rw [blockB, hS]; simp), below_alloc' (below_alloc' (Below.refl _ _) hB2 _) hB2 _⟩
end Go.Proofs.YtccficljaomhhaaDoor
