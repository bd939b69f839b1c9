/- The statements of layer 4: fits, may, the numbers of a vote. -/
import Derived.Test.YtccficljaomhhaaDoorL04a
namespace Go.Proofs.YtccficljaomhhaaDoor
open Go.RowKit
def preB (v : Vt) : Bool := smallB [v.slot, v.src.e, v.tgt.e] && decide (v.who.length ≤ 4096)
theorem preB_eq (v : Vt) : preB v = (decide (0 ≤ v.slot) && decide (v.slot ≤ 1099511627776) && decide (0 ≤ v.src.e) && decide (v.src.e ≤ 1099511627776) && decide (0 ≤ v.tgt.e) && decide (v.tgt.e ≤ 1099511627776) && decide (v.who.length ≤ 4096)) := by
  simp [preB, smallB, Bool.and_assoc]
set_option maxHeartbeats 1000000 in
theorem fits_calls (w : World) (v : Vt) (A : Option Addr) (c : Nat) (hi : Ints anyB .i64 w A v.who) (hl : v.who.length ≤ maxLen) :
    Calls Tryd.prog 12 #[.agg #[.int .i64 v.slot, .int .u64 v.head, .int .i64 v.src.e, .int .u64 v.src.r, .int .i64 v.tgt.e, .int .u64 v.tgt.r, .slice A v.who.length c]] w fun e w' => e = .returned (.bool (voteB v)) ∧ Below w.heap.size w w' := by
  unfold maxLen at hl
  have HN : Hid (∀ j : Nat, j < v.who.length → ∃ b o, A = some ⟨b, o, none⟩ ∧ anyB b ∧ w.cell? ⟨b, o + j, none⟩ = some (.int .i64 (v.who.getD j 0))) := fun j hj => hi.get hj
  clear hi
  go_enter Tryd.func12, Tryd.ntmps12
  go_upto_region 1 with fail
  generalize hW0 : w.alloc (Obj.cells _ 36) = W0
  have hb0 : Below w.heap.size w W0 := by rw [← hW0]; exact below_alloc (Below.refl _ _) _
  have hat : VtAt W0 w.heap.size 0 v A c := by rw [← hW0]; refine ⟨?_, ?_, ?_, ?_, ?_, ?_, ?_⟩ <;> simp
  clear hW0
  obtain ⟨h0, h1, h2, h3, h4, h5, h6⟩ := hat
  simp only [Nat.zero_add] at h1 h2 h3 h4 h5 h6
  obtain ⟨p, hp⟩ : ∃ p, p = preB v := ⟨_, rfl⟩
  have HP := Lib.hid hp
  go_cut [3] (fun s3 w' => s3 = .bool p ∧ w' = W0)
  case first =>
    clear hp
    go_wp2
    all_goals
      go_meet
      case rel =>
        refine ⟨?_, rfl⟩
        rw [HP.out, preB_eq]
        congr 1
        rw [Bool.eq_iff_iff]
        simp
        try omega
  case rest =>
    clear hp h0 h1 h2 h3 h4 h5
    obtain ⟨rfl, rfl⟩ := hcut
    go_wp2
    go_loop [47, 3] (fun i s => ∃ k : Nat, k ≤ v.who.length ∧ i = .int .i64 k ∧ ∃ q, s = .bool q ∧ Hid (q = (p && whoB (v.who.take k)))) (fun i _ => v.who.length - (intOf i).toNat)
    case atStart => exact ⟨0, Nat.zero_le _, rfl, p, rfl, by show _ = _; simp [whoB]⟩
    case round =>
      obtain ⟨k, hk, rfl, q, rfl, HQ⟩ := hrel
      by_cases hlt : k < v.who.length
      · obtain ⟨b, o, rfl, _, hc0⟩ := HN.out k hlt
        have hc := cell_below hc0 hb0
        clear hc0
        obtain ⟨x, hx⟩ : ∃ x, x = v.who[k]?.getD 0 := ⟨_, rfl⟩
        rw [List.getD_eq_getElem?_getD, ← hx] at hc
        have HX : Hid (v.who[k]? = some x) := by rw [hx]; exact getD_some 0 hlt
        clear hx
        have hs : Hid (whoB (v.who.take (k + 1)) = (whoB (v.who.take k) && (decide (0 ≤ x) && decide (x < 4096)))) := by
          show _ = _
          rw [whoB, List.take_add_one, List.all_append, HX.out]; simp [whoB]
        cases q with
        | false =>
          go_wp2
          go_round
          case rel => exact ⟨k + 1, by omega, by go_num, _, rfl, by show _ = _; rw [hs.out, ← Bool.and_assoc, ← HQ.out]; rfl⟩
          case measure => simp [intOf]; omega
        | true =>
          by_cases h1 : 0 ≤ x
          · go_wp2
            go_round
            case rel => exact ⟨k + 1, by omega, by go_num, _, rfl, by show _ = _; rw [hs.out, ← Bool.and_assoc, ← HQ.out]; simp [h1]⟩
            case measure => simp [intOf]; omega
          · go_wp2
            go_round
            case rel => exact ⟨k + 1, by omega, by go_num, _, rfl, by show _ = _; rw [hs.out, ← Bool.and_assoc, ← HQ.out]; simp [h1]⟩
            case measure => simp [intOf]; omega
      · obtain rfl : k = v.who.length := by omega
        go_wp2
        go_ret
        refine ⟨ret_bool ?_, hb0⟩
        rw [HQ.out, HP.out, List.take_length]; rfl
theorem infoU64 : (Tryd.prog.info? 27).map (fun i => (i.zero, i.size, i.bytes)) = some (some (.int .u64 0), 1, 8) := by kernel_rfl
theorem w64_id {x : Int} (h0 : 0 ≤ x) (h1 : x ≤ 9223372036854775807) : w64 x = x := by
  unfold w64 IntKind.wrap
  simp [IntKind.bits, IntKind.signed]; omega
abbrev u64s (xs : List Int) : List Value := xs.map (Value.int .u64)
set_option maxHeartbeats 1000000 in
theorem l04vote_calls (w : World) (v : Vt) (A : Option Addr) (c : Nat) (hi : Ints anyB .i64 w A v.who) (hl : v.who.length ≤ 1000000) :
    Calls Tryd.prog 23 #[.agg #[.int .i64 v.slot, .int .u64 v.head, .int .i64 v.src.e, .int .u64 v.src.r, .int .i64 v.tgt.e, .int .u64 v.tgt.r, .slice A v.who.length c]] w fun e w' => ∃ A' n' c', e = .returned (.slice A' n' c') ∧ w'.ownsRow w.heap.size 27 1 (.slice A' n' c') n' (u64s (voteN v)) ∧ Below w.heap.size w w' := by
  have HN : Hid (∀ j : Nat, j < v.who.length → ∃ b o, A = some ⟨b, o, none⟩ ∧ anyB b ∧ w.cell? ⟨b, o + j, none⟩ = some (.int .i64 (v.who.getD j 0))) := fun j hj => hi.get hj
  clear hi
  obtain ⟨B, HB, hB1, hB2⟩ := size_hid w
  rw [HB.out]
  go_enter Tryd.func23, Tryd.ntmps23
  go_wp2
  have hcl : (w.alloc (.cells #[.int .i64 v.slot, .int .u64 v.head, .int .i64 v.src.e, .int .u64 v.src.r, .int .i64 v.tgt.e, .int .u64 v.tgt.r, .slice A v.who.length c] 36)).heap.size = w.heap.size + 1 := by simp
  generalize hW0 : (w.alloc _).alloc (Obj.cells _ 27) = W0
  have hb0 : Below B w W0 := by rw [← hW0]; exact below_alloc' (below_alloc' (Below.refl _ _) hB2 _) hB2 _
  have hown : W0.ownsRow B 27 1 (.slice (some ⟨w.heap.size + 1, 0, none⟩) 7 7) 7 (u64s ((voteN v).take 7)) := by
    have := own_blk (w := W0) (base := B) (b := w.heap.size + 1) (e := 27) (sz := 1) (n := 7) (cs := #[.int .u64 (w64 v.slot), .int .u64 v.head, .int .u64 (w64 v.src.e), .int .u64 v.src.r, .int .u64 (w64 v.tgt.e), .int .u64 v.tgt.r, .int .u64 v.who.length]) (by rw [← hW0]; exact heap_new1 _ _ _) (by omega) rfl (by simp [maxLen])
    have e : w64 (v.who.length : Int) = v.who.length := w64_id (by omega) (by omega)
    simpa [voteN, e] using this
  clear hW0 hcl
  go_loopw [33, 3] (fun i s wr => ∃ k : Nat, k ≤ v.who.length ∧ i = .int .i64 k ∧ (∃ A' c', s = .slice A' (7 + k) c') ∧ wr.ownsRow B 27 1 s (7 + k) (u64s ((voteN v).take (7 + k))) ∧ Below B w wr) (fun i _ _ => v.who.length - (intOf i).toNat)
  case atStart => exact ⟨0, Nat.zero_le _, rfl, ⟨_, _, rfl⟩, hown, hb0⟩
  case round =>
    clear hown hb0
    obtain ⟨k, hk, rfl, ⟨A', c', rfl⟩, hown, hbr⟩ := hrel
    by_cases hlt : k < v.who.length
    · obtain ⟨b, o, rfl, _, hc0⟩ := HN.out k hlt
      have hc := cell_below hc0 (hbr.mono hB1)
      clear hc0
      obtain ⟨x, hx⟩ : ∃ x, x = v.who[k]?.getD 0 := ⟨_, rfl⟩
      rw [List.getD_eq_getElem?_getD, ← hx] at hc
      have hs : Hid (u64s ((voteN v).take (7 + (k + 1))) = u64s ((voteN v).take (7 + k)) ++ [.int .u64 (w64 x)]) := by
        show _ = _
        rw [← Nat.add_assoc, List.take_add_one, u64s, List.map_append, show (voteN v)[7 + k]? = some (w64 x) from by
          rw [voteN, List.getElem?_append_right (by simp), hx]
          simp [List.getElem?_eq_getElem hlt]]
        rfl
      clear hx
      go_wp2_with (at_builtin; refine wpList_app B rfl _ _ 57 27 (.int .u64 0) 1 8 rfl Tryd.underlying57 infoU64 rfl (by decide) _ (7 + k) (u64s ((voteN v).take (7 + k))) rfl (hown.alloc _) (some ⟨wr.heap.size, 0, none⟩) 1 1 _ rfl rfl (Flat.one _ _ _) (by simp [Value.oneCell']) (by omega) (by omega) (by have := hbr.size; simp; omega) ?_; intro A2 c2 w2 hown2 hg2 _)
      go_roundw
      case rel =>
        refine ⟨k + 1, by omega, by go_num, ⟨A2, c2, rfl⟩, by rw [hs.out]; exact hown2, (below_alloc' hbr hB2 _).grown hg2 (by simp; have := hbr.size; omega) (own_base hown)⟩
      case measure => simp [intOf]; omega
    · obtain rfl : k = v.who.length := by omega
      rw [List.take_of_length_le (by rw [voteN_length]; omega)] at hown
      go_wp2
      go_ret
      exact ⟨_, _, _, rfl, hown, hbr⟩
end Go.Proofs.YtccficljaomhhaaDoor
