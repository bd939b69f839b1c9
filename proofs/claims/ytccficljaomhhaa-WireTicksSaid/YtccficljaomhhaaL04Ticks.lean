/- WireTicks, walked. -/
import Derived.Test.YtccficljaomhhaaDec6
import Derived.Test.YtccficljaomhhaaDecL
import Derived.BigQuiet
namespace Go.Proofs.Ytccficljaomhhaa
open Go.RowKit
attribute [local go_sem ↓] Go.wp_at_zero Go.wp_at_succ
def tickE (n : Int) : Ev := ⟨0, n, Bk.zero, Vt.zero, Pf.zero⟩
theorem tick_may {n : Int} (h : 0 ≤ n ∧ n ≤ 4294967295) : mayB (tickE n) = true := by
  have : n ≤ 1099511627776 := by omega
  simp [mayB, tickE, h.1, this]
theorem ticks_all {ns : List Int} (h : ∀ x ∈ ns, 0 ≤ x ∧ x ≤ 4294967295) : (ns.map tickE).all mayB = true := by
  rw [List.all_eq_true]
  intro e he
  obtain ⟨x, hx, rfl⟩ := List.mem_map.1 he
  exact tick_may (h x hx)
theorem ticks_bare (ns : List Int) : (ns.map tickE).map bareE = ns.map tickE := by
  rw [List.map_map]
  exact List.map_congr_left (fun x _ => by simp [bareE, tickE])
theorem ticks_len (ns : List Int) : (bes (encN (ns.map tickE))).length = 16 * ns.length := by
  rw [bes_length]
  induction ns with
  | nil => rfl
  | cons n ns ih =>
    have : (encN (tickE n :: ns.map tickE)).length = 2 + (encN (ns.map tickE)).length := by simp [encN, evN, tickE]; omega
    simp only [List.map_cons, List.length_cons, this]
    omega
theorem ticks_wf {ns : List Int} (h : ∀ x ∈ ns, 0 ≤ x ∧ x ≤ 4294967295) : ∀ e ∈ ns.map tickE, e.wf := by
  intro e he
  obtain ⟨x, hx, rfl⟩ := List.mem_map.1 he
  have := h x hx
  simp [Ev.wf, tickE, inI, inU, Bk.wf, Bk.zero, Vt.wf, Vt.zero, Pf.wf, Pf.zero, Pt.wf, Pt.zero]
  omega
theorem ticks_dec {ns : List Int} (h : ∀ x ∈ ns, 0 ≤ x ∧ x ≤ 4294967295) (hl : ns.length ≤ 4096) : decR (decide (16 * ns.length % 8 ≠ 0)) 4096 (groups (bes (encN (ns.map tickE)))) = (some (ns.map tickE), 0) := by
  rw [groups_bes (encN_U (ticks_wf h)), show decide (16 * ns.length % 8 ≠ 0) = false from by simp; omega, decR_ok _ 4096 (by simpa using hl) (ticks_all h), ticks_bare]
theorem RowO.evs {B : Nat} {w : World} {A : Option Addr} {c : Nat} {xs : List Ev} (h : RowO 38 28 (EvO B w) B w A c xs) : Evs (B ≤ ·) w A xs :=
  Lie.mono (h.lie (by decide) (fun _ x => x)) (fun _ _ _ x => x.k) (fun _ x => x) (fun _ _ _ => rfl)
theorem tick_cells {ok : Nat → Prop} {w : World} {A : Option Addr} {ns : List Int} (h : Evs ok w A (ns.map tickE)) {k : Nat} {x : Int} (hx : ns[k]? = some x) : ∃ b o, A = some ⟨b, o, none⟩ ∧ w.cell? ⟨b, o + k * 28, none⟩ = some (.int .i64 0) ∧ w.cell? ⟨b, o + k * 28 + 1, none⟩ = some (.int .i64 x) := by
  obtain ⟨b, o, he, _, A1, c1, A2, c2, A3, c3, A4, c4, A5, c5, _, hat⟩ := h.get (k := k) (e := tickE x) (by rw [List.getElem?_map, hx]; rfl)
  exact ⟨b, o, he, hat 0 _ rfl, hat 1 _ rfl⟩
set_option maxRecDepth 100000 in
set_option maxHeartbeats 2000000 in
theorem WireTicks_calls (w : World) (A : Option Addr) (c : Nat) (ns : List Int) (hn : Ints anyB .u32 w A ns) (hf : Fits ns.length c) (hwf : ∀ x ∈ ns, 0 ≤ x ∧ x ≤ 4294967295) :
    Calls Try.prog 6 #[.slice A ns.length c] w fun e w' => e = .returned (.bool true) ∧ Below w.heap.size w w' := by
  have hcap : ns.length ≤ c := hf.1
  have hm : ns.length ≤ 9223372036854775807 := by have := hf.2; unfold maxLen at this; omega
  obtain ⟨B, HB, hB1, hB2⟩ := size_hid w
  rw [HB.out]
  go_enter Try.func6, Try.ntmps6
  go_upto_region 4 with (go_at_call 9; refine (l04awake_calls _).mono ?_; rintro e w1 ⟨rfl, hb1⟩)
  have hbB1 := hb1.mono hB2
  clear hb1
  obtain ⟨m, hM⟩ : ∃ m, Hid (m ≤ ns.length ∧ m ≤ 4096 ∧ (m = ns.length ∨ m = 4096 ∧ 4096 < ns.length)) := by
    rcases Nat.lt_or_ge 4096 ns.length with h | h
    · exact ⟨4096, by omega, by omega, .inr ⟨rfl, h⟩⟩
    · exact ⟨ns.length, by omega, h, .inl rfl⟩
  go_cut [18, 19, 20] (fun a b d w' => a = .slice A m c ∧ b = .int .i64 m ∧ d = .int .i64 0 ∧ w1 = w')
  case first =>
    go_wp2
    · go_meet
      case rel =>
        have := hM.out
        obtain rfl : m = 4096 := by omega
        exact ⟨rfl, rfl, rfl, rfl⟩
    · go_meet
      case rel =>
        have := hM.out
        obtain rfl : m = ns.length := by omega
        exact ⟨rfl, rfl, rfl, rfl⟩
  case rest =>
    obtain ⟨rfl, rfl, rfl, rfl⟩ := hcut
    have hm1 := hM.out.1
    have hm2 := hM.out.2.1
    obtain ⟨ts, hts⟩ : ∃ ts, ts = ns.take m := ⟨_, rfl⟩
    have htl : ts.length = m := by rw [hts, List.length_take]; omega
    have htw : ∀ x ∈ ts, 0 ≤ x ∧ x ≤ 4294967295 := fun x hx => hwf x (List.mem_of_mem_take (by rw [← hts]; exact hx))
    have HN : Hid (∀ (wr : World) (k : Nat), Below B w wr → k < m → ∃ b o x, A = some ⟨b, o, none⟩ ∧ ts[k]? = some x ∧ wr.cell? ⟨b, o + k, none⟩ = some (.int .u32 x) ∧ 0 ≤ x ∧ x ≤ 4294967295) := fun wr k hbw hk => by
      obtain ⟨b, o, he, _, hc⟩ := hn.get (j := k) (by omega)
      have hx : ts[k]? = some (ns.getD k 0) := by
        rw [hts, List.getElem?_take_of_lt hk, List.getElem?_eq_getElem (by omega), List.getD_eq_getElem?_getD, List.getElem?_eq_getElem (by omega), Option.getD_some]
      exact ⟨b, o, _, he, hx, cell_below hc (hbw.mono hB1), htw _ (List.mem_of_getElem? hx)⟩
    clear hM hn hwf hf hts
    go_wp2_with fail
    go_loopw [3, 20] (fun s i wr => ∃ (k : Nat) (A1 : Option Addr) (c1 : Nat), k ≤ m ∧ i = .int .i64 k ∧ s = .slice A1 k c1 ∧ RowO 38 28 (EvO B wr) B wr A1 c1 ((ts.take k).map tickE) ∧ Below B w wr) (fun _ i _ => m - (intOf i).toNat)
    case atStart => exact ⟨0, none, 0, Nat.zero_le _, rfl, rfl, RowO.nil, hbB1⟩
    case round =>
      clear hbB1
      obtain ⟨k, A1, c1, hk, rfl, rfl, hrow, hbr⟩ := hrel
      by_cases hlt : k < m
      · obtain ⟨b, o, x, rfl, hx, hc, hx0, hx1⟩ := HN.out wr k hbr hlt
        obtain ⟨gcs, ho, hK⟩ := hrow
        have hlen : ((ts.take k).map tickE).length = k := by simp; omega
        rw [hlen] at ho
        have HX := Lib.hid hx
        have HK := Lib.hid hK
        have HO := Lib.hid ho
        clear hK ho hx hlen
        go_wp2_with (at_builtin; refine wpList_app B rfl (.tmp 24) (.tmp 28) 22 38 _ 28 304 rfl Try.underlying22 infoEv rfl (by decide) _ k gcs rfl (World.ownsRow.alloc HO.out _) (some ⟨wr.heap.size, 0, none⟩) 1 1 [.int .i64 0, .int .i64 x, .int .u64 0, .int .u64 0, .int .i64 0, .slice none 0 0, .slice none 0 0, .int .i64 0, .int .u64 0, .int .i64 0, .int .u64 0, .int .i64 0, .int .u64 0, .slice none 0 0, .int .i64 0, .int .u64 0, .int .i64 0, .int .u64 0, .int .i64 0, .int .u64 0, .slice none 0 0, .int .i64 0, .int .u64 0, .int .i64 0, .int .u64 0, .int .i64 0, .int .u64 0, .slice none 0 0] rfl rfl flat_new (by simp [Value.oneCell']) (by omega) (by omega) (by have := hbr.size; simp; omega) ?_; intro A6 c6 w6 ho6 hg6 _)
        go_roundw
        case rel =>
          have htake : (ts.take (k + 1)).map tickE = (ts.take k).map tickE ++ [tickE x] := by rw [List.take_add_one, HX.out]; simp
          have hlen : ((ts.take k).map tickE).length = k := by simp; omega
          have hoa := World.ownsRow.alloc HO.out (.cells #[.int .i64 0, .int .i64 x, .int .u64 0, .int .u64 0, .int .i64 0, .slice none 0 0, .slice none 0 0, .int .i64 0, .int .u64 0, .int .i64 0, .int .u64 0, .int .i64 0, .int .u64 0, .slice none 0 0, .int .i64 0, .int .u64 0, .int .i64 0, .int .u64 0, .int .i64 0, .int .u64 0, .slice none 0 0, .int .i64 0, .int .u64 0, .int .i64 0, .int .u64 0, .int .i64 0, .int .u64 0, .slice none 0 0] 38)
          have hk6 := (Keeps.of_below (below_alloc (Below.refl wr.heap.size wr) _)).trans ⟨Keep.grown hoa (by decide) hg6, Keep.grown hoa (by decide) hg6, Keep.grown hoa (by decide) hg6⟩
          refine ⟨k + 1, A6, c6, by omega, by go_num, rfl, ?_, (below_alloc' hbr hB2 _).grown hg6 (by have := hbr.size; simp; omega) (own_base hoa)⟩
          rw [htake]
          exact RowO.snoc (by rw [hlen]; exact HO.out.1) (by rw [hlen]; exact ho6) (fun j y hy => (HK.out j y hy).keep hk6) ⟨_, _, _, rfl, BkO.zero, VtO.zero, PfO.zero⟩ rfl
        case measure => simp [intOf]; omega
      · obtain rfl : k = m := by omega
        rw [List.take_of_length_le (by omega)] at hrow
        have hes := hrow.evs.any
        have hok : encOk (ts.map tickE) = true := by rw [encOk, ticks_all htw]; simp; omega
        have HD := Lib.hid (ticks_dec htw (by omega))
        go_wp2_with fail
        refine (wencodeC_calls _ A1 k c1 (ts.map tickE) hes (by simp; omega) (by unfold maxLen; omega)).mono ?_
        rintro en w2 ⟨hb2, hea⟩
        rcases hea with ⟨_, A2, n2, c2, rfl, hi2, hl2, hc2⟩ | ⟨h1, _⟩
        · have hn2 := hl2.out
          rw [ticks_len, htl] at hn2
          subst hn2
          go_wp2_with fail
          refine (Decode_calls _ A2 (16 * k) c2 (bes (encN (ts.map tickE))) hi2 (bytesW_bes _) hl2.out ⟨hc2, by unfold maxLen; omega⟩).mono ?_
          rintro en w3 ⟨hb3, hde⟩
          have hD := HD.out
          rw [htl] at hD
          rw [hD] at hde
          rcases hde with ⟨xs, A3, c3, hx, _, rfl, hrow3⟩ | ⟨h1, _⟩
          · obtain rfl : ts.map tickE = xs := by simpa using hx
            have hb23 := below_trans hb2 hb3
            have hbB3 : Below B w w3 := hbr.trans (hb23.mono (by have := hbr.size; omega))
            have HE1 : Hid (∀ x k, ts[k]? = some x → ∃ b o, A1 = some ⟨b, o, none⟩ ∧ w3.cell? ⟨b, o + k * 28, none⟩ = some (.int .i64 0) ∧ w3.cell? ⟨b, o + k * 28 + 1, none⟩ = some (.int .i64 x)) := fun x k hx => tick_cells (hes.below hb23) hx
            have HE3 : Hid (∀ x k, ts[k]? = some x → ∃ b o, A3 = some ⟨b, o, none⟩ ∧ w3.cell? ⟨b, o + k * 28, none⟩ = some (.int .i64 0) ∧ w3.cell? ⟨b, o + k * 28 + 1, none⟩ = some (.int .i64 x)) := fun x k hx => tick_cells hrow3.evs hx
            have HT := Lib.hid htl
            rw [List.length_map, htl]
            clear hD hrow hrow3 hes hi2 hl2 hc2 hok HN htw hx htl hb2 hb3 hb23 HD
            go_wp2
            go_loopw [71] (fun i wr => ∃ j : Nat, j ≤ k ∧ i = .int .i64 j ∧ Hid (∃ q, wr = w3.drewN q)) (fun i _ => k - (intOf i).toNat)
            case atStart => exact ⟨0, Nat.zero_le _, rfl, 0, rfl⟩
            case round =>
              obtain ⟨j, hj, rfl, HQ⟩ := hrel
              by_cases hjk : j < k
              · obtain ⟨x, hx⟩ : ∃ x, ts[j]? = some x := ⟨_, List.getElem?_eq_getElem (by rw [HT.out]; exact hjk)⟩
                obtain ⟨b1, o1, rfl, p1, p2⟩ := HE1.out x j hx
                obtain ⟨b3, o3, rfl, p3, p4⟩ := HE3.out x j hx
                obtain ⟨q, rfl⟩ := HQ.out
                clear hx
                go_upto_region 16 with fail
                go_quiet (fail)
                go_wp2
                go_roundw
                case rel => exact ⟨j + 1, by omega, by go_num, q + nq, rfl⟩
                case measure => simp [intOf]; omega
              · go_wp2
                go_ret
                obtain ⟨q, rfl⟩ := HQ.out
                exact ⟨rfl, below_drewN hbB3 q⟩
          · cases h1
        · rw [hok] at h1; cases h1
end Go.Proofs.Ytccficljaomhhaa
