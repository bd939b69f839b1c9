/- WireMany, walked. -/
import Derived.Test.YtccficljaomhhaaDoorDec6
import Derived.Test.YtccficljaomhhaaDoorDecT
import Derived.Test.YtccficljaomhhaaDoorL04g
import Derived.Test.YtccficljaomhhaaDoorNum
import Derived.OwnWalk
namespace Go.Proofs.YtccficljaomhhaaDoor
open Go.RowKit
attribute [local go_sem ↓] Go.wp_at_zero Go.wp_at_succ
def ev7 : Ev := ⟨0, 7, Bk.zero, Vt.zero, Pf.zero⟩
def zEvC : List Value := [.int .i64 0, .int .i64 0, .int .u64 0, .int .u64 0, .int .i64 0, .slice none 0 0, .slice none 0 0, .int .i64 0, .int .u64 0, .int .i64 0, .int .u64 0, .int .i64 0, .int .u64 0, .slice none 0 0, .int .i64 0, .int .u64 0, .int .i64 0, .int .u64 0, .int .i64 0, .int .u64 0, .slice none 0 0, .int .i64 0, .int .u64 0, .int .i64 0, .int .u64 0, .int .i64 0, .int .u64 0, .slice none 0 0]
theorem made_get {p N i : Nat} (hp : p < N) (hm : p % 28 = i) (hi : i < 28) : (madeCells (Value.agg zEvC.toArray).cells N).toList[p]? = zEvC[i]? := by
  have hsz : (Value.agg zEvC.toArray).cells = zEvC.toArray := rfl
  have hl : zEvC.toArray.size = 28 := rfl
  rw [hsz, madeCells, hl]
  simp only [Array.toList_map, List.getElem?_map, Array.toList_range, List.getElem?_range hp, Option.map_some, hm]
  have hl2 : zEvC.length = 28 := rfl
  rw [List.getElem?_eq_getElem (by omega)]
  simp [hl2, hi]
theorem infoEv2 : ∃ i, Tryd.prog.info? 40 = some i ∧ i.zero = some (.agg zEvC.toArray) ∧ i.size = 28 ∧ i.bytes = 304 := by
  have h := infoEv
  obtain ⟨i, hi, he⟩ := Option.map_eq_some_iff.1 h
  simp only [Prod.mk.injEq] at he
  exact ⟨i, hi, he.1, he.2.1, he.2.2⟩
/-- Events of which the first k are ticks of the slot 7, the others as they are made. -/
def Some7 (w : World) (g n k : Nat) : Prop := ∃ cs : Array Value, w.heap[g]? = some (.cells cs 40 (0, 0)) ∧ cs.size = n * 28 ∧
  ∀ j i, j < n → i < 28 → cs[j * 28 + i]? = if i = 1 ∧ j < k then some (.int .i64 7) else zEvC[i]?
theorem Some7.cell {w : World} {g n k : Nat} (h : Some7 w g n k) {j : Nat} (hj : j < n) : ∃ u, w.cell? ⟨g, j * 28 + 1, none⟩ = some u ∧ w.frozen? ⟨g, j * 28 + 1, none⟩ = false := by
  obtain ⟨cs, h1, h2, h3⟩ := h
  have := h3 j 1 hj (by decide)
  refine ⟨if j < k then .int .i64 7 else .int .i64 0, ?_, blk_frozen h1 _⟩
  rw [blk_cell h1, this]
  by_cases hk : j < k
  · simp [hk]
  · simp [hk, zEvC]
theorem Some7.step {w : World} {g n k : Nat} (h : Some7 w g n k) (hk : k < n) : Some7 (w.setCell ⟨g, k * 28 + 1, none⟩ (.int .i64 7)) g n (k + 1) := by
  obtain ⟨cs, h1, h2, h3⟩ := h
  refine ⟨cs.setIfInBounds (k * 28 + 1) (.int .i64 7), blk_set h1 _ _, by simpa using h2, fun j i hj hi => ?_⟩
  rw [Array.getElem?_setIfInBounds]
  by_cases he : k * 28 + 1 = j * 28 + i
  · have hj2 : j = k := by omega
    have hi2 : i = 1 := by omega
    subst hj2 hi2
    rw [if_pos rfl, if_pos (by rw [h2]; omega), if_pos ⟨rfl, by omega⟩]
  · rw [if_neg he, h3 j i hj hi]
    by_cases h4 : i = 1 ∧ j < k
    · rw [if_pos h4, if_pos ⟨h4.1, by omega⟩]
    · rw [if_neg h4, if_neg (by omega)]
theorem Some7.evs {w : World} {g n : Nat} (h : Some7 w g n n) : Evs anyB w (some ⟨g, 0, none⟩) (List.replicate n ev7) := by
  obtain ⟨cs, h1, h2, h3⟩ := h
  intro _
  refine ⟨g, 0, rfl, trivial, fun j x hx => ?_⟩
  have hj : j < n := by
    have := (List.getElem?_eq_some_iff.1 hx).1
    simpa using this
  obtain rfl : ev7 = x := by
    rw [List.getElem?_replicate, if_pos hj] at hx
    exact Option.some.inj hx
  refine ⟨_, EvK.shut (⟨⟨Nat.le_refl _, Nat.zero_le _⟩, ⟨Nat.le_refl _, Nat.zero_le _⟩, ⟨Nat.le_refl _, Nat.zero_le _⟩, ⟨Nat.le_refl _, Nat.zero_le _⟩, ⟨Nat.le_refl _, Nat.zero_le _⟩, Lie.nil, Lie.nil, Lie.nil, Lie.nil, Lie.nil⟩ : EvR anyB w ev7 none 0 none 0 none 0 none 0 none 0), rfl, fun i u hi => ?_⟩
  have hi' : i < 28 := (List.getElem?_eq_some_iff.1 hi).1
  rw [Nat.zero_add, blk_cell h1, h3 j i hj hi']
  by_cases h4 : i = 1
  · subst h4
    rw [if_pos ⟨rfl, hj⟩]
    exact hi
  · rw [if_neg (fun h => h4 h.1), ← hi]
    match i, hi', h4 with
    | 0, _, _ => rfl
    | 1, _, h4 => exact absurd rfl h4
    | i + 2, _, _ => rfl
theorem ev7_may {n : Nat} : (List.replicate n ev7).all mayB = true := by
  rw [List.all_eq_true]
  intro e he
  rw [List.eq_of_mem_replicate he]
  decide
theorem ev7_wf {n : Nat} : ∀ e ∈ List.replicate n ev7, e.wf := by
  intro e he
  rw [List.eq_of_mem_replicate he]
  simp [Ev.wf, ev7, inI, inU, Bk.wf, Bk.zero, Vt.wf, Vt.zero, Pf.wf, Pf.zero, Pt.wf, Pt.zero]
theorem ev7_len (n : Nat) : (encN (List.replicate n ev7)).length = 2 * n := by
  induction n with
  | zero => rfl
  | succ n ih =>
    have : encN (List.replicate (n + 1) ev7) = evN ev7 ++ encN (List.replicate n ev7) := by simp [encN, List.replicate_succ]
    rw [this, List.length_append, ih]
    simp [evN, ev7]
    omega
theorem ev7_dec (n : Nat) (hn : 4096 < n) : decR (decide (16 * n % 8 ≠ 0)) 4096 (groups (bes (encN (List.replicate n ev7)))) = (none, 2 * (n - 4096)) := by
  rw [groups_bes (encN_U ev7_wf), show decide (16 * n % 8 ≠ 0) = false from by simp; omega, decR_many _ 4096 (by simpa using hn) ev7_may, List.drop_replicate, ev7_len]
set_option maxRecDepth 100000 in
set_option maxHeartbeats 4000000 in
theorem WireMany_calls (w : World) (more : Int) (hg : GV w) (hmw : (Lit.int .u8 more).wf = true) :
    Calls Tryd.prog 5 #[.int .u8 more] w fun e w' => e = .returned (.bool true) ∧ Below w.heap.size w w' := by
  have hm0 : 0 ≤ more ∧ more ≤ 255 := by
    simp [Lit.wf, IntKind.min, IntKind.max, IntKind.bits, IntKind.signed] at hmw
    omega
  clear hmw
  obtain ⟨m, rfl⟩ := Int.eq_ofNat_of_zero_le hm0.1
  obtain ⟨n, hn⟩ : ∃ n : Nat, n = 4097 + m := ⟨_, rfl⟩
  have hnm : (4097 : Int) + m = n := by omega
  have hn0 : 4096 < n := by omega
  have hn1 : n ≤ 4352 := by omega
  have HNM := Lib.hid hnm
  clear hn hnm
  obtain ⟨i0, hi0, hz0, hs0, hb0⟩ := infoEv2
  obtain ⟨B, HB, hB1, hB2⟩ := size_hid w
  rw [HB.out]
  go_enter Tryd.func5, Tryd.ntmps5
  go_upto_region 3 with (go_at_call 6; refine (l04awake_calls _).mono ?_; rintro e w1 ⟨rfl, hb1⟩)
  have HI := Lib.hid (And.intro hi0 (And.intro hz0 (And.intro hs0 hb0)))
  clear hi0 hz0 hs0 hb0
  go_upto_region 4 with (at_make; refine wpList_make_full w1 rfl (.tmp 15) (.tmp 15) 22 rfl B 40 i0 (.agg zEvC.toArray) 28 Tryd.underlying22 HI.out.1 HI.out.2.1 HI.out.2.2.1 .i64 .i64 (4097 + (m : Int)) (4097 + (m : Int)) n rfl rfl HNM.out HNM.out (by rw [HI.out.2.2.2]; omega) (by unfold maxLen; omega) (Nat.le_trans hB2 hb1.size) ?_; intro w2 hown hgr)
  have hbB1 : Below B w w1 := hb1.mono hB2
  have hblk : Some7 w2 w1.heap.size n 0 := by
    rcases hown.2 with ⟨h1, _⟩ | ⟨g, cap, cur, h1, _, h3, _, _, h5, h6⟩
    · simp at h1
    · simp only [Value.slice.injEq, Option.some.injEq, Addr.mk.injEq, and_true, true_and] at h1
      obtain ⟨rfl, _, rfl⟩ := h1
      refine ⟨cur, h3, h5, fun j i hj hi => ?_⟩
      have hlt : j * 28 + i < n * 28 := by omega
      have h7 : cur[j * 28 + i]? = (cur.toList.take (n * 28))[j * 28 + i]? := by rw [List.getElem?_take_of_lt hlt]; simp
      rw [h7, h6, if_neg (by omega)]
      have hm28 : (j * 28 + i) % 28 = i := by omega
      exact made_get hlt hm28 hi
  have hbB2 : Below B w w2 := hbB1.trans ((Below.refl _ w1).grown hgr (Nat.le_trans hB2 hbB1.size |> fun h => h) (fun k hk => by cases hk))
  have hs12 := hgr.size
  have hgB : B ≤ w1.heap.size := Nat.le_trans hB2 hbB1.size
  generalize w1.heap.size = g at hblk hgB ⊢
  clear hown hgr hb1 HI
  go_wp2
  go_loopw [19] (fun i wr => ∃ k : Nat, k ≤ n ∧ i = .int .i64 k ∧ Some7 wr g n k ∧ Below B w wr) (fun i _ => n - (intOf i).toNat)
  case atStart => exact ⟨0, Nat.zero_le _, rfl, hblk, hbB2⟩
  case round =>
    clear hblk hbB2 hbB1 hs12
    obtain ⟨k, hk, rfl, hS, hbr⟩ := hrel
    by_cases hlt : k < n
    · obtain ⟨u, hc, hf⟩ := hS.cell hlt
      go_wp2
      go_roundw
      case rel =>
        refine ⟨k + 1, by omega, by go_num, hS.step hlt, hbr.setCell ?_ _⟩
        exact hgB
      case measure => simp [intOf]; omega
    · obtain rfl : k = n := by omega
      have hes := hS.evs
      have hln : (List.replicate k ev7).length = k := by simp
      have hno : encOk (List.replicate k ev7) = false := by
        rw [encOk, hln]
        simp
        omega
      have HDEC := Lib.hid (ev7_dec k hn0)
      have HLEN := Lib.hid (ev7_len k)
      go_wp2_with fail
      refine (wencode_calls _ _ k k (List.replicate k ev7) hes hln (by unfold maxLen; omega)).mono ?_
      rintro en w3 ⟨hb3, hea⟩
      rcases hea with ⟨h1, _⟩ | ⟨_, rfl⟩
      · rw [hno] at h1; cases h1
      · go_wp2_with fail
        refine (bytesN_calls _ _ k k (List.replicate k ev7) (hes.below hb3) hln (by omega) ev7_may).mono ?_
        rintro en w4 ⟨Rb, nb, cb, rfl, hob, hb4⟩
        have hbl := hob.len
        have hbf := own_fits hob
        have hn16 : nb = 16 * k := by rw [← hbl, bes_length, HLEN.out]; omega
        subst hn16
        go_wp2_with fail
        refine (Decode_calls _ Rb (16 * k) cb (bes (encN (List.replicate k ev7))) hob.ints (bytesW_bes _) hbl hbf.2).mono ?_
        rintro en w5 ⟨hb5, hde⟩
        rw [HDEC.out] at hde
        rcases hde with ⟨xs, A3, c3, hx, _⟩ | ⟨_, rfl⟩
        · cases hx
        · have hgl : (groups (bes (encN (List.replicate k ev7)))).length = 2 * k := by rw [groups_bes (encN_U ev7_wf), HLEN.out]
          have hq : 8 * ((groups (bes (encN (List.replicate k ev7)))).length - 2 * (k - 4096)) = 65536 := by rw [hgl]; omega
          rw [hq]
          have hb35 := below_trans (below_trans hb3 hb4) hb5
          have hbB5 : Below B w w5 := hbr.trans (hb35.mono (Nat.le_trans hB2 hbr.size))
          have hBs5 : B ≤ w5.heap.size := Nat.le_trans hB2 hbB5.size
          have hg5 : GV w5 := hg.below (hbB5.mono hB1)
          clear hes hob hbl hbf hb3 hb4 hb5 hb35 hbr hS
          go_wp2_with (go_at_call 10; refine (Number_calls _ 1 hg5).mono ?_; rintro en w6 ⟨rfl, hb6⟩)
          go_ret
          exact ⟨rfl, hbB5.trans (hb6.mono hBs5)⟩
end Go.Proofs.YtccficljaomhhaaDoor
