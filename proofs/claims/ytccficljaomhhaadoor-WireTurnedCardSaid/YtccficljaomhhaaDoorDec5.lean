/- wire: the reader: block. -/
import Derived.Test.YtccficljaomhhaaDoorDec4
import Derived.Deep.DeepCutAuto
import Derived.Deep.CutBlock
namespace Go.Proofs.YtccficljaomhhaaDoor
open Go.RowKit
attribute [local go_sem ↓] Go.wp_at_zero Go.wp_at_succ
variable {B R : Nat} {A : Option Addr} {n c : Nat} {bs : List Int}
abbrev zBkL : List Value := [.int .u64 0, .int .u64 0, .int .i64 0, .slice none 0 0, .slice none 0 0]
theorem vt7 {w : World} {P : Nat} {v : Vt} {A : Option Addr} {c : Nat} {T : TypeId} {f : Nat × Nat} (h : w.heap[P]? = some (.cells #[.int .i64 v.slot, .int .u64 v.head, .int .i64 v.src.e, .int .u64 v.src.r, .int .i64 v.tgt.e, .int .u64 v.tgt.r, .slice A v.who.length c] T f)) : w.cell? ⟨P, 0, none⟩ = some (.int .i64 v.slot) ∧ w.cell? ⟨P, 1, none⟩ = some (.int .u64 v.head) ∧ w.cell? ⟨P, 2, none⟩ = some (.int .i64 v.src.e) ∧ w.cell? ⟨P, 3, none⟩ = some (.int .u64 v.src.r) ∧
    w.cell? ⟨P, 4, none⟩ = some (.int .i64 v.tgt.e) ∧ w.cell? ⟨P, 5, none⟩ = some (.int .u64 v.tgt.r) ∧ w.cell? ⟨P, 6, none⟩ = some (.slice A v.who.length c) :=
  ⟨blk_cell h 0, blk_cell h 1, blk_cell h 2, blk_cell h 3, blk_cell h 4, blk_cell h 5, blk_cell h 6⟩
set_option maxHeartbeats 4000000 in
set_option maxRecDepth 100000 in
theorem rblock_calls (w : World) (s : Rd) (h : RS B R A n c bs w s) :
    Calls Tryd.prog 16 #[.pointer (some ⟨R, 0, none⟩)] w fun e w' => ∃ b A1 c1 A2 c2,
      b = (blockR s).1 ∧ e = .returned (.agg #[.int .u64 b.root, .int .u64 b.parent, .int .i64 b.slot, .slice A1 b.votes.length c1, .slice A2 b.proofs.length c2]) ∧ RowO 36 7 (VtO w.heap.size w') w.heap.size w' A1 c1 b.votes ∧ RowO 38 14 (PfO w.heap.size w') w.heap.size w' A2 c2 b.proofs ∧ RS B R A n c bs w' (blockR s).2 ∧ Ext (· = R) w w' := by
  obtain ⟨B0, HB0, hB1, hB2⟩ := size_hid w
  have hlo := fun (zs : List Value) (T : TypeId) {w1 : World} {s1 : Rd} (h1 : RS B R A n c bs w1 s1) (hx : Ext (· = R) (w.alloc (.cells zs.toArray T)) w1) => Lo.start h T zs h1 hx
  rw [HB0.out] at hlo ⊢
  go_enter Tryd.func16, Tryd.ntmps16
  go_upto_region 2 with (first
    | (go_at_call 25; refine (rroot_calls _ s (h.below (below_alloc (Below.refl _ _) _))).mono ?_; rintro e w2 ⟨rfl, h2, hx2⟩)
    | (refine wpList_box 31 3 _ (.tmp 9) [.int .u64 (rootR s).1, .int .u64 0, .int .i64 0, .slice none 0 0, .slice none 0 0] rfl rfl rfl zBk rfl rfl iBk rfl ?_))
  have hL := hlo zBkL 31 h2 hx2 [.int .u64 (rootR s).1, .int .u64 0, .int .i64 0, .slice none 0 0, .slice none 0 0]
  clear h2 hx2 hlo
  rw [HB0.out]
  generalize w2.heap.size = V at hL ⊢
  generalize w2.alloc _ = W3 at hL ⊢
  go_upto_region 3 with (go_at_call 25; refine (rroot_calls _ _ hL.rs).mono ?_; rintro e w4 ⟨rfl, h4, hx4⟩; have hL4 := hL.call h4 hx4; have k1 := hL4.cell 1; have f1 := hL4.frozen 1)
  have hL5 := hL4.set 1 (.int .u64 (rootR (rootR s).2).1)
  simp only [List.set_cons_succ, List.set_cons_zero] at hL5
  generalize World.setCell _ _ _ = W5 at hL5 ⊢
  clear hL hL4 k1 f1 h4 hx4
  go_upto_region 4 with (go_at_call 15; refine (rsmall_calls _ _ _ hL5.rs (by decide) (by decide)).mono ?_; rintro e w6 ⟨rfl, h6, hx6⟩; have hL6 := hL5.call h6 hx6; have k2 := hL6.cell 2; have f2 := hL6.frozen 2)
  have hL7 := hL6.set 2 (.int .i64 (smallR 1099511627776 (rootR (rootR s).2).2).1)
  simp only [List.set_cons_succ, List.set_cons_zero] at hL7
  generalize World.setCell _ _ _ = W7 at hL7 ⊢
  clear hL5 hL6 k2 f2 h6 hx6
  obtain ⟨d, hd⟩ : ∃ d, d = (smallR 1099511627776 (rootR (rootR s).2).2).2 := ⟨_, rfl⟩
  rw [← hd] at hL7
  have HD := Lib.hid hd
  clear hd
  have hr := smallR_range (m := 16) (by decide) hL7.rs.range
  go_upto_block 0 with (first
    | (go_at_call 15; have _t := hL7; refine (rsmall_calls _ _ _ hL7.rs (by decide) (by decide)).mono ?_; rintro e w8 ⟨rfl, h8, hx8⟩; have hL8 := hL7.call h8 hx8; have hr2 := smallR_range (m := 16) (by decide) hL8.rs.range; clear _t hL7)
    | (go_at_call 15; refine (rsmall_calls _ _ _ hL8.rs (by decide) (by decide)).mono ?_; rintro e w9 ⟨rfl, h9, hx9⟩; have hL9 := hL8.call h9 hx9))
  clear h8 hx8 hL8 h9 hx9
  have hd := HD.out
  obtain ⟨x, hx⟩ : ∃ x, x = (smallR 16 d).1 := ⟨_, rfl⟩
  obtain ⟨y, hy⟩ : ∃ y, y = (smallR 16 (smallR 16 d).2).1 := ⟨_, rfl⟩
  rw [← hx, ← hy]
  rw [← hx] at hr
  rw [← hy] at hr2
  obtain ⟨k1, hk1⟩ := Int.eq_ofNat_of_zero_le hr.1
  obtain ⟨k2, hk2⟩ := Int.eq_ofNat_of_zero_le hr2.1
  have hkk1 : k1 ≤ 16 := by omega
  have hkk2 : k2 ≤ 16 := by omega
  obtain ⟨W1, hW1⟩ : ∃ W1, W1 = loopR voteR k1 (smallR 16 (smallR 16 d).2).2 := ⟨_, rfl⟩
  obtain ⟨W2, hW2⟩ : ∃ W2, W2 = loopR proofR k2 W1.2 := ⟨_, rfl⟩
  have HV : Hid (blockR s = (⟨(rootR s).1, (rootR (rootR s).2).1, (smallR 1099511627776 (rootR (rootR s).2).2).1, W1.1, W2.1⟩, W2.2)) := by
    show _ = _
    rw [hW2, hW1, blockR]
    simp only [← hd, ← hx, ← hy, hk1, hk2, Int.toNat_natCast]
  subst hk1 hk2
  generalize (rootR s).1 = va at hL9 HV ⊢
  generalize (rootR (rootR s).2).1 = vb at hL9 HV ⊢
  generalize (smallR 1099511627776 (rootR (rootR s).2).2).1 = vc at hL9 HV ⊢
  have HW1 := Lib.hid hW1
  have HW2 := Lib.hid hW2
  clear hW1 hW2 hd hx hy hr hr2 HD
  go_cut [] (fun w' => ∃ A1 c1, RowO 36 7 (VtO B0 w') B0 w' A1 c1 W1.1 ∧ Lo B R A n c bs w 31 B0 V zBkL w' W1.2 [.int .u64 va, .int .u64 vb, .int .i64 vc, .slice A1 W1.1.length c1, .slice none 0 0])
  case first =>
    go_wp2_with fail
    go_loopw [4] (fun i wr => ∃ (k : Nat) (acc : List Vt) (s' : Rd) (A1 : Option Addr) (c1 : Nat), i = .int .i64 k ∧ acc.length + k ≤ 16 ∧ Hid (acc ++ (loopR voteR k s').1 = W1.1 ∧ (loopR voteR k s').2 = W1.2) ∧ RowO 36 7 (VtO B0 wr) B0 wr A1 c1 acc ∧ Lo B R A n c bs w 31 B0 V zBkL wr s' [.int .u64 va, .int .u64 vb, .int .i64 vc, .slice A1 acc.length c1, .slice none 0 0]) (fun i _ => (intOf i).toNat)
    case atStart => exact ⟨k1, [], _, none, 0, rfl, by simpa using hkk1, by show _ ∧ _; rw [HW1.out]; exact ⟨rfl, rfl⟩, RowO.nil, hL9⟩
    case round =>
      clear hL9
      obtain ⟨k, acc, s', A1, c1, rfl, hk2, HI, hrow, hL⟩ := hrel
      have hbad := hL.rs.badc
      cases k with
      | zero =>
        go_wp2
        go_meet
        case rel =>
          have he := HI.out
          rw [show loopR voteR 0 s' = ([], s') from rfl, List.append_nil] at he
          rw [← he.1, ← he.2]
          exact ⟨A1, c1, hrow, hL⟩
      | succ k =>
        cases hb : s'.bad with
        | true =>
          rw [hb] at hbad
          go_wp2
          go_meet
          case rel =>
            have he := HI.out
            rw [loopR_end hb, List.append_nil] at he
            rw [← he.1, ← he.2]
            exact ⟨A1, c1, hrow, hL⟩
        | false =>
          rw [hb] at hbad
          go_upto_region 7 with fail
          have hRV : R < B0 ∧ B0 < V := ⟨by have := hL.r0; omega, hL.pv⟩
          have kw : wr.cell? ⟨V, 3, none⟩ = some (.slice A1 acc.length c1) := hL.cell 3
          have tok1 : True := trivial
          have HST := Lib.hid (loopR_step (f := voteR) (k := k) hb)
          clear hbad
          have hw0 := (Below.refl wr.heap.size wr).drew
          obtain ⟨gcs, ho, hK⟩ := hrow.keep (Keep.of_below hw0) (fun _ _ x => VtO.keep x (Keep.of_below hw0))
          have HK := Lib.hid hK
          have HO := Lib.hid ho
          have hgl := ho.1
          clear hrow hK ho
          go_region_law (first
            | (go_simp; go_at_call 17; have _t := tok1; refine (rvote_calls _ s' (hL.rs.below hw0)).mono ?_; rintro e w2 ⟨v, Av, cv, hv, rfl, hov, h2, hx2⟩; have hL2 := (hL.below hw0).call h2 hx2; have kw2 : w2.cell? ⟨V, 3, none⟩ = some (.slice A1 acc.length c1) := hL2.cell 3; have kw2a : (w2.alloc (.cells #[.int .i64 v.slot, .int .u64 v.head, .int .i64 v.src.e, .int .u64 v.src.r, .int .i64 v.tgt.e, .int .u64 v.tgt.r, .slice Av v.who.length cv] 36)).cell? ⟨V, 3, none⟩ = some (.slice A1 acc.length c1) := (hL2.below (below_alloc (Below.refl _ _) _)).cell 3; have HKP := Lib.hid ((hL.rs.below hw0).keeps hx2); have HOV := Lib.hid hov; have HVE := Lib.hid hv; clear _t tok1 hov hv)
            | (refine step_app B0 (by rfl) (.tmp 32) (.tmp 35) 28 36 _ 7 72 (by rfl) Tryd.underlying28 infoVt rfl (by decide) _ acc.length gcs (by rfl) (World.ownsRow.alloc (HKP.out.v.own HO.out) _) (some ⟨w2.heap.size, 0, none⟩) 1 1 [.int .i64 v.slot, .int .u64 v.head, .int .i64 v.src.e, .int .u64 v.src.r, .int .i64 v.tgt.e, .int .u64 v.tgt.r, .slice Av v.who.length cv] (by rfl) rfl flat_new (by simp [Value.oneCell']) (by omega) (by omega) (by have := hL2.ext.size; have := hB2; simp; omega) ?_; intro A6 c6 w3 ho3 hg3 _; have hL3 := (hL2.below (below_alloc (Below.refl _ _) _)).grown (by rw [HB0.out]; exact World.ownsRow.alloc (HKP.out.v.own HO.out) _) (by decide) hg3; have kw3 := hL3.cell 3; have fw3 := hL3.frozen 3))
          all_goals
            go_wp2
            go_roundw
            case rel =>
              have hL4 := hL3.set 3 (.slice A6 (acc.length + 1) c6)
              simp only [List.set_cons_succ, List.set_cons_zero] at hL4
              have kg := Keep.grown (T := 3) (World.ownsRow.alloc (HKP.out.v.own HO.out) _) (by decide) hg3
              have k24 : Keep 3 w2 (w3.setCell ⟨V, 3, none⟩ (.slice A6 (acc.length + 1) c6)) := ((Keep.of_below (below_alloc (Below.refl _ _) _)).trans kg).trans (Keep.set hL3.v (by decide) 3 _)
              have hv := HVE.out
              refine ⟨k, acc ++ [v], (voteR s').2, A6, c6, by go_num, by simp; omega, ?_, ?_, ?_⟩
              · show _ ∧ _
                have := HI.out
                rw [HST.out, ← hv] at this
                simpa using this
              · exact RowO.snoc hgl ((Keep.set hL3.v (by decide) 3 _).own ho3) (fun j x hx => (HK.out j x hx).keep (HKP.out.i.trans k24)) ⟨Av, cv, rfl, k24.own (own_weaken HOV.out (by have := hL.ext.size; simp; omega))⟩ rfl
              · simpa using hL4
            case measure => simp [intOf]
  case rest =>
    clear hL9 HW1
    obtain ⟨A1, c1, hvr0, hL0⟩ := hcut
    go_wp2_with fail
    go_loopw [5] (fun i wr => ∃ (k : Nat) (acc : List Pf) (s' : Rd) (A2 : Option Addr) (c2 : Nat), i = .int .i64 k ∧ acc.length + k ≤ 16 ∧ Hid (acc ++ (loopR proofR k s').1 = W2.1 ∧ (loopR proofR k s').2 = W2.2) ∧ RowO 36 7 (VtO B0 wr) B0 wr A1 c1 W1.1 ∧ RowO 38 14 (PfO B0 wr) B0 wr A2 c2 acc ∧ Lo B R A n c bs w 31 B0 V zBkL wr s' [.int .u64 va, .int .u64 vb, .int .i64 vc, .slice A1 W1.1.length c1, .slice A2 acc.length c2]) (fun i _ => (intOf i).toNat)
    case atStart => exact ⟨k2, [], _, none, 0, rfl, by simpa using hkk2, by show _ ∧ _; rw [HW2.out]; exact ⟨rfl, rfl⟩, hvr0, RowO.nil, hL0⟩
    case round =>
      clear hL0 hvr0
      obtain ⟨k, acc, s', A2, c2, rfl, hk2, HI, hvr, hpr, hL⟩ := hrel
      have hbad := hL.rs.badc
      cases k with
      | zero =>
        go_wp2_with (first
          | (refine wpList_load_mid rfl 31 _ rfl _ _ rfl [.int .u64 va, .int .u64 vb, .int .i64 vc, .slice A1 W1.1.length c1, .slice A2 acc.length c2] _ hL.range Tryd.underlying31 rfl iBk ?_)
          | (refine wpList_store_mid rfl 31 (.tmp 2) (.tmp 60) rfl B0 0 #[.int .u64 va, .int .u64 vb, .int .i64 vc, .slice A1 W1.1.length c1, .slice A2 acc.length c2] rfl rfl (hL.there _ rfl) iBk (all_oneCell_toArray (by simp [Value.oneCell'])) ?_))
        obtain ⟨o1, o2, o3⟩ := hL.out [.int .u64 va, .int .u64 vb, .int .i64 vc, .slice A1 W1.1.length c1, .slice A2 acc.length c2] rfl
        try simp only [Exit.inBlock, Exit.then]
        refine bodyPost_ret (results_cell_row rfl _ _ B0 _ _ _ _ rfl o1 Tryd.underlying31 rfl iBk) rfl ?_
        have he := HI.out
        rw [show loopR proofR 0 s' = ([], s') from rfl, List.append_nil] at he
        rw [HV.out, ← he.1, ← he.2]
        exact ⟨⟨va, vb, vc, W1.1, acc⟩, A1, c1, A2, c2, rfl, rfl, hvr.keep (Keep.sets hL.p (by decide) _) (fun _ _ x => x.keep (Keep.sets hL.p (by decide) _)), hpr.keep (Keep.sets hL.p (by decide) _) (fun _ _ x => x.keep (Keep.sets hL.p (by decide) _)), o2, o3⟩
      | succ k =>
        cases hb : s'.bad with
        | true =>
          rw [hb] at hbad
          go_wp2_with (first
            | (refine wpList_load_mid rfl 31 _ rfl _ _ rfl [.int .u64 va, .int .u64 vb, .int .i64 vc, .slice A1 W1.1.length c1, .slice A2 acc.length c2] _ hL.range Tryd.underlying31 rfl iBk ?_)
            | (refine wpList_store_mid rfl 31 (.tmp 2) (.tmp 60) rfl B0 0 #[.int .u64 va, .int .u64 vb, .int .i64 vc, .slice A1 W1.1.length c1, .slice A2 acc.length c2] rfl rfl (hL.there _ rfl) iBk (all_oneCell_toArray (by simp [Value.oneCell'])) ?_))
          obtain ⟨o1, o2, o3⟩ := hL.out [.int .u64 va, .int .u64 vb, .int .i64 vc, .slice A1 W1.1.length c1, .slice A2 acc.length c2] rfl
          try simp only [Exit.inBlock, Exit.then]
          refine bodyPost_ret (results_cell_row rfl _ _ B0 _ _ _ _ rfl o1 Tryd.underlying31 rfl iBk) rfl ?_
          have he := HI.out
          rw [loopR_end hb, List.append_nil] at he
          rw [HV.out, ← he.1, ← he.2]
          exact ⟨⟨va, vb, vc, W1.1, acc⟩, A1, c1, A2, c2, rfl, rfl, hvr.keep (Keep.sets hL.p (by decide) _) (fun _ _ x => x.keep (Keep.sets hL.p (by decide) _)), hpr.keep (Keep.sets hL.p (by decide) _) (fun _ _ x => x.keep (Keep.sets hL.p (by decide) _)), o2, o3⟩
        | false =>
          rw [hb] at hbad
          have HST := Lib.hid (loopR_step (f := proofR) (k := k) hb)
          go_upto_region 11 with (first
            | (go_at_call 17; refine (rvote_calls _ s' hL.rs).mono ?_; rintro e w2 ⟨v, Av, cv, hv, rfl, hov, h2, hx2⟩; have HVE := Lib.hid hv; clear hv)
            | (refine wpList_box 36 6 _ (.tmp 50) [.int .i64 v.slot, .int .u64 v.head, .int .i64 v.src.e, .int .u64 v.src.r, .int .i64 v.tgt.e, .int .u64 v.tgt.r, .slice Av v.who.length cv] rfl rfl rfl zVt rfl rfl iVt rfl ?_))
          have hw23 := below_alloc (Below.refl w2.heap.size w2) (.cells #[.int .i64 v.slot, .int .u64 v.head, .int .i64 v.src.e, .int .u64 v.src.r, .int .i64 v.tgt.e, .int .u64 v.tgt.r, .slice Av v.who.length cv] 36)
          have hblk := heap_new w2 (Obj.cells #[.int .i64 v.slot, .int .u64 v.head, .int .i64 v.src.e, .int .u64 v.src.r, .int .i64 v.tgt.e, .int .u64 v.tgt.r, .slice Av v.who.length cv] 36)
          have hL2 := (hL.call h2 hx2).below hw23
          have hkk := (hL.rs.keeps hx2).trans (Keeps.of_below hw23)
          have hvr2 := hvr.keep hkk.v (fun _ _ x => x.keep hkk.i)
          have hov2 := (Keep.of_below hw23).own hov
          have hPx : B0 ≤ w2.heap.size ∧ R < w2.heap.size := ⟨by have := (hL.call h2 hx2).ext.size; omega, by have := hL.r0; have := (hL.call h2 hx2).ext.size; omega⟩
          generalize w2.alloc _ = Wx at hblk hL2 hkk hvr2 hov2 ⊢
          generalize w2.heap.size = Px at hblk hPx ⊢
          have hw0 := (Below.refl Wx.heap.size Wx).drew
          obtain ⟨gcs, ho, hK⟩ := hpr.keep (hkk.p.trans (Keep.of_below hw0)) (fun _ _ x => PfO.keep x (hkk.i.trans (Keep.of_below hw0)))
          have hgl := ho.1
          have hBw : B0 ≤ wr.heap.size := by have := hL.ext.size; omega
          have HK := Lib.hid hK
          have HO := Lib.hid ho
          have HVR := Lib.hid hvr2
          have HOV := Lib.hid (own_weaken hov2 hBw)
          have HBLK := Lib.hid hblk
          obtain ⟨q0, q1, q2, q3, q4, q5, q6⟩ := vt7 hblk
          have kw : Wx.cell? ⟨V, 4, none⟩ = some (.slice A2 acc.length c2) := hL2.cell 4
          have tok1 : True := trivial
          clear hbad hvr hpr hL hov hov2 h2 hx2 hw23 hblk hkk hvr2 hK ho
          go_region_law (first
            | (go_simp; go_at_call 17; have _t := tok1; refine (rvote_calls _ (voteR s').2 (hL2.rs.below hw0)).mono ?_; rintro e w4 ⟨u, Au, cu, hu, rfl, hou, h4, hx4⟩; have hL4 := (hL2.below hw0).call h4 hx4; have kw2 : w4.cell? ⟨V, 4, none⟩ = some (.slice A2 acc.length c2) := hL4.cell 4; have kw2a : (w4.alloc (.cells #[.int .i64 v.slot, .int .u64 v.head, .int .i64 v.src.e, .int .u64 v.src.r, .int .i64 v.tgt.e, .int .u64 v.tgt.r, .slice Av v.who.length cv, .int .i64 u.slot, .int .u64 u.head, .int .i64 u.src.e, .int .u64 u.src.r, .int .i64 u.tgt.e, .int .u64 u.tgt.r, .slice Au u.who.length cu] 38)).cell? ⟨V, 4, none⟩ = some (.slice A2 acc.length c2) := (hL4.below (below_alloc (Below.refl _ _) _)).cell 4; have HKP := Lib.hid ((hL2.rs.below hw0).keeps hx4); have hb4 := blk_ext (blk_below HBLK.out hw0) hx4 (by show ¬ Px = R; omega); obtain ⟨j0, j1, j2, j3, j4, j5, j6⟩ := vt7 hb4; have HOU := Lib.hid hou; have HUE := Lib.hid hu; clear _t tok1 hou hu hb4)
            | (refine step_app B0 (by rfl) (.tmp 52) (.tmp 57) 29 38 _ 14 144 (by rfl) Tryd.underlying29 infoPf rfl (by decide) _ acc.length gcs (by rfl) (World.ownsRow.alloc (HKP.out.p.own HO.out) _) (some ⟨w4.heap.size, 0, none⟩) 1 1 [.int .i64 v.slot, .int .u64 v.head, .int .i64 v.src.e, .int .u64 v.src.r, .int .i64 v.tgt.e, .int .u64 v.tgt.r, .slice Av v.who.length cv, .int .i64 u.slot, .int .u64 u.head, .int .i64 u.src.e, .int .u64 u.src.r, .int .i64 u.tgt.e, .int .u64 u.tgt.r, .slice Au u.who.length cu] (by rfl) rfl flat_new (by simp [Value.oneCell']) (by omega) (by omega) (by have := hL4.ext.size; have := hB2; simp; omega) ?_; intro A6 c6 w5 ho5 hg5 _; have hL5 := (hL4.below (below_alloc (Below.refl _ _) _)).grown (by rw [HB0.out]; exact World.ownsRow.alloc (HKP.out.p.own HO.out) _) (by decide) hg5; have kw3 := hL5.cell 4; have fw3 := hL5.frozen 4))
          all_goals
            go_wp2
            go_roundw
            case rel =>
              have hL6 := hL5.set 4 (.slice A6 (acc.length + 1) c6)
              simp only [List.set_cons_succ, List.set_cons_zero] at hL6
              have kg := fun (T : TypeId) (hT : 38 ≠ T) => Keep.grown (T := T) (World.ownsRow.alloc (HKP.out.p.own HO.out) _) hT hg5
              have k46 := fun (T : TypeId) (hT : 38 ≠ T) (hT2 : T ≠ 31) => ((Keep.of_below (T := T) (below_alloc (Below.refl _ _) _)).trans (kg T hT)).trans (Keep.set hL5.v hT2 4 (.slice A6 (acc.length + 1) c6))
              have ki := k46 3 (by decide) (by decide)
              have kv := k46 36 (by decide) (by decide)
              have hbw := Keep.of_below (T := 3) hw0
              have hbv := Keep.of_below (T := 36) hw0
              have hv := HVE.out
              have hu := HUE.out
              have hBx : B0 ≤ Wx.drew.heap.size := by have := (hL2.below hw0).ext.size; omega
              refine ⟨k, acc ++ [⟨v, u⟩], (proofR s').2, A6, c6, by go_num, by simp; omega, ?_, ?_, ?_, ?_⟩
              · show _ ∧ _
                have := HI.out
                rw [HST.out, show (proofR s').1 = ⟨v, u⟩ from by rw [hv, hu]; rfl] at this
                simpa using this
              · exact HVR.out.keep ((hbv.trans HKP.out.v).trans kv) (fun _ _ x => x.keep ((hbw.trans HKP.out.i).trans ki))
              · exact RowO.snoc hgl ((Keep.set hL5.v (by decide) 4 _).own ho5) (fun j x hx => (HK.out j x hx).keep (HKP.out.i.trans ki)) ⟨_, _, rfl, ⟨Av, cv, rfl, ((hbw.trans HKP.out.i).trans ki).own HOV.out⟩, ⟨Au, cu, rfl, ki.own (own_weaken HOU.out hBx)⟩⟩ rfl
              · rw [show (proofR s').2 = (voteR (voteR s').2).2 from rfl]; simpa using hL6
            case measure => simp [intOf]
end Go.Proofs.YtccficljaomhhaaDoor
