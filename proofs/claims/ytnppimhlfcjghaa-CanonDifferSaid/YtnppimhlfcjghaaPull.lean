/- ledger.Pull, ledger.Open. -/
import Derived.Test.YtnppimhlfcjghaaEnds
namespace Go.Proofs.Ytnppimhlfcjghaa
open Go.RowKit
set_option maxRecDepth 100000
set_option maxHeartbeats 8000000
/-- A ledger whose numbers fit. -/
structure LsOk (n : Nat) (l : Ls) : Prop where
  j : JsB l.j
  e0 : 0 ≤ l.epoch
  e1 : l.epoch ≤ 1099511627776
  b : l.before.length = n
  n : l.now.length = n
theorem iLs : (Try.prog.info? 87).map (·.size) = some 13 := by kernel_rfl
theorem iCf : (Try.prog.info? 36).map (·.size) = some 3 := by kernel_rfl
theorem totalW_bd {c : Cf} (hok : c.ok) : 0 ≤ totalW c ∧ totalW c ≤ 17592186044416 := by
  have := sumW_bd hok (iota c.bal.length)
  rw [iota_length] at this
  have := hok.l2
  unfold totalW; omega
theorem whoL_inI (is : List Bool) (h : is.length ≤ 4096) : ∀ x ∈ whoL is, inI x := fun x hx => iota_inI _ h x (List.mem_filter.1 hx).1
/-- What a ledger's rows hold. -/
structure LsR (w : World) (l : Ls) (A : Option Addr) (A2 : Option Addr) : Prop where
  b : BoolsR w A l.before
  n : BoolsR w A2 l.now
theorem LsR.below {w w' : World} {l : Ls} {A A2 : Option Addr} (h : LsR w l A A2) (hb : Below w.heap.size w w') : LsR w' l A A2 := ⟨h.b.below hb, h.n.below hb⟩
theorem blk_setAll {w : World} {b : Nat} {c : Array Value} {t : TypeId} {f : Nat × Nat} (h : w.heap[b]? = some (.cells c t f)) (vs : List Value) (hl : vs.length = c.size) : (w.setCells b 0 vs).heap[b]? = some (.cells vs.toArray t f) := by
  have := blk_setCells vs c 0 w h
  rwa [setFrom_all vs c hl] at this
theorem Pull_calls (w : World) (c : Cf) (A : Option Addr) (k : Nat) (l : Ls) (A1 : Option Addr) (k1 : Nat) (A2 : Option Addr) (k2 : Nat) (g : Nat) (caps : Array Value) (f : Int → Int) (hok : c.ok) (hb : Ints anyB .u64 w A c.bal) (hl : LsOk c.bal.length l) (hr : LsR w l A1 A2) (h : ChainAt w g caps f) :
    Calls Try.prog 32 #[cfC c A k, .agg #[.bool l.j.b0, .bool l.j.b1, .bool l.j.b2, .bool l.j.b3, .int .i64 l.j.prev.e, .int .u64 l.j.prev.r, .int .i64 l.j.cur.e, .int .u64 l.j.cur.r, .int .i64 l.j.fin.e, .int .u64 l.j.fin.r, .int .i64 l.epoch, .slice A1 l.before.length k1, .slice A2 l.now.length k2], .func (.func g) #[] caps] w fun en w' => en = .returned (.agg #[.bool (pullL c l f).b0, .bool (pullL c l f).b1, .bool (pullL c l f).b2, .bool (pullL c l f).b3, .int .i64 (pullL c l f).prev.e, .int .u64 (pullL c l f).prev.r, .int .i64 (pullL c l f).cur.e, .int .u64 (pullL c l f).cur.r, .int .i64 (pullL c l f).fin.e, .int .u64 (pullL c l f).fin.r]) ∧ Below w.heap.size w w' := by
  obtain ⟨q0, q1, q2, hbw, hsz⟩ := alloc3 w (.cells #[.slice A c.bal.length k, .int .i64 c.slots, .int .i64 c.boost] 36) (.cells #[.bool l.j.b0, .bool l.j.b1, .bool l.j.b2, .bool l.j.b3, .int .i64 l.j.prev.e, .int .u64 l.j.prev.r, .int .i64 l.j.cur.e, .int .u64 l.j.cur.r, .int .i64 l.j.fin.e, .int .u64 l.j.fin.r, .int .i64 l.epoch, .slice A1 l.before.length k1, .slice A2 l.now.length k2] 87) (.cells #[.bool Js.zero.b0, .bool Js.zero.b1, .bool Js.zero.b2, .bool Js.zero.b3, .int .i64 Js.zero.prev.e, .int .u64 Js.zero.prev.r, .int .i64 Js.zero.cur.e, .int .u64 Js.zero.cur.r, .int .i64 Js.zero.fin.e, .int .u64 Js.zero.fin.r] 84)
  have hb1 := hb.below hbw
  have hr1 := hr.below hbw
  have h1 := h.below hbw
  have he0 := hl.e0
  have he1 := hl.e1
  simp only [Js.zero, Pt.zero] at q0 q1 q2 hbw hsz hb1 hr1 h1
  clear hb hr h
  go_enter Try.func32, Try.ntmps32
  go_upto_region 1 with fail
  generalize World.alloc (World.alloc (World.alloc w _) _) _ = W0 at q0 q1 q2 hbw hsz hb1 hr1 h1 ⊢
  generalize hB : w.heap.size = B at q0 q1 q2 hbw hsz ⊢
  have HB := Lib.hid hB
  have hBw : w.heap.size ≤ B := by omega
  clear hB
  have h10 := blk_cell q1 10
  by_cases hlt : l.epoch < 2
  · have HP : Hid (pullL c l f = l.j) := by show _ = _; rw [pullL, if_pos hlt]
    go_wp2_with (first
      | (refine wpList_loadP rfl 84 (.tmp 13) rfl (B + 1) 0 [.bool l.j.b0, .bool l.j.b1, .bool l.j.b2, .bool l.j.b3, .int .i64 l.j.prev.e, .int .u64 l.j.prev.r, .int .i64 l.j.cur.e, .int .u64 l.j.cur.r, .int .i64 l.j.fin.e, .int .u64 l.j.fin.r] _ q1 rfl rfl _ Try.underlying84 rfl iJs ?_)
      | (refine wpList_storeB rfl 84 (.tmp 6) (.tmp 14) rfl (B + 1 + 1) _ [.bool l.j.b0, .bool l.j.b1, .bool l.j.b2, .bool l.j.b3, .int .i64 l.j.prev.e, .int .u64 l.j.prev.r, .int .i64 l.j.cur.e, .int .u64 l.j.cur.r, .int .i64 l.j.fin.e, .int .u64 l.j.fin.r] q2 rfl rfl rfl iJs rfl ?_; intro W1 hR hx1 hs1))
    refine bodyPost_ret (results_cellB rfl _ (B + 1 + 1) _ hR rfl _ Try.underlying84 rfl iJs) rfl ⟨?_, ?_⟩
    · rw [HP.out]
    · rw [HB.out]
      exact hbw.trans (hx1.below (by omega) (fun i hi e => by omega))
  · have HP : Hid (pullL c l f = nextJ l.j l.epoch (enough (sumW c.bal (whoL l.before)) (totalW c)) (enough (sumW c.bal (whoL l.now)) (totalW c)) (pointL c (l.epoch - 1) f) (pointL c l.epoch f)) := by show _ = _; rw [pullL, if_neg hlt]
    obtain ⟨c0, c1, c2⟩ := cs3 q0
    go_upto_region 4 with (go_at_call 50; refine (Total_calls _ c A k hok hb1).mono ?_; rintro e W1 ⟨rfl, hbT⟩)
    have hT := totalW_bd hok
    have hB3 : B + 1 + 1 < W0.heap.size := blk_lt q2
    have q0 := blk_below q0 hbT
    have q1 := blk_below q1 hbT
    have q2 := blk_below q2 hbT
    have hb1 := hb1.below hbT
    have hr1 := hr1.below hbT
    have h1 := h1.below hbT
    have hbw := hbw.trans (hbT.mono (by omega))
    clear hbT c0 c1 c2
    have hwb := whoL_le l.before
    have hwn := whoL_le l.now
    have hib := whoL_inI l.before (by rw [hl.b]; exact hok.l2)
    have hin := whoL_inI l.now (by rw [hl.n]; exact hok.l2)
    have hlb : l.before.length ≤ 4096 := by rw [hl.b]; exact hok.l2
    have hln : l.now.length ≤ 4096 := by rw [hl.n]; exact hok.l2
    have cW := fun (W : World) (hW : Below W1.heap.size W1 W) => who_calls W A1 k1 l.before (hr1.b.below hW) hlb
    have cW2 := fun (W : World) (hW : Below W1.heap.size W1 W) => who_calls W A2 k2 l.now (hr1.n.below hW) hln
    have cS := fun (W : World) (hW : Below W1.heap.size W1 W) (A' : Option Addr) (k' : Nat) hi => Sum_calls W c A k A' k' (whoL l.before) hok (hb1.below hW) hi hib (by omega)
    have cS2 := fun (W : World) (hW : Below W1.heap.size W1 W) (A' : Option Addr) (k' : Nat) hi => Sum_calls W c A k A' k' (whoL l.now) hok (hb1.below hW) hi hin (by omega)
    have sb := sumW_bd hok (whoL l.before)
    have sn := sumW_bd hok (whoL l.now)
    have cE := fun W => Enough_calls W (sumW c.bal (whoL l.before)) (totalW c) sb.1 (by omega) hT.1 (by omega)
    have cE2 := fun W => Enough_calls W (sumW c.bal (whoL l.now)) (totalW c) sn.1 (by omega) hT.1 (by omega)
    have cP := fun (W : World) (hW : Below W1.heap.size W1 W) => point_calls W c A k (l.epoch - 1) g caps f hok (by unfold inI; omega) (by omega) (h1.below hW)
    have cP2 := fun (W : World) (hW : Below W1.heap.size W1 W) => point_calls W c A k l.epoch g caps f hok (by unfold inI; omega) (by omega) (h1.below hW)
    have cN := fun (W : World) (x y : Bool) (p q : Pt) => Next_calls W l.j l.epoch x y p q hl.j
    have KB : ∀ W, Below W1.heap.size W1 W → (W.cell? ⟨B, 0, none⟩ = some (.slice A c.bal.length k) ∧ W.cell? ⟨B, 1, none⟩ = some (.int .i64 c.slots) ∧ W.cell? ⟨B, 2, none⟩ = some (.int .i64 c.boost)) ∧ W.cell? ⟨B + 1, 11, none⟩ = some (.slice A1 l.before.length k1) := fun W hW => by
      obtain ⟨x0, x1, x2⟩ := cs3 (blk_below q0 hW)
      exact ⟨⟨x0, x1, x2⟩, blk_cell (blk_below q1 hW) 11⟩
    clear hwb hwn hib hin hlb hln hr1 sb sn hT hb1 h1
    generalize enough (sumW c.bal (whoL l.before)) (totalW c) = EB at cE HP
    generalize enough (sumW c.bal (whoL l.now)) (totalW c) = EN at cE2 HP
    generalize totalW c = T at cE cE2
    generalize sumW c.bal (whoL l.before) = SB at cE cS
    generalize sumW c.bal (whoL l.now) = SN at cE2 cS2
    go_cut [8] (fun v w' => v = .bool EB ∧ Below W1.heap.size W1 w')
    case first =>
      go_region_held3 (fun w' => (w'.cell? ⟨B, 0, none⟩ = some (.slice A c.bal.length k) ∧ w'.cell? ⟨B, 1, none⟩ = some (.int .i64 c.slots) ∧ w'.cell? ⟨B, 2, none⟩ = some (.int .i64 c.boost)) ∧ w'.cell? ⟨B + 1, 11, none⟩ = some (.slice A1 l.before.length k1)) (first | exact KB _ (Below.refl _ _).drew | exact KB _ (by assumption))
        (first
          | (go_at_call 53; refine (cW _ (Below.refl _ _).drew).mono ?_; rintro e w2 ⟨A', c', rfl, hi, hb2'⟩; have hb2 := undrew hb2')
          | (go_at_call 52; refine (cS _ hb2 A' c' hi.any).mono ?_; rintro e w3 ⟨rfl, hb3'⟩; have hb3 := below_trans hb2 hb3')
          | (go_at_call 51; refine (cE _).mono ?_; rintro e w4 ⟨rfl, rfl⟩))
      go_wp2
      go_meet
      case rel => exact ⟨rfl, by assumption⟩
    case rest =>
      obtain ⟨rfl, hb4⟩ := hcut
      obtain ⟨W5, rfl⟩ : ∃ W5 : World, W5 = wc := ⟨_, rfl⟩
      have KN : ∀ W, Below W1.heap.size W1 W → (W.cell? ⟨B, 0, none⟩ = some (.slice A c.bal.length k) ∧ W.cell? ⟨B, 1, none⟩ = some (.int .i64 c.slots) ∧ W.cell? ⟨B, 2, none⟩ = some (.int .i64 c.boost)) ∧ W.cell? ⟨B + 1, 12, none⟩ = some (.slice A2 l.now.length k2) := fun W hW => by
        obtain ⟨x0, x1, x2⟩ := cs3 (blk_below q0 hW)
        exact ⟨⟨x0, x1, x2⟩, blk_cell (blk_below q1 hW) 12⟩
      have hd5 : Below W1.heap.size W1 W5.drew := hb4.drew
      clear KB
      go_upto_region 5 with fail
      go_cut [9] (fun v w' => v = .bool EN ∧ Below W1.heap.size W1 w')
      case first =>
        go_region_held3 (fun w' => (w'.cell? ⟨B, 0, none⟩ = some (.slice A c.bal.length k) ∧ w'.cell? ⟨B, 1, none⟩ = some (.int .i64 c.slots) ∧ w'.cell? ⟨B, 2, none⟩ = some (.int .i64 c.boost)) ∧ w'.cell? ⟨B + 1, 12, none⟩ = some (.slice A2 l.now.length k2)) (exact KN _ (by assumption))
          (first
            | (go_at_call 53; refine (cW2 _ hd5).mono ?_; rintro e w2 ⟨A', c', rfl, hi, hb2'⟩; have hb2 := hd5.trans (hb2'.mono hd5.size))
            | (go_at_call 52; refine (cS2 _ hb2 A' c' hi.any).mono ?_; rintro e w3 ⟨rfl, hb3'⟩; have hb3 := below_trans hb2 hb3')
            | (go_at_call 51; refine (cE2 _).mono ?_; rintro e w4 ⟨rfl, rfl⟩))
        go_wp2
        go_meet
        case rel => exact ⟨rfl, by assumption⟩
      case rest =>
        obtain ⟨rfl, hb6⟩ := hcut
        obtain ⟨W6, rfl⟩ : ∃ W6 : World, W6 = wc := ⟨_, rfl⟩
        clear hd5 hb4 KN cW cW2 cS cS2 cE cE2
        have hd6 : Below W1.heap.size W1 W6.drew := hb6.drew
        have tok : True := trivial
        have hw1 : IntKind.i64.wrap (l.epoch - 1) = l.epoch - 1 := IntWalk.i64_in _ (by omega)
        have KJ : ∀ W, Below W1.heap.size W1 W → (W.cell? ⟨B, 0, none⟩ = some (.slice A c.bal.length k) ∧ W.cell? ⟨B, 1, none⟩ = some (.int .i64 c.slots) ∧ W.cell? ⟨B, 2, none⟩ = some (.int .i64 c.boost)) ∧ (W.cell? ⟨B + 1, 0, none⟩ = some (.bool l.j.b0) ∧ W.cell? ⟨B + 1, 1, none⟩ = some (.bool l.j.b1) ∧ W.cell? ⟨B + 1, 2, none⟩ = some (.bool l.j.b2) ∧ W.cell? ⟨B + 1, 3, none⟩ = some (.bool l.j.b3) ∧ W.cell? ⟨B + 1, 4, none⟩ = some (.int .i64 l.j.prev.e) ∧ W.cell? ⟨B + 1, 5, none⟩ = some (.int .u64 l.j.prev.r) ∧ W.cell? ⟨B + 1, 6, none⟩ = some (.int .i64 l.j.cur.e) ∧ W.cell? ⟨B + 1, 7, none⟩ = some (.int .u64 l.j.cur.r) ∧ W.cell? ⟨B + 1, 8, none⟩ = some (.int .i64 l.j.fin.e) ∧ W.cell? ⟨B + 1, 9, none⟩ = some (.int .u64 l.j.fin.r) ∧ W.cell? ⟨B + 1, 10, none⟩ = some (.int .i64 l.epoch) ∧ W.cell? ⟨B + 1, 11, none⟩ = some (.slice A1 l.before.length k1) ∧ W.cell? ⟨B + 1, 12, none⟩ = some (.slice A2 l.now.length k2)) := fun W hW => by
          exact ⟨cs3 (blk_below q0 hW), cs13 (blk_below q1 hW)⟩
        have KE : ∀ {W W' : World}, Below W1.heap.size W1 W → Ext (fun i => i = B + 1 + 1) W W' → (W'.cell? ⟨B, 0, none⟩ = some (.slice A c.bal.length k) ∧ W'.cell? ⟨B, 1, none⟩ = some (.int .i64 c.slots) ∧ W'.cell? ⟨B, 2, none⟩ = some (.int .i64 c.boost)) ∧ (W'.cell? ⟨B + 1, 0, none⟩ = some (.bool l.j.b0) ∧ W'.cell? ⟨B + 1, 1, none⟩ = some (.bool l.j.b1) ∧ W'.cell? ⟨B + 1, 2, none⟩ = some (.bool l.j.b2) ∧ W'.cell? ⟨B + 1, 3, none⟩ = some (.bool l.j.b3) ∧ W'.cell? ⟨B + 1, 4, none⟩ = some (.int .i64 l.j.prev.e) ∧ W'.cell? ⟨B + 1, 5, none⟩ = some (.int .u64 l.j.prev.r) ∧ W'.cell? ⟨B + 1, 6, none⟩ = some (.int .i64 l.j.cur.e) ∧ W'.cell? ⟨B + 1, 7, none⟩ = some (.int .u64 l.j.cur.r) ∧ W'.cell? ⟨B + 1, 8, none⟩ = some (.int .i64 l.j.fin.e) ∧ W'.cell? ⟨B + 1, 9, none⟩ = some (.int .u64 l.j.fin.r) ∧ W'.cell? ⟨B + 1, 10, none⟩ = some (.int .i64 l.epoch) ∧ W'.cell? ⟨B + 1, 11, none⟩ = some (.slice A1 l.before.length k1) ∧ W'.cell? ⟨B + 1, 12, none⟩ = some (.slice A2 l.now.length k2)) := fun hW hx => by
          exact ⟨cs3 (blk_ext (blk_below q0 hW) hx (by omega)), cs13 (blk_ext (blk_below q1 hW) hx (by omega))⟩
        generalize pointL c (l.epoch - 1) f = P1 at cP HP
        generalize pointL c l.epoch f = P2 at cP2 HP
        have cN := fun W => cN W EB EN P1 P2
        generalize hNJ : nextJ l.j l.epoch EB EN P1 P2 = NJ at cN HP
        clear hNJ
        go_upto_region 6 with fail
        go_region_held3 (fun w' => (w'.cell? ⟨B, 0, none⟩ = some (.slice A c.bal.length k) ∧ w'.cell? ⟨B, 1, none⟩ = some (.int .i64 c.slots) ∧ w'.cell? ⟨B, 2, none⟩ = some (.int .i64 c.boost)) ∧ (w'.cell? ⟨B + 1, 0, none⟩ = some (.bool l.j.b0) ∧ w'.cell? ⟨B + 1, 1, none⟩ = some (.bool l.j.b1) ∧ w'.cell? ⟨B + 1, 2, none⟩ = some (.bool l.j.b2) ∧ w'.cell? ⟨B + 1, 3, none⟩ = some (.bool l.j.b3) ∧ w'.cell? ⟨B + 1, 4, none⟩ = some (.int .i64 l.j.prev.e) ∧ w'.cell? ⟨B + 1, 5, none⟩ = some (.int .u64 l.j.prev.r) ∧ w'.cell? ⟨B + 1, 6, none⟩ = some (.int .i64 l.j.cur.e) ∧ w'.cell? ⟨B + 1, 7, none⟩ = some (.int .u64 l.j.cur.r) ∧ w'.cell? ⟨B + 1, 8, none⟩ = some (.int .i64 l.j.fin.e) ∧ w'.cell? ⟨B + 1, 9, none⟩ = some (.int .u64 l.j.fin.r) ∧ w'.cell? ⟨B + 1, 10, none⟩ = some (.int .i64 l.epoch) ∧ w'.cell? ⟨B + 1, 11, none⟩ = some (.slice A1 l.before.length k1) ∧ w'.cell? ⟨B + 1, 12, none⟩ = some (.slice A2 l.now.length k2))) (first | (with_reducible exact KJ _ (by assumption)) | exact KE hb4 (((((((((((Ext.refl _ _).set1).set1).set1).set1).set1).set1).set1).set1).set1).set1))
          (first
            | (go_at_call 47; have _t := tok; refine (cP _ hd6).mono ?_; rintro e w2 ⟨rfl, hb2'⟩; have hb2 := hd6.trans (hb2'.mono hd6.size); clear _t tok)
            | (go_at_call 47; refine (cP2 _ hb2).mono ?_; rintro e w3 ⟨rfl, hb3'⟩; have hb3 := below_trans hb2 hb3')
            | (go_at_call 54; refine (cN _).mono ?_; rintro e w4 ⟨rfl, hb4'⟩; have hb4 := below_trans hb3 hb4'; have hR := blk_below q2 hb4; obtain ⟨r0, r1, r2, r3, r4, r5, r6, r7, r8, r9⟩ := cs10 hR; have z := blk_frozen hR; have z0 := z 0; have z1 := z 1; have z2 := z 2; have z3 := z 3; have z4 := z 4; have z5 := z 5; have z6 := z 6; have z7 := z 7; have z8 := z 8; have z9 := z 9; clear z))
        go_wp2
        have hF := blk_setAll hR [.bool NJ.b0, .bool NJ.b1, .bool NJ.b2, .bool NJ.b3, .int .i64 NJ.prev.e, .int .u64 NJ.prev.r, .int .i64 NJ.cur.e, .int .u64 NJ.cur.r, .int .i64 NJ.fin.e, .int .u64 NJ.fin.r] rfl
        have hX := (((((((((((Ext.refl (fun i => i = B + 1 + 1) w4).set1 (o := 0) (u := .bool NJ.b0)).set1 (o := 1) (u := .bool NJ.b1)).set1 (o := 2) (u := .bool NJ.b2)).set1 (o := 3) (u := .bool NJ.b3)).set1 (o := 4) (u := .int .i64 NJ.prev.e)).set1 (o := 5) (u := .int .u64 NJ.prev.r)).set1 (o := 6) (u := .int .i64 NJ.cur.e)).set1 (o := 7) (u := .int .u64 NJ.cur.r)).set1 (o := 8) (u := .int .i64 NJ.fin.e)).set1 (o := 9) (u := .int .u64 NJ.fin.r))
        simp only [World.setCells, Nat.zero_add, Nat.reduceAdd] at hF
        generalize World.setCell (World.setCell (World.setCell (World.setCell (World.setCell (World.setCell (World.setCell (World.setCell (World.setCell (World.setCell w4 _ _) _ _) _ _) _ _) _ _) _ _) _ _) _ _) _ _) _ _ = W9 at hF hX ⊢
        refine bodyPost_ret (results_cellB rfl _ (B + 1 + 1) _ hF rfl _ Try.underlying84 rfl iJs) rfl ⟨?_, ?_⟩
        · rw [HP.out]
        · rw [HB.out]
          exact (hbw.trans (hb4.mono (by have := blk_lt q2; omega))).trans (hX.below (by have := blk_lt hR; omega) (fun i hi e => by omega))
end Go.Proofs.Ytnppimhlfcjghaa
