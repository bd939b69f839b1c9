/- wire: Decode. -/
import Derived.Test.YtccficljaomhhaaDoorDec5
import Derived.Deep.CutRange
namespace Go.Proofs.YtccficljaomhhaaDoor
open Go.RowKit
attribute [local go_sem ↓] Go.wp_at_zero Go.wp_at_succ
def lenV : Value → Nat
  | .slice _ n _ => n
  | _ => 0
section
variable {B R : Nat} {A : Option Addr} {n c : Nat} {bs : List Int}
theorem RS.place {w : World} {s : Rd} (h : RS B R A n c bs w s) : ∃ q : Nat, w.cell? ⟨R, 1, none⟩ = some (.int .i64 q) ∧ Hid (q = 8 * ((groups bs).length - s.rem.length)) ∧ q ≤ n ∧ Hid (q < n ↔ ¬ (s.rem = [] ∧ decide (n % 8 ≠ 0) = false)) := by
  obtain ⟨_, _, _, hl, _, p, q, hq, h5, h6, h7⟩ := h
  have hg := groups_length bs
  have hr : s.rem.length = (groups bs).length - p := by rw [← h5, List.length_drop]
  refine ⟨q, blk_cell h7 1, by show _ = _; omega, by omega, ?_⟩
  show _ ↔ _
  have he : s.rem = [] ↔ (groups bs).length ≤ p := by rw [← h5]; exact List.drop_eq_nil_iff
  rw [he]
  simp only [decide_eq_false_iff_not, Decidable.not_not]
  omega
theorem RS.grown {w w' : World} {s : Rd} (h : RS B R A n c bs w s) {base size k : Nat} {e : TypeId} {v : Value} {xs : List Value} (ho : w.ownsRow base e size v k xs) (hb : B ≤ base) (hne : e ≠ 61) (hg : w.grownBy w' v.ownBlock) : RS B R A n c bs w' s := by
  refine h.ext (F := fun i => some i = v.ownBlock) ((Ext.refl _ w).grown hg (fun i hi => .inl hi.symm)) ?_ (fun i hi => .inr (by have := own_base ho i hi.symm; omega))
  obtain ⟨_, _, _, _, _, p, q, hq, h5, h6, h7⟩ := h
  exact own_type_ne ho h7 hne
/-- One variable of the call's own, laid behind wr. -/
structure Bx (B R : Nat) (A : Option Addr) (n c : Nat) (bs : List Int) (w0 : World) (T : TypeId) (V : Nat) (w : World) (s : Rd) (vs : List Value) : Prop where
  rs : RS B R A n c bs w s
  v : w.heap[V]? = some (.cells vs.toArray T (0, 0))
  v0 : w0.heap.size ≤ V
  r0 : R < w0.heap.size
  b0 : B ≤ w0.heap.size
  ext : Ext (· = R) w0 w
section
variable {w0 w w' : World} {T : TypeId} {V : Nat} {vs : List Value} {s s' : Rd}
theorem Bx.call (h : Bx B R A n c bs w0 T V w s vs) (h' : RS B R A n c bs w' s') (hx : Ext (· = R) w w') : Bx B R A n c bs w0 T V w' s' vs :=
  ⟨h', blk_ext h.v hx (by have := h.r0; have := h.v0; show ¬ V = R; omega), h.v0, h.r0, h.b0, h.ext.trans hx (fun _ _ x => x)⟩
theorem Bx.below (h : Bx B R A n c bs w0 T V w s vs) (hb : Below w.heap.size w w') : Bx B R A n c bs w0 T V w' s vs := h.call (h.rs.below hb) (Ext.of_below hb)
theorem Bx.sets (h : Bx B R A n c bs w0 T V w s vs) (o : Nat) (us : List Value) {vs' : List Value} (hv : setFrom vs.toArray o us = vs'.toArray) : Bx B R A n c bs w0 T V (w.setCells V o us) s vs' :=
  ⟨h.rs.ext (Ext.sets (F := (· = V)) rfl us o (Ext.refl _ w)) (by have := h.r0; have := h.v0; show ¬ R = V; omega) (fun b e => .inr (by have := h.b0; have := h.v0; omega)), by rw [← hv]; exact blk_sets us _ o h.v, h.v0, h.r0, h.b0, Ext.fars h.v0 us o h.ext⟩
theorem Bx.cell (h : Bx B R A n c bs w0 T V w s vs) (i : Nat) : w.cell? ⟨V, i, none⟩ = vs[i]? := by rw [blk_cell h.v]; simp
theorem Bx.frozen (h : Bx B R A n c bs w0 T V w s vs) (i : Nat) : w.frozen? ⟨V, i, none⟩ = false := blk_frozen h.v i
theorem Bx.range (h : Bx B R A n c bs w0 T V w s vs) : w.rangeAt V 0 vs := fun j v hj => by rw [Nat.zero_add, h.cell]; exact hj
theorem Bx.there (h : Bx B R A n c bs w0 T V w s vs) (o k : Nat) (hu : o + k ≤ vs.length) : w.there V o k := fun j hj => by
  rw [h.cell, h.frozen, List.getElem?_eq_getElem (by omega)]
  exact ⟨rfl, rfl⟩
end
end
/-- What Decode answers, D being what the plain reader makes of G numbers. -/
def DecE (B0 n G : Nat) (D : Option (List Ev) × Nat) (e : Ending) (w' : World) : Prop :=
  (∃ xs A' c', D.1 = some xs ∧ xs.length ≤ 4096 ∧ e = .returned (.tuple #[.slice A' xs.length c', .int .i64 n, .nilIface]) ∧ RowO 40 28 (EvO B0 w') B0 w' A' c' xs) ∨
  (D.1 = none ∧ e = .returned (.tuple #[.slice none 0 0, .int .i64 ((8 * (G - D.2) : Nat) : Int), .iface 48 (.int .i64 1)]))
set_option maxHeartbeats 4000000 in
set_option maxRecDepth 100000 in
theorem Decode_calls (w : World) (A : Option Addr) (n c : Nat) (bs : List Int) (hi : Ints anyB .u8 w A bs) (hb : bytesW bs) (hn : bs.length = n) (hf : Fits n c) :
    Calls Tryd.prog 9 #[.slice A n c] w fun e w' => Below w.heap.size w w' ∧ DecE w.heap.size n (groups bs).length (decR (decide (n % 8 ≠ 0)) 4096 (groups bs)) e w' := by
  have hi' : Ints (fun b => b < w.heap.size) .u8 w A bs := (Lie.lt hi (by decide)).mono (fun _ _ _ x => x) (fun _ x => x.2) (fun _ _ _ => rfl)
  have hS : RS w.heap.size w.heap.size A n c bs (w.alloc (.cells #[.slice A n c, .int .i64 0, .bool false] 61)) ⟨groups bs, false⟩ :=
    ⟨Lie.mono hi' (fun _ _ _ x => x) (fun b hb => ⟨by omega, hb⟩) (fun b hb hb' => (below_alloc (Below.refl w.heap.size w) _).block b hb'), by simp, hb, hn, hf, 0, 0, rfl, rfl, Nat.zero_le _, heap_new w _⟩
  have hb1 := below_alloc (Below.refl w.heap.size w) (.cells #[.slice A n c, .int .i64 0, .bool false] 61)
  have hsz : w.heap.size < (w.alloc (.cells #[.slice A n c, .int .i64 0, .bool false] 61)).heap.size := by simp
  clear hi hi'
  obtain ⟨B0, HB0, hB1, hB2⟩ := size_hid w
  rw [HB0.out] at hS hb1 hsz ⊢
  obtain ⟨tl, htl⟩ : ∃ tl, tl = decide (n % 8 ≠ 0) := ⟨_, rfl⟩
  rw [← htl]
  have HTL := Lib.hid htl
  clear htl
  obtain ⟨D, hD⟩ : ∃ D, D = decR tl 4096 (groups bs) := ⟨_, rfl⟩
  rw [← hD]
  have HD := Lib.hid hD
  clear hD
  go_enter Tryd.func9, Tryd.ntmps9
  go_upto_region 2 with fail
  rw [HB0.out]
  generalize w.alloc _ = W1 at hS hb1 hsz ⊢
  go_wp2
  go_loopw [6] (fun o wr => ∃ (acc : List Ev) (rem : List Int) (Ao : Option Addr) (co : Nat), o = .slice Ao acc.length co ∧ acc.length ≤ 4096 ∧ Hid (D = ((decR tl (4096 - acc.length) rem).1.map (acc ++ ·), (decR tl (4096 - acc.length) rem).2)) ∧ RowO 40 28 (EvO B0 wr) B0 wr Ao co acc ∧ RS B0 B0 A n c bs wr ⟨rem, false⟩ ∧ Below B0 w wr ∧ B0 < wr.heap.size) (fun o _ => 4096 - lenV o)
  case atStart => exact ⟨[], groups bs, none, 0, rfl, by simp, by show _ = _; rw [HD.out]; simp, RowO.nil, hS, hb1, hsz⟩
  case round =>
    clear hS hb1 hsz
    obtain ⟨acc, rem, Ao, co, rfl, hk, HI, hrow, hS, hbw, hsz⟩ := hrel
    obtain ⟨q, hc1, HQ, hqn, HE⟩ := hS.place
    by_cases hlt : q < n
    · by_cases h4 : acc.length = 4096
      · go_upto_region 5 with fail
        go_quiet (fail)
        go_wp2
        go_ret3
        have hne := HE.out.1 hlt
        have hq := HQ.out
        have hd := HI.out
        rw [← HTL.out] at hne
        rw [h4, Nat.sub_self, decR, if_neg hne] at hd
        rw [hd]
        refine ⟨below_drewN hbw nq, .inr ⟨rfl, ?_⟩⟩
        rw [hq]
        rfl
      · have hk' : acc.length + 1 ≤ 4096 := by omega
        have HNE := Lib.hid (HE.out.1 hlt)
        have hr := smallR_range (m := 3) (by decide) hS.range
        go_upto_region 7 with (first
          | (go_at_call 15; refine (rsmall_calls _ ⟨rem, false⟩ _ hS (by decide) (by decide)).mono ?_; rintro e w2 ⟨rfl, h2, hx2⟩)
          | (refine wpList_box 40 7 _ (.tmp 28) [.int .i64 (smallR 3 ⟨rem, false⟩).1, .int .i64 0, .int .u64 0, .int .u64 0, .int .i64 0, .slice none 0 0, .slice none 0 0, .int .i64 0, .int .u64 0, .int .i64 0, .int .u64 0, .int .i64 0, .int .u64 0, .slice none 0 0, .int .i64 0, .int .u64 0, .int .i64 0, .int .u64 0, .int .i64 0, .int .u64 0, .slice none 0 0, .int .i64 0, .int .u64 0, .int .i64 0, .int .u64 0, .int .i64 0, .int .u64 0, .slice none 0 0] rfl rfl rfl zEv rfl rfl iEv rfl ?_))
        have hX : Bx B0 B0 A n c bs wr 40 w2.heap.size (w2.alloc (.cells #[.int .i64 (smallR 3 ⟨rem, false⟩).1, .int .i64 0, .int .u64 0, .int .u64 0, .int .i64 0, .slice none 0 0, .slice none 0 0, .int .i64 0, .int .u64 0, .int .i64 0, .int .u64 0, .int .i64 0, .int .u64 0, .slice none 0 0, .int .i64 0, .int .u64 0, .int .i64 0, .int .u64 0, .int .i64 0, .int .u64 0, .slice none 0 0, .int .i64 0, .int .u64 0, .int .i64 0, .int .u64 0, .int .i64 0, .int .u64 0, .slice none 0 0] 40)) (smallR 3 ⟨rem, false⟩).2 [.int .i64 (smallR 3 ⟨rem, false⟩).1, .int .i64 0, .int .u64 0, .int .u64 0, .int .i64 0, .slice none 0 0, .slice none 0 0, .int .i64 0, .int .u64 0, .int .i64 0, .int .u64 0, .int .i64 0, .int .u64 0, .slice none 0 0, .int .i64 0, .int .u64 0, .int .i64 0, .int .u64 0, .int .i64 0, .int .u64 0, .slice none 0 0, .int .i64 0, .int .u64 0, .int .i64 0, .int .u64 0, .int .i64 0, .int .u64 0, .slice none 0 0] :=
          ⟨h2.below (below_alloc (Below.refl _ _) _), heap_new w2 _, hx2.size, hsz, by omega, hx2.alloc _⟩
        clear h2 hx2
        generalize w2.alloc _ = W3 at hX ⊢
        generalize w2.heap.size = Px at hX ⊢
        obtain ⟨ER, hER⟩ : ∃ ER, ER = evR ⟨rem, false⟩ := ⟨_, rfl⟩
        have HER := Lib.hid hER
        rw [evR] at hER
        generalize (smallR 3 ⟨rem, false⟩).1 = x at hX hr hER ⊢
        generalize (smallR 3 ⟨rem, false⟩).2 = s1 at hX hER ⊢
        have HEX := Lib.hid hER
        have k0 := hX.cell 0
        clear hER
        go_upto_block 2 with fail
        clear k0
        go_cut [] from 11 to 66 (fun w' => ∃ vs, EvO B0 w' ER.1 vs ∧ vs.length = 28 ∧ Bx B0 B0 A n c bs wr 40 Px w' ER.2 vs)
        case first =>
          by_cases x0 : x = 0
          · subst x0
            have he : ER = (⟨0, (smallR 1099511627776 s1).1, Bk.zero, Vt.zero, Pf.zero⟩, (smallR 1099511627776 s1).2) := by rw [HEX.out]; rfl
            have HE2 := Lib.hid he
            clear he
            go_wp2_with (go_at_call 15; refine (rsmall_calls _ s1 _ hX.rs (by decide) (by decide)).mono ?_; rintro e w4 ⟨rfl, h4, hx4⟩; have hX4 := hX.call h4 hx4; have k1 := hX4.cell 1; have f1 := hX4.frozen 1)
            go_meet
            case rel =>
              rw [HE2.out]
              refine ⟨[.int .i64 0, (.int .i64 (smallR 1099511627776 s1).1), .int .u64 0, .int .u64 0, .int .i64 0, .slice none 0 0, .slice none 0 0, .int .i64 0, .int .u64 0, .int .i64 0, .int .u64 0, .int .i64 0, .int .u64 0, .slice none 0 0, .int .i64 0, .int .u64 0, .int .i64 0, .int .u64 0, .int .i64 0, .int .u64 0, .slice none 0 0, .int .i64 0, .int .u64 0, .int .i64 0, .int .u64 0, .int .i64 0, .int .u64 0, .slice none 0 0], ⟨_, _, _, rfl, BkO.zero, VtO.zero, PfO.zero⟩, rfl, hX4.sets 1 [.int .i64 (smallR 1099511627776 s1).1] rfl⟩
          · by_cases x1 : x = 1
            · subst x1
              have he : ER = (⟨1, 0, (blockR s1).1, Vt.zero, Pf.zero⟩, (blockR s1).2) := by rw [HEX.out]; rfl
              have HE2 := Lib.hid he
              clear he
              go_wp2_with (first
                | (go_at_call 16; refine (rblock_calls _ s1 hX.rs).mono ?_; rintro e w4 ⟨b, A1, c1, A2, c2, hb', rfl, hv4, hp4, h4, hx4⟩; have HBE := Lib.hid hb'; have hX4 := hX.call h4 hx4; clear hb')
                | (refine wpList_store_mid rfl 31 (.tmp 48) (.tmp 47) rfl Px 2 #[.int .u64 b.root, .int .u64 b.parent, .int .i64 b.slot, .slice A1 b.votes.length c1, .slice A2 b.proofs.length c2] rfl rfl (hX4.there 2 _ (by simp)) iBk (all_oneCell_toArray (by simp [Value.oneCell'])) ?_))
              go_meet
              case rel =>
                rw [HE2.out, ← HBE.out]
                have hb0 : B0 ≤ W3.heap.size := by have := hX.ext.size; have := hX.b0; omega
                have ki := fun (T : TypeId) (hT : T ≠ 40) => Keep.of_ext (T := T) (Ext.sets (F := (· = Px)) rfl [.int .u64 b.root, .int .u64 b.parent, .int .i64 b.slot, .slice A1 b.votes.length c1, .slice A2 b.proofs.length c2] 2 (Ext.refl _ w4)) hX4.v hT
                refine ⟨[.int .i64 1, .int .i64 0, .int .u64 b.root, .int .u64 b.parent, .int .i64 b.slot, .slice A1 b.votes.length c1, .slice A2 b.proofs.length c2, .int .i64 0, .int .u64 0, .int .i64 0, .int .u64 0, .int .i64 0, .int .u64 0, .slice none 0 0, .int .i64 0, .int .u64 0, .int .i64 0, .int .u64 0, .int .i64 0, .int .u64 0, .slice none 0 0, .int .i64 0, .int .u64 0, .int .i64 0, .int .u64 0, .int .i64 0, .int .u64 0, .slice none 0 0], ⟨_, _, _, rfl, ⟨A1, c1, A2, c2, rfl, ?_, ?_⟩, VtO.zero, PfO.zero⟩, rfl, hX4.sets 2 [.int .u64 b.root, .int .u64 b.parent, .int .i64 b.slot, .slice A1 b.votes.length c1, .slice A2 b.proofs.length c2] rfl⟩
                · exact (hv4.weak hb0 (fun _ _ x => x.weak hb0)).keep (ki _ (by decide)) (fun _ _ x => x.keep (ki _ (by decide)))
                · exact (hp4.weak hb0 (fun _ _ x => x.weak hb0)).keep (ki _ (by decide)) (fun _ _ x => x.keep (ki _ (by decide)))
            · by_cases x2 : x = 2
              · subst x2
                have he : ER = (⟨2, 0, Bk.zero, (voteR s1).1, Pf.zero⟩, (voteR s1).2) := by rw [HEX.out]; rfl
                have HE2 := Lib.hid he
                clear he
                go_wp2_with (first
                  | (go_at_call 17; refine (rvote_calls _ s1 hX.rs).mono ?_; rintro e w4 ⟨v, A1, c1, hv', rfl, hv4, h4, hx4⟩; have HBE := Lib.hid hv'; have hX4 := hX.call h4 hx4; clear hv')
                  | (refine wpList_store_mid rfl 36 (.tmp 53) (.tmp 52) rfl Px 7 #[.int .i64 v.slot, .int .u64 v.head, .int .i64 v.src.e, .int .u64 v.src.r, .int .i64 v.tgt.e, .int .u64 v.tgt.r, .slice A1 v.who.length c1] rfl rfl (hX4.there 7 _ (by simp)) iVt (all_oneCell_toArray (by simp [Value.oneCell'])) ?_))
                go_meet
                case rel =>
                  rw [HE2.out, ← HBE.out]
                  have hb0 : B0 ≤ W3.heap.size := by have := hX.ext.size; have := hX.b0; omega
                  have ki := Keep.of_ext (T := 3) (Ext.sets (F := (· = Px)) rfl [.int .i64 v.slot, .int .u64 v.head, .int .i64 v.src.e, .int .u64 v.src.r, .int .i64 v.tgt.e, .int .u64 v.tgt.r, .slice A1 v.who.length c1] 7 (Ext.refl _ w4)) hX4.v (by decide)
                  exact ⟨[.int .i64 2, .int .i64 0, .int .u64 0, .int .u64 0, .int .i64 0, .slice none 0 0, .slice none 0 0, .int .i64 v.slot, .int .u64 v.head, .int .i64 v.src.e, .int .u64 v.src.r, .int .i64 v.tgt.e, .int .u64 v.tgt.r, .slice A1 v.who.length c1, .int .i64 0, .int .u64 0, .int .i64 0, .int .u64 0, .int .i64 0, .int .u64 0, .slice none 0 0, .int .i64 0, .int .u64 0, .int .i64 0, .int .u64 0, .int .i64 0, .int .u64 0, .slice none 0 0], ⟨_, _, _, rfl, BkO.zero, ⟨A1, c1, rfl, ki.own (own_weaken hv4 hb0)⟩, PfO.zero⟩, rfl, hX4.sets 7 [.int .i64 v.slot, .int .u64 v.head, .int .i64 v.src.e, .int .u64 v.src.r, .int .i64 v.tgt.e, .int .u64 v.tgt.r, .slice A1 v.who.length c1] rfl⟩
              · have x3 : x = 3 := by omega
                subst x3
                have he : ER = (⟨3, 0, Bk.zero, Vt.zero, (proofR s1).1⟩, (proofR s1).2) := by rw [HEX.out]; rfl
                have HE2 := Lib.hid he
                clear he
                go_upto_region 9 with (first
                  | (go_at_call 17; refine (rvote_calls _ s1 hX.rs).mono ?_; rintro e w4 ⟨v, A1, c1, hv', rfl, hv4, h4, hx4⟩; have HBE := Lib.hid hv'; have hX4 := hX.call h4 hx4; clear hv')
                  | (refine wpList_store_mid rfl 36 (.tmp 34) (.tmp 32) rfl Px 14 #[.int .i64 v.slot, .int .u64 v.head, .int .i64 v.src.e, .int .u64 v.src.r, .int .i64 v.tgt.e, .int .u64 v.tgt.r, .slice A1 v.who.length c1] rfl rfl (hX4.there 14 _ (by simp)) iVt (all_oneCell_toArray (by simp [Value.oneCell'])) ?_))
                have hb0 : B0 ≤ W3.heap.size := by have := hX.ext.size; have := hX.b0; omega
                have ki := Keep.of_ext (T := 3) (Ext.sets (F := (· = Px)) rfl [.int .i64 v.slot, .int .u64 v.head, .int .i64 v.src.e, .int .u64 v.src.r, .int .i64 v.tgt.e, .int .u64 v.tgt.r, .slice A1 v.who.length c1] 14 (Ext.refl _ w4)) hX4.v (by decide)
                have hX5 := hX4.sets 14 [.int .i64 v.slot, .int .u64 v.head, .int .i64 v.src.e, .int .u64 v.src.r, .int .i64 v.tgt.e, .int .u64 v.tgt.r, .slice A1 v.who.length c1] (vs' := [.int .i64 3, .int .i64 0, .int .u64 0, .int .u64 0, .int .i64 0, .slice none 0 0, .slice none 0 0, .int .i64 0, .int .u64 0, .int .i64 0, .int .u64 0, .int .i64 0, .int .u64 0, .slice none 0 0, .int .i64 v.slot, .int .u64 v.head, .int .i64 v.src.e, .int .u64 v.src.r, .int .i64 v.tgt.e, .int .u64 v.tgt.r, .slice A1 v.who.length c1, .int .i64 0, .int .u64 0, .int .i64 0, .int .u64 0, .int .i64 0, .int .u64 0, .slice none 0 0]) rfl
                have hv5 := ki.own (own_weaken hv4 hb0)
                clear h4 hx4 hv4 ki
                generalize World.setCells _ _ _ _ = W5 at hX5 hv5 ⊢
                go_wp2_with (first
                  | (go_at_call 17; refine (rvote_calls _ _ hX5.rs).mono ?_; rintro e w6 ⟨u, A2, c2, hu', rfl, hv6, h6, hx6⟩; have HUE := Lib.hid hu'; have hX6 := hX5.call h6 hx6; clear hu')
                  | (refine wpList_store_mid rfl 36 (.tmp 38) (.tmp 36) rfl Px 21 #[.int .i64 u.slot, .int .u64 u.head, .int .i64 u.src.e, .int .u64 u.src.r, .int .i64 u.tgt.e, .int .u64 u.tgt.r, .slice A2 u.who.length c2] rfl rfl (hX6.there 21 _ (by simp)) iVt (all_oneCell_toArray (by simp [Value.oneCell'])) ?_))
                go_meet
                case rel =>
                  have hu := HUE.out
                  have hv := HBE.out
                  have hb5 : B0 ≤ W5.heap.size := by have := hX5.ext.size; have := hX5.b0; omega
                  have ki := Keep.of_ext (T := 3) (Ext.sets (F := (· = Px)) rfl [.int .i64 u.slot, .int .u64 u.head, .int .i64 u.src.e, .int .u64 u.src.r, .int .i64 u.tgt.e, .int .u64 u.tgt.r, .slice A2 u.who.length c2] 21 (Ext.refl _ w6)) hX6.v (by decide)
                  have kx := hX5.rs.keep hx6 (T := 3) (by decide)
                  rw [HE2.out, show proofR s1 = (⟨v, u⟩, (voteR (voteR s1).2).2) from by rw [hu, hv]; rfl]
                  exact ⟨[.int .i64 3, .int .i64 0, .int .u64 0, .int .u64 0, .int .i64 0, .slice none 0 0, .slice none 0 0, .int .i64 0, .int .u64 0, .int .i64 0, .int .u64 0, .int .i64 0, .int .u64 0, .slice none 0 0, .int .i64 v.slot, .int .u64 v.head, .int .i64 v.src.e, .int .u64 v.src.r, .int .i64 v.tgt.e, .int .u64 v.tgt.r, .slice A1 v.who.length c1, .int .i64 u.slot, .int .u64 u.head, .int .i64 u.src.e, .int .u64 u.src.r, .int .i64 u.tgt.e, .int .u64 u.tgt.r, .slice A2 u.who.length c2], ⟨_, _, _, rfl, BkO.zero, VtO.zero, ⟨_, _, rfl, ⟨A1, c1, rfl, (kx.trans ki).own hv5⟩, ⟨A2, c2, rfl, ki.own (own_weaken hv6 hb5)⟩⟩⟩, rfl, hX6.sets 21 [.int .i64 u.slot, .int .u64 u.head, .int .i64 u.src.e, .int .u64 u.src.r, .int .i64 u.tgt.e, .int .u64 u.tgt.r, .slice A2 u.who.length c2] rfl⟩
        case rest =>
          clear hX hr HEX
          obtain ⟨vs, hev, hvl, hX⟩ := hcut
          have hbad := hX.rs.badc
          obtain ⟨q', hc1', HQ', hqn', HE'⟩ := hX.rs.place
          cases hb' : ER.2.bad with
          | true =>
            rw [hb'] at hbad
            go_upto_region 17 with fail
            go_quiet (fail)
            go_wp2
            go_ret3
            have hq := HQ'.out
            have hd := HI.out
            have hne := HNE.out
            rw [← HTL.out] at hne
            have hsucc : 4096 - acc.length = (4096 - (acc.length + 1)) + 1 := by omega
            rw [hsucc, decR, if_neg hne, ← HER.out, if_pos hb'] at hd
            rw [hd]
            refine ⟨below_drewN (hbw.trans (hX.ext.below (by omega) (fun i hi => by omega))) nq, .inr ⟨rfl, ?_⟩⟩
            rw [hq]
            rfl
          | false =>
            rw [hb'] at hbad
            obtain ⟨e, s3⟩ := ER
            obtain ⟨r3, b3⟩ := s3
            simp only at hb' hev hX
            subst hb'
            obtain ⟨A1, c1, A2, c2, A3, c3, A4, c4, A5, c5, hr5, rfl⟩ := hev.k.open_
            obtain ⟨gcs, ho, hK⟩ := hrow
            have hgl := ho.1
            have ho2 := (hS.keep hX.ext (T := 40) (by decide)).own ho
            have hbc : Below B0 w wc := hbw.trans (hX.ext.below (by omega) (fun i hi => by omega))
            have hsc : B0 < wc.heap.size := by have := hX.ext.size; omega
            have HKP := Lib.hid (hS.keeps hX.ext)
            have HO2 := Lib.hid ho2
            have HK := Lib.hid hK
            have HD3 : Hid (D = ((decR tl (4096 - (acc.length + 1)) r3).1.map ((acc ++ [e]) ++ ·), (decR tl (4096 - (acc.length + 1)) r3).2)) := by
              show _ = _
              have hd := HI.out
              have hne := HNE.out
              rw [← HTL.out] at hne
              have hsucc : 4096 - acc.length = (4096 - (acc.length + 1)) + 1 := by omega
              rw [hsucc, decR, if_neg hne, ← HER.out] at hd
              simp only [Bool.false_eq_true, if_false, Option.map_map] at hd
              rw [hd]
              congr 2
              funext y
              simp
            clear ho ho2 hK hr5 hc1 hc1' hbw hlt
            go_wp2_with (first
              | (refine wpList_load_mid rfl 40 _ rfl _ _ rfl [.int .i64 e.kind, .int .i64 e.slot, .int .u64 e.block.root, .int .u64 e.block.parent, .int .i64 e.block.slot, .slice A1 e.block.votes.length c1, .slice A2 e.block.proofs.length c2, .int .i64 e.vote.slot, .int .u64 e.vote.head, .int .i64 e.vote.src.e, .int .u64 e.vote.src.r, .int .i64 e.vote.tgt.e, .int .u64 e.vote.tgt.r, .slice A3 e.vote.who.length c3, .int .i64 e.proof.a.slot, .int .u64 e.proof.a.head, .int .i64 e.proof.a.src.e, .int .u64 e.proof.a.src.r, .int .i64 e.proof.a.tgt.e, .int .u64 e.proof.a.tgt.r, .slice A4 e.proof.a.who.length c4, .int .i64 e.proof.b.slot, .int .u64 e.proof.b.head, .int .i64 e.proof.b.src.e, .int .u64 e.proof.b.src.r, .int .i64 e.proof.b.tgt.e, .int .u64 e.proof.b.tgt.r, .slice A5 e.proof.b.who.length c5] _ hX.range Tryd.underlying40 rfl iEv ?_)
              | (at_builtin; refine wpList_app B0 rfl (.tmp 63) (.tmp 65) 22 40 _ 28 304 rfl Tryd.underlying22 infoEv rfl (by decide) _ acc.length gcs rfl (World.ownsRow.alloc HO2.out _) (some ⟨wc.heap.size, 0, none⟩) 1 1 [.int .i64 e.kind, .int .i64 e.slot, .int .u64 e.block.root, .int .u64 e.block.parent, .int .i64 e.block.slot, .slice A1 e.block.votes.length c1, .slice A2 e.block.proofs.length c2, .int .i64 e.vote.slot, .int .u64 e.vote.head, .int .i64 e.vote.src.e, .int .u64 e.vote.src.r, .int .i64 e.vote.tgt.e, .int .u64 e.vote.tgt.r, .slice A3 e.vote.who.length c3, .int .i64 e.proof.a.slot, .int .u64 e.proof.a.head, .int .i64 e.proof.a.src.e, .int .u64 e.proof.a.src.r, .int .i64 e.proof.a.tgt.e, .int .u64 e.proof.a.tgt.r, .slice A4 e.proof.a.who.length c4, .int .i64 e.proof.b.slot, .int .u64 e.proof.b.head, .int .i64 e.proof.b.src.e, .int .u64 e.proof.b.src.r, .int .i64 e.proof.b.tgt.e, .int .u64 e.proof.b.tgt.r, .slice A5 e.proof.b.who.length c5] rfl rfl flat_new (EvK.one hev.k) (by omega) (by omega) (by simp; omega) ?_; intro A6 c6 w6 ho6 hg6 _))
            go_roundw
            case rel =>
              have hoa := World.ownsRow.alloc HO2.out (.cells #[.int .i64 e.kind, .int .i64 e.slot, .int .u64 e.block.root, .int .u64 e.block.parent, .int .i64 e.block.slot, .slice A1 e.block.votes.length c1, .slice A2 e.block.proofs.length c2, .int .i64 e.vote.slot, .int .u64 e.vote.head, .int .i64 e.vote.src.e, .int .u64 e.vote.src.r, .int .i64 e.vote.tgt.e, .int .u64 e.vote.tgt.r, .slice A3 e.vote.who.length c3, .int .i64 e.proof.a.slot, .int .u64 e.proof.a.head, .int .i64 e.proof.a.src.e, .int .u64 e.proof.a.src.r, .int .i64 e.proof.a.tgt.e, .int .u64 e.proof.a.tgt.r, .slice A4 e.proof.a.who.length c4, .int .i64 e.proof.b.slot, .int .u64 e.proof.b.head, .int .i64 e.proof.b.src.e, .int .u64 e.proof.b.src.r, .int .i64 e.proof.b.tgt.e, .int .u64 e.proof.b.tgt.r, .slice A5 e.proof.b.who.length c5] 40)
              have hwa := below_alloc (Below.refl wc.heap.size wc) (.cells #[.int .i64 e.kind, .int .i64 e.slot, .int .u64 e.block.root, .int .u64 e.block.parent, .int .i64 e.block.slot, .slice A1 e.block.votes.length c1, .slice A2 e.block.proofs.length c2, .int .i64 e.vote.slot, .int .u64 e.vote.head, .int .i64 e.vote.src.e, .int .u64 e.vote.src.r, .int .i64 e.vote.tgt.e, .int .u64 e.vote.tgt.r, .slice A3 e.vote.who.length c3, .int .i64 e.proof.a.slot, .int .u64 e.proof.a.head, .int .i64 e.proof.a.src.e, .int .u64 e.proof.a.src.r, .int .i64 e.proof.a.tgt.e, .int .u64 e.proof.a.tgt.r, .slice A4 e.proof.a.who.length c4, .int .i64 e.proof.b.slot, .int .u64 e.proof.b.head, .int .i64 e.proof.b.src.e, .int .u64 e.proof.b.src.r, .int .i64 e.proof.b.tgt.e, .int .u64 e.proof.b.tgt.r, .slice A5 e.proof.b.who.length c5] 40)
              have hka := Keeps.of_below hwa
              have hk6 : Keeps wc w6 := hka.trans ⟨Keep.grown hoa (by decide) hg6, Keep.grown hoa (by decide) hg6, Keep.grown hoa (by decide) hg6⟩
              refine ⟨acc ++ [e], r3, A6, c6, by simp, by simp; omega, by simpa using HD3, ?_, ?_, ?_, ?_⟩
              · exact RowO.snoc hgl ho6 (fun j x hx => (HK.out j x hx).keep (HKP.out.trans hk6)) (hev.keep hk6) rfl
              · exact (hX.rs.below hwa).grown hoa (Nat.le_refl _) (by decide) hg6
              · exact (below_alloc' hbc hB2 _).grown hg6 (by simp; omega) (own_base hoa)
              · have := hg6.size
                simp at this
                omega
            case measure => simp [lenV]; omega
    · have hr := HE.out
      have hd := HI.out
      rw [← HTL.out] at hr
      have he : rem = [] ∧ tl = false := by
        rcases Classical.em (rem = [] ∧ tl = false) with h | h
        · exact h
        · exact absurd (hr.2 h) hlt
      have hd0 : ∀ k, decR tl k rem = (some [], 0) := fun k => by cases k <;> simp [decR, he]
      rw [hd0] at hd
      have HD2 := Lib.hid hd
      clear hr hd hd0 he
      obtain rfl : q = n := by omega
      go_wp2
      go_ret3
      rw [HD2.out]
      exact ⟨hbw, .inl ⟨acc, Ao, co, by simp, hk, rfl, hrow⟩⟩
end Go.Proofs.YtccficljaomhhaaDoor
