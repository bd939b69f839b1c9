/- WireTurned, walked. -/
import Derived.Test.YtccficljaomhhaaDoorDec6
import Derived.Test.YtccficljaomhhaaDoorDecI
import Derived.Test.YtccficljaomhhaaDoorL04g
import Derived.Test.YtccficljaomhhaaDoorNum
import Derived.Test.YtccficljaomhhaaDoorOps2
namespace Go.Proofs.YtccficljaomhhaaDoor
open Go.RowKit
attribute [local go_sem ↓] Go.wp_at_zero Go.wp_at_succ
attribute [local go_sem] Go.undef
theorem RowO.evsT {B : Nat} {w : World} {A : Option Addr} {c : Nat} {xs : List Ev} (h : RowO 40 28 (EvO B w) B w A c xs) : Evs (B ≤ ·) w A xs :=
  Lie.mono (h.lie (by decide) (fun _ x => x)) (fun _ _ _ x => x.k) (fun _ x => x) (fun _ _ _ => rfl)
theorem be8_valK {bs : List Int} (h : bytesW bs) (o : Nat) : be8 (valK bs o 8) = [bs[o]?.getD 0, bs[o + 1]?.getD 0, bs[o + 2]?.getD 0, bs[o + 3]?.getD 0, bs[o + 4]?.getD 0, bs[o + 5]?.getD 0, bs[o + 6]?.getD 0, bs[o + 7]?.getD 0] := by
  have b0 := byte_at h o
  have b1 := byte_at h (o + 1)
  have b2 := byte_at h (o + 2)
  have b3 := byte_at h (o + 3)
  have b4 := byte_at h (o + 4)
  have b5 := byte_at h (o + 5)
  have b6 := byte_at h (o + 6)
  have b7 := byte_at h (o + 7)
  simp only [be8, valK, Nat.add_zero, List.map_cons, List.map_nil, Int.reducePow]
  congr 1
  · omega
  congr 1
  · omega
  congr 1
  · omega
  congr 1
  · omega
  congr 1
  · omega
  congr 1
  · omega
  congr 1
  · omega
  congr 1
  omega
theorem bes_groups {bs : List Int} (h : bytesW bs) (hl : bs.length % 8 = 0) : bes (groups bs) = bs := by
  apply List.ext_getElem?
  intro i
  have hgl : (bes (groups bs)).length = bs.length := by rw [bes_length, groups_length]; omega
  rcases Nat.lt_or_ge i bs.length with hi | hi
  · have hp : 8 * (i / 8) + 8 ≤ bs.length := by omega
    have hg := groups_get bs (i / 8) hp
    have hb := bes_get (groups bs) (i / 8) (i % 8) _ hg (Nat.mod_lt _ (by decide))
    rw [show 8 * (i / 8) + i % 8 = i from by omega] at hb
    rw [hb]
    have h8 := be8_getElem (valK bs (8 * (i / 8)) 8) (i % 8) (Nat.mod_lt _ (by decide))
    rw [← h8, be8_valK h]
    have hx : bs[i]? = some (bs[i]?.getD 0) := by simp [List.getElem?_eq_getElem hi]
    have he : ∀ r, r < 8 → i % 8 = r → bs[8 * (i / 8) + r]?.getD 0 = bs[i]?.getD 0 := fun r _ hr => by rw [show 8 * (i / 8) + r = i from by omega]
    rw [hx]
    have hr := Nat.mod_lt i (show 0 < 8 by decide)
    generalize hq : i % 8 = r at *
    match r, hr with
    | 0, _ => simpa using he 0 (by decide) rfl
    | 1, _ => simpa using he 1 (by decide) rfl
    | 2, _ => simpa using he 2 (by decide) rfl
    | 3, _ => simpa using he 3 (by decide) rfl
    | 4, _ => simpa using he 4 (by decide) rfl
    | 5, _ => simpa using he 5 (by decide) rfl
    | 6, _ => simpa using he 6 (by decide) rfl
    | 7, _ => simpa using he 7 (by decide) rfl
  · rw [List.getElem?_eq_none (by omega), List.getElem?_eq_none hi]
theorem takeAt {P : Program} {ops : Array Oper} {Q : Exit → Act → World → Prop} {md : Region.Mode} {S : World → Prop} {i : Nat} {oi : Oper} {v : Value} {d : Option Tmp} {fuel : Nat} {listed : Array Bool} {a : Act} {w : World} (hi : ops[i]? = some oi) (hd : oi.dst = d)
    (hs : Region.noSelect ops = true) (hf : Region.free md ops listed i = true) (hr : (Region.ready md ops listed).contains i = true)
    (hQ : ∀ c a w, Q (.panic c) (a.put d v) w → Q (.panic c) a w) (hy : YieldsIf P ops S oi v a) (hS : S w)
    (h : wpAnyH P md ops Q S fuel (listed.setIfInBounds i true) (a.put d v) w) : wpAnyH P md ops Q S (fuel + 1) listed a w := by
  subst hd
  exact wpAnyH_take hi hs hf hr hQ hy hS h
set_option maxRecDepth 100000 in
set_option maxHeartbeats 16000000 in
theorem WireTurned_calls (w : World) (A : Option Addr) (c : Nat) (es : List Ev) (at_ with_ : Int) (A0 : Option Addr) (c0 : Nat) (bs0 : List Int) (hg : GV w) (hes : Evs anyB w A es) (hm : es.length ≤ maxLen) (hwf : ∀ e ∈ es, e.wf) (haw : (Lit.int .u16 at_).wf = true) (hww : (Lit.int .u8 with_).wf = true) (hi0 : Ints anyB .u8 w A0 bs0) (hf0 : Fits bs0.length c0) (hy0 : ∀ x ∈ bs0, 0 ≤ x ∧ x < 256) :
    Calls Tryd.prog 3 #[.slice A es.length c, .int .u16 at_, .int .u8 with_, .slice A0 bs0.length c0] w fun e w' => e = .returned (.bool true) ∧ Below w.heap.size w w' := by
  unfold maxLen at hm
  have ha0 : 0 ≤ at_ ∧ at_ ≤ 65535 := by
    simp [Lit.wf, IntKind.min, IntKind.max, IntKind.bits, IntKind.signed] at haw
    omega
  have hw0 : 0 ≤ with_ ∧ with_ ≤ 255 := by
    simp [Lit.wf, IntKind.min, IntKind.max, IntKind.bits, IntKind.signed] at hww
    omega
  clear haw hww
  by_cases hL : es.length ≤ 100
  · have HEV : Hid (∀ w', Below w.heap.size w w' → Evs (· < w.heap.size) w' A es) := fun w' h => (Evs.lt hes).mono (fun b hb => hb.2) (fun b hb _ => h.block b hb.2)
    obtain ⟨B, HB, hB1, hB2⟩ := size_hid w
    rw [HB.out] at HEV ⊢
    go_enter Tryd.func3, Tryd.ntmps3
    go_upto_region 5 with (go_at_call 6; refine (l04awake_calls _).mono ?_; rintro e w1 ⟨rfl, hb1⟩)
    go_wp2
    have hbB1 := hb1.mono hB2
    clear hb1
    go_loopw [9, 25] (fun s i wr => ∃ k : Nat, k ≤ es.length ∧ i = .int .i64 k ∧ (∃ A' n' c' gcs, s = .slice A' n' c' ∧ wr.ownsRow B 40 28 (.slice A' n' c') n' gcs ∧ Hid (((es.take k).filter mayB).length = n' ∧ ∀ j x, ((es.take k).filter mayB)[j]? = some x → EvK (· < B) w x ((gcs.drop (j * 28)).take 28))) ∧ Below B w wr) (fun _ i _ => es.length - (intOf i).toNat)
    case atStart => exact ⟨0, Nat.zero_le _, rfl, ⟨none, 0, 0, [], rfl, own_nil _ _ _ _, rfl, fun j x h => by simp at h⟩, hbB1⟩
    case round =>
      clear hbB1
      obtain ⟨k, hk, rfl, ⟨A', n', c', gcs, rfl, ho, HG⟩, hbr⟩ := hrel
      have HO := Lib.hid ho
      clear ho
      by_cases hlt : k < es.length
      · obtain ⟨e, hx⟩ : ∃ e, es[k]? = some e := ⟨_, List.getElem?_eq_getElem hlt⟩
        obtain ⟨bb, o, rfl, _, A1, c1, A2, c2, A3, c3, A4, c4, A5, c5, hr, hat⟩ := (HEV.out _ hbr).get hx
        have HX := Lib.hid hx
        have HAT := Lib.hid hat
        clear hx hat
        go_upto_region 9 with (first | (refine wpList_load_mid rfl 40 _ rfl _ _ rfl [.int .i64 e.kind, .int .i64 e.slot, .int .u64 e.block.root, .int .u64 e.block.parent, .int .i64 e.block.slot, .slice A1 e.block.votes.length c1, .slice A2 e.block.proofs.length c2, .int .i64 e.vote.slot, .int .u64 e.vote.head, .int .i64 e.vote.src.e, .int .u64 e.vote.src.r, .int .i64 e.vote.tgt.e, .int .u64 e.vote.tgt.r, .slice A3 e.vote.who.length c3, .int .i64 e.proof.a.slot, .int .u64 e.proof.a.head, .int .i64 e.proof.a.src.e, .int .u64 e.proof.a.src.r, .int .i64 e.proof.a.tgt.e, .int .u64 e.proof.a.tgt.r, .slice A4 e.proof.a.who.length c4, .int .i64 e.proof.b.slot, .int .u64 e.proof.b.head, .int .i64 e.proof.b.src.e, .int .u64 e.proof.b.src.r, .int .i64 e.proof.b.tgt.e, .int .u64 e.proof.b.tgt.r, .slice A5 e.proof.b.who.length c5] _ HAT.out Tryd.underlying40 rfl iEv ?_) | (refine wpList_box 40 11 _ (.tmp 28) [.int .i64 e.kind, .int .i64 e.slot, .int .u64 e.block.root, .int .u64 e.block.parent, .int .i64 e.block.slot, .slice A1 e.block.votes.length c1, .slice A2 e.block.proofs.length c2, .int .i64 e.vote.slot, .int .u64 e.vote.head, .int .i64 e.vote.src.e, .int .u64 e.vote.src.r, .int .i64 e.vote.tgt.e, .int .u64 e.vote.tgt.r, .slice A3 e.vote.who.length c3, .int .i64 e.proof.a.slot, .int .u64 e.proof.a.head, .int .i64 e.proof.a.src.e, .int .u64 e.proof.a.src.r, .int .i64 e.proof.a.tgt.e, .int .u64 e.proof.a.tgt.r, .slice A4 e.proof.a.who.length c4, .int .i64 e.proof.b.slot, .int .u64 e.proof.b.head, .int .i64 e.proof.b.src.e, .int .u64 e.proof.b.src.r, .int .i64 e.proof.b.tgt.e, .int .u64 e.proof.b.tgt.r, .slice A5 e.proof.b.who.length c5] rfl rfl rfl zEv rfl rfl iEv rfl ?_))
        generalize hW2 : wr.alloc (Obj.cells _ 40) = W2
        have hblk := heap_new wr (Obj.cells #[.int .i64 e.kind, .int .i64 e.slot, .int .u64 e.block.root, .int .u64 e.block.parent, .int .i64 e.block.slot, .slice A1 e.block.votes.length c1, .slice A2 e.block.proofs.length c2, .int .i64 e.vote.slot, .int .u64 e.vote.head, .int .i64 e.vote.src.e, .int .u64 e.vote.src.r, .int .i64 e.vote.tgt.e, .int .u64 e.vote.tgt.r, .slice A3 e.vote.who.length c3, .int .i64 e.proof.a.slot, .int .u64 e.proof.a.head, .int .i64 e.proof.a.src.e, .int .u64 e.proof.a.src.r, .int .i64 e.proof.a.tgt.e, .int .u64 e.proof.a.tgt.r, .slice A4 e.proof.a.who.length c4, .int .i64 e.proof.b.slot, .int .u64 e.proof.b.head, .int .i64 e.proof.b.src.e, .int .u64 e.proof.b.src.r, .int .i64 e.proof.b.tgt.e, .int .u64 e.proof.b.tgt.r, .slice A5 e.proof.b.who.length c5] 40)
        rw [hW2] at hblk
        have hbw2 : Below wr.heap.size wr W2 := by rw [← hW2]; exact below_alloc (Below.refl _ _) _
        clear hW2
        have hr2 := (hr.below hbw2).any
        have HO1 := Lib.hid (own_below HO.out hbw2)
        have hbB2 : Below B w W2 := hbr.trans (hbw2.mono (Nat.le_trans hB2 hbr.size))
        have hBs2 : B ≤ W2.heap.size := Nat.le_trans hB2 hbB2.size
        clear HO hbw2 HAT
        generalize wr.heap.size = Px at hblk ⊢
        have HBLK := Lib.hid hblk
        clear hblk
        have HR : Hid (∀ w' : World, w'.heap[Px]? = some (.cells #[.int .i64 e.kind, .int .i64 e.slot, .int .u64 e.block.root, .int .u64 e.block.parent, .int .i64 e.block.slot, .slice A1 e.block.votes.length c1, .slice A2 e.block.proofs.length c2, .int .i64 e.vote.slot, .int .u64 e.vote.head, .int .i64 e.vote.src.e, .int .u64 e.vote.src.r, .int .i64 e.vote.tgt.e, .int .u64 e.vote.tgt.r, .slice A3 e.vote.who.length c3, .int .i64 e.proof.a.slot, .int .u64 e.proof.a.head, .int .i64 e.proof.a.src.e, .int .u64 e.proof.a.src.r, .int .i64 e.proof.a.tgt.e, .int .u64 e.proof.a.tgt.r, .slice A4 e.proof.a.who.length c4, .int .i64 e.proof.b.slot, .int .u64 e.proof.b.head, .int .i64 e.proof.b.src.e, .int .u64 e.proof.b.src.r, .int .i64 e.proof.b.tgt.e, .int .u64 e.proof.b.tgt.r, .slice A5 e.proof.b.who.length c5] 40 (0, 0)) → w'.rangeAt Px 0 [.int .i64 e.kind, .int .i64 e.slot, .int .u64 e.block.root, .int .u64 e.block.parent, .int .i64 e.block.slot, .slice A1 e.block.votes.length c1, .slice A2 e.block.proofs.length c2, .int .i64 e.vote.slot, .int .u64 e.vote.head, .int .i64 e.vote.src.e, .int .u64 e.vote.src.r, .int .i64 e.vote.tgt.e, .int .u64 e.vote.tgt.r, .slice A3 e.vote.who.length c3, .int .i64 e.proof.a.slot, .int .u64 e.proof.a.head, .int .i64 e.proof.a.src.e, .int .u64 e.proof.a.src.r, .int .i64 e.proof.a.tgt.e, .int .u64 e.proof.a.tgt.r, .slice A4 e.proof.a.who.length c4, .int .i64 e.proof.b.slot, .int .u64 e.proof.b.head, .int .i64 e.proof.b.src.e, .int .u64 e.proof.b.src.r, .int .i64 e.proof.b.tgt.e, .int .u64 e.proof.b.tgt.r, .slice A5 e.proof.b.who.length c5]) := fun w' h j v hj => by rw [Nat.zero_add, blk_cell h]; simpa using hj
        obtain ⟨m, hm⟩ : ∃ m, mayB e = m := ⟨_, rfl⟩
        have HM := Lib.hid hm
        have HR0 : Hid (EvR (· < B) w e A1 c1 A2 c2 A3 c3 A4 c4 A5 c5) := hr.mono (fun _ x => x) (fun i hi _ => (hbr.block i hi).symm)
        go_wp2_with (refine wpList_load_mid rfl 40 _ rfl _ _ rfl [.int .i64 e.kind, .int .i64 e.slot, .int .u64 e.block.root, .int .u64 e.block.parent, .int .i64 e.block.slot, .slice A1 e.block.votes.length c1, .slice A2 e.block.proofs.length c2, .int .i64 e.vote.slot, .int .u64 e.vote.head, .int .i64 e.vote.src.e, .int .u64 e.vote.src.r, .int .i64 e.vote.tgt.e, .int .u64 e.vote.tgt.r, .slice A3 e.vote.who.length c3, .int .i64 e.proof.a.slot, .int .u64 e.proof.a.head, .int .i64 e.proof.a.src.e, .int .u64 e.proof.a.src.r, .int .i64 e.proof.a.tgt.e, .int .u64 e.proof.a.tgt.r, .slice A4 e.proof.a.who.length c4, .int .i64 e.proof.b.slot, .int .u64 e.proof.b.head, .int .i64 e.proof.b.src.e, .int .u64 e.proof.b.src.r, .int .i64 e.proof.b.tgt.e, .int .u64 e.proof.b.tgt.r, .slice A5 e.proof.b.who.length c5] _ (HR.out _ HBLK.out) Tryd.underlying40 rfl iEv ?_)
        refine (l04may_calls _ e A1 c1 A2 c2 A3 c3 A4 c4 A5 c5 hr2).mono ?_
        rintro en w5 ⟨rfl, hb5⟩
        rw [hm]
        have HBLK5 := Lib.hid (blk_below HBLK.out hb5)
        have HO5 := Lib.hid (own_below HO1.out hb5)
        have hbB5 : Below B w w5 := hbB2.trans (hb5.mono hBs2)
        have hBs5 : B ≤ w5.heap.size := Nat.le_trans hB2 hbB5.size
        have HNL : Hid (n' ≤ 300) := by
          show _ ≤ _
          have h1 := List.length_filter_le mayB (es.take k)
          rw [HG.out.1, List.length_take] at h1
          omega
        clear hb5 hr2 HO1 hbB2 hBs2 HBLK hm hr
        cases m
        · have hG1 : Hid ((es.take (k + 1)).filter mayB = (es.take k).filter mayB) := by show _ = _; rw [List.take_add_one, List.filter_append, HX.out]; simp [HM.out]
          go_wp2
          go_roundw
          case rel => exact ⟨k + 1, by omega, by go_num, ⟨A', n', c', gcs, rfl, HO5.out, by rw [hG1.out]; exact HG⟩, hbB5⟩
          case measure => simp [intOf]; omega
        · have hG1 : Hid ((es.take (k + 1)).filter mayB = (es.take k).filter mayB ++ [e]) := by show _ = _; rw [List.take_add_one, List.filter_append, HX.out]; simp [HM.out]
          go_wp2_with (first | (refine wpList_load_mid rfl 40 _ rfl _ _ rfl [.int .i64 e.kind, .int .i64 e.slot, .int .u64 e.block.root, .int .u64 e.block.parent, .int .i64 e.block.slot, .slice A1 e.block.votes.length c1, .slice A2 e.block.proofs.length c2, .int .i64 e.vote.slot, .int .u64 e.vote.head, .int .i64 e.vote.src.e, .int .u64 e.vote.src.r, .int .i64 e.vote.tgt.e, .int .u64 e.vote.tgt.r, .slice A3 e.vote.who.length c3, .int .i64 e.proof.a.slot, .int .u64 e.proof.a.head, .int .i64 e.proof.a.src.e, .int .u64 e.proof.a.src.r, .int .i64 e.proof.a.tgt.e, .int .u64 e.proof.a.tgt.r, .slice A4 e.proof.a.who.length c4, .int .i64 e.proof.b.slot, .int .u64 e.proof.b.head, .int .i64 e.proof.b.src.e, .int .u64 e.proof.b.src.r, .int .i64 e.proof.b.tgt.e, .int .u64 e.proof.b.tgt.r, .slice A5 e.proof.b.who.length c5] _ (HR.out _ HBLK5.out) Tryd.underlying40 rfl iEv ?_) | (at_builtin; refine wpList_app B rfl (.tmp 31) (.tmp 33) 22 40 _ 28 304 rfl Tryd.underlying22 infoEv rfl (by decide) _ n' gcs rfl (World.ownsRow.alloc HO5.out _) (some ⟨w5.heap.size, 0, none⟩) 1 1 [.int .i64 e.kind, .int .i64 e.slot, .int .u64 e.block.root, .int .u64 e.block.parent, .int .i64 e.block.slot, .slice A1 e.block.votes.length c1, .slice A2 e.block.proofs.length c2, .int .i64 e.vote.slot, .int .u64 e.vote.head, .int .i64 e.vote.src.e, .int .u64 e.vote.src.r, .int .i64 e.vote.tgt.e, .int .u64 e.vote.tgt.r, .slice A3 e.vote.who.length c3, .int .i64 e.proof.a.slot, .int .u64 e.proof.a.head, .int .i64 e.proof.a.src.e, .int .u64 e.proof.a.src.r, .int .i64 e.proof.a.tgt.e, .int .u64 e.proof.a.tgt.r, .slice A4 e.proof.a.who.length c4, .int .i64 e.proof.b.slot, .int .u64 e.proof.b.head, .int .i64 e.proof.b.src.e, .int .u64 e.proof.b.src.r, .int .i64 e.proof.b.tgt.e, .int .u64 e.proof.b.tgt.r, .slice A5 e.proof.b.who.length c5] rfl rfl flat_new (EvK.one (EvK.shut HR0.out)) (by have := HNL.out; omega) (by have := HNL.out; omega) (by simp; omega) ?_; intro A7 c7 w6 ho6 hg6 _))
          go_roundw
          case rel =>
            have hbB6 : Below B w w6 := (below_alloc' hbB5 hB2 _).grown hg6 (by simp; omega) (own_base HO5.out)
            have hgl : gcs.length = n' * 28 := HO5.out.1
            refine ⟨k + 1, by omega, by go_num, ⟨A7, n' + 1, c7, gcs ++ [.int .i64 e.kind, .int .i64 e.slot, .int .u64 e.block.root, .int .u64 e.block.parent, .int .i64 e.block.slot, .slice A1 e.block.votes.length c1, .slice A2 e.block.proofs.length c2, .int .i64 e.vote.slot, .int .u64 e.vote.head, .int .i64 e.vote.src.e, .int .u64 e.vote.src.r, .int .i64 e.vote.tgt.e, .int .u64 e.vote.tgt.r, .slice A3 e.vote.who.length c3, .int .i64 e.proof.a.slot, .int .u64 e.proof.a.head, .int .i64 e.proof.a.src.e, .int .u64 e.proof.a.src.r, .int .i64 e.proof.a.tgt.e, .int .u64 e.proof.a.tgt.r, .slice A4 e.proof.a.who.length c4, .int .i64 e.proof.b.slot, .int .u64 e.proof.b.head, .int .i64 e.proof.b.src.e, .int .u64 e.proof.b.src.r, .int .i64 e.proof.b.tgt.e, .int .u64 e.proof.b.tgt.r, .slice A5 e.proof.b.who.length c5], rfl, ho6, ?_⟩, hbB6⟩
            show _ ∧ _
            rw [hG1.out]
            refine ⟨by rw [List.length_append, HG.out.1]; rfl, fun j x hx => ?_⟩
            rcases Nat.lt_or_ge j n' with hj | hj
            · rw [List.getElem?_append_left (by rw [HG.out.1]; exact hj)] at hx
              rw [List.drop_append_of_le_length (by omega), List.take_append_of_le_length (by rw [List.length_drop]; omega)]
              exact HG.out.2 j x hx
            · rw [List.getElem?_append_right (by rw [HG.out.1]; exact hj), HG.out.1] at hx
              have h0 : j - n' < 1 := (List.getElem?_eq_some_iff.1 hx).1
              obtain rfl : j = n' := by omega
              rw [Nat.sub_self] at hx
              obtain rfl : e = x := by simpa using hx
              rw [← hgl, List.drop_left]
              exact EvK.shut HR0.out
          case measure => simp [intOf]; omega
      · obtain rfl : k = es.length := by omega
        rw [List.take_length] at HG
        have hz : Evs anyB wr A' (es.filter mayB) := (Lie.of_own HO.out (by decide) HG.out.1 HG.out.2 (fun _ _ _ => trivial) : Lie anyB (EvK (· < B) w) 28 wr A' (es.filter mayB)).mono (fun x cs _ h => EvK.mono h (fun _ _ => trivial) (fun i hi hi' => hbr.block i hi)) (fun _ x => x) (fun _ _ _ => rfl)
        have hgn := HG.out.1
        have hgle : (es.filter mayB).length ≤ 100 := Nat.le_trans (List.length_filter_le _ _) hL
        have hga : (es.filter mayB).all mayB = true := by simp
        have hgw : ∀ e ∈ es.filter mayB, e.wf := fun e he => hwf e (List.mem_filter.1 he).1
        clear HO HG HEV hes hwf
        generalize es.filter mayB = gs at hz hgn hgle hga hgw
        have hn3 : n' ≤ 300 := by omega
        go_wp2_with fail
        refine (bytes_calls _ A' n' c' gs hz hgn hn3 hga).mono ?_
        rintro en w2 ⟨Rb, nb, cb, rfl, hob, hb2⟩
        have hbl := hob.len
        have hbf := own_fits hob
        have hbB2 : Below B w w2 := hbr.trans (hb2.mono (Nat.le_trans hB2 hbr.size))
        have hBs2 : B ≤ w2.heap.size := Nat.le_trans hB2 hbB2.size
        have hi2 : Ints (fun b => b < B) .u8 w2 A0 bs0 := Lie.mono (Lie.lt hi0 (by decide)) (fun _ _ _ x => x) (fun b hb => Nat.lt_of_lt_of_le hb.2 hB1) (fun b hb _ => hbB2.block b (Nat.lt_of_lt_of_le hb.2 hB1))
        have hg2 : GV w2 := hg.below (hbB2.mono hB1)
        have hBr : B ≤ wr.heap.size := Nat.le_trans hB2 hbr.size
        clear hz hb2 hi0
        go_upto_if 40 with fail
        go_cut [] (fun w' => ∃ L, L.length = nb ∧ bytesW L ∧ Ints anyB .u8 w' Rb L ∧ Ints anyB .u8 w' A0 bs0 ∧ Below B w w')
        case first =>
          by_cases hnb : 0 < nb
          · rcases hob.2 with ⟨h1, h2⟩ | ⟨g, cap, cur, h1, hgB, hblk, _, _, hsz, htk⟩
            · omega
            · simp only [Value.slice.injEq] at h1
              obtain ⟨rfl, _, rfl⟩ := h1
              obtain ⟨t, htt⟩ : ∃ t : Nat, at_.tmod nb = t := ⟨(at_.tmod nb).toNat, by rw [Int.toNat_of_nonneg (Int.tmod_nonneg _ ha0.1)]⟩
              have htn : t < nb := by
                have := Int.tmod_lt_of_pos at_ (show (0 : Int) < nb by omega)
                omega
              have hcell : w2.cell? ⟨g, t, none⟩ = some (.int .u8 ((bes (encN gs)).getD t 0)) := by
                obtain ⟨b, o, he, _, hc⟩ := hob.ints.get (j := t) (by omega)
                cases he
                simpa using hc
              have hfr := blk_frozen hblk t
              have hnz : (nb : Int) ≠ 0 := by omega
              have hob' := hob
              clear hob hbf htk hsz
              have hnbI : (0 : Int) < nb := by omega
              go_wp2
              go_meet
              case rel =>
                refine ⟨(bes (encN gs)).set t with_, by rw [List.length_set]; exact hbl, ?_, ?_, ?_, ?_⟩
                · intro x hx
                  rcases List.mem_or_eq_of_mem_set hx with h | rfl
                  · exact bytesW_bes _ x h
                  · omega
                · intro _
                  refine ⟨g, 0, rfl, trivial, fun j x hx => ⟨_, rfl, rfl, fun i u hu => ?_⟩⟩
                  match i, hu with
                  | 0, hu =>
                    obtain rfl : Value.int .u8 x = u := by simpa using hu
                    rw [Nat.zero_add, Nat.mul_one, Nat.add_zero, blk_cell (blk_set hblk t (.int .u8 with_)) j, Array.getElem?_setIfInBounds]
                    have hcur := hob'.ints.get (j := j) (by
                      have := (List.getElem?_eq_some_iff.1 hx).1
                      rwa [List.length_set] at this)
                    obtain ⟨b, o, he, _, hc⟩ := hcur
                    cases he
                    rw [Nat.zero_add, blk_cell hblk] at hc
                    have hjs := (Array.getElem?_eq_some_iff.1 hc).1
                    rw [List.getElem?_set] at hx
                    by_cases hjt : t = j
                    · subst hjt
                      rw [if_pos rfl, if_pos hjs]
                      rw [if_pos rfl, if_pos (by omega)] at hx
                      injection hx with hx
                      rw [hx]
                    · rw [if_neg hjt] at hx ⊢
                      rw [hc, List.getD_eq_getElem?_getD, hx]
                      rfl
                  | i + 1, hu => simp at hu
                · exact Lie.mono hi2 (fun _ _ _ x => x) (fun _ _ => trivial) (fun b hb _ => Below.heap_setCell _ _ _ _ (by simp; omega))
                · exact hbB2.setCell (by show B ≤ g; omega) _
          · obtain rfl : nb = 0 := by omega
            go_wp2
            go_meet
            case rel => exact ⟨bes (encN gs), hbl, bytesW_bes _, hob.ints, Lie.mono hi2 (fun _ _ _ x => x) (fun _ _ => trivial) (fun _ _ _ => rfl), hbB2⟩
        case rest =>
          obtain ⟨L, hLl, hLb, hLi, hA0, hbc⟩ := hcut
          have hfL : Fits nb cb := hbf.2
          have hgc : GV wc := hg.below (hbc.mono hB1)
          have hBc : B ≤ wc.heap.size := Nat.le_trans hB2 hbc.size
          have hb5 := below_alloc (Below.refl wc.heap.size wc) (.cells #[.slice Rb nb cb, .slice A0 bs0.length c0] 24)
          have hsl := heap_new wc (.cells #[.slice Rb nb cb, .slice A0 bs0.length c0] 24)
          clear hob hbf hbl hi2 hbB2 hBs2 hg2 hbr hBr hgw hga hgle hgn hn3
          go_wp2_with fail
          generalize wc.alloc _ = w5 at hb5 hsl ⊢
          generalize wc.heap.size = Sb at hsl ⊢
          have HX : Hid (∀ w' : World, Below w5.heap.size w5 w' → ∀ j : Nat, j < 2 → ∃ A n c bs, w'.cell? ⟨Sb, j, none⟩ = some (.slice A n c) ∧ Ints anyB .u8 w' A bs ∧ bytesW bs ∧ bs.length = n ∧ Fits n c) := fun w' h j hj => by
            match j, hj with
            | 0, _ => exact ⟨Rb, nb, cb, L, blk_cell (blk_below hsl h) 0, (hLi.below hb5).below h, hLb, hLl, hfL⟩
            | 1, _ => exact ⟨A0, bs0.length, c0, bs0, blk_cell (blk_below hsl h) 1, (hA0.below hb5).below h, hy0, rfl, hf0⟩
          have hg5 := hgc.below hb5
          have hbB5 : Below B w w5 := hbc.trans (hb5.mono hBc)
          have hBs5 : B ≤ w5.heap.size := Nat.le_trans hB2 hbB5.size
          clear hb5 hsl hLi hA0 hLb hLl hfL hf0 hy0 hgc hbc
          go_loopw [53] (fun i wr => ∃ j : Nat, j ≤ 2 ∧ i = .int .i64 j ∧ Below w5.heap.size w5 wr) (fun i _ => 2 - (intOf i).toNat)
          case atStart => exact ⟨0, by omega, rfl, Below.refl _ _⟩
          case round =>
            obtain ⟨j, hj, rfl, hbr⟩ := hrel
            by_cases hlt : j < 2
            · obtain ⟨Ax, nx, cx, bx, hcell, hix, hbx, hlx, hfx⟩ := HX.out _ hbr j hlt
              go_wp2_with fail
              refine (Decode_calls _ Ax nx cx bx hix hbx hlx hfx).mono ?_
              rintro en w6 ⟨hb6, hde⟩
              have hbr6 := below_trans hbr hb6
              rcases hde with ⟨xs, A3, c3, hx, hxl, rfl, hrow⟩ | ⟨_, rfl⟩
              · obtain ⟨hgx, htl, hall, hlen⟩ := decR_inv _ xs 4096 (groups bx) (fun n hn => by
                  obtain ⟨p, _, rfl⟩ := List.mem_map.1 hn
                  exact (val8_le hbx _).1) hx
                have hmod : bx.length % 8 = 0 := by rw [hlx]; simpa using htl
                have hbe : bes (encN xs) = bx := by rw [← hgx]; exact bes_groups hbx hmod
                obtain ⟨S, hS⟩ : ∃ S, Hid (S = strOfNums bx) := ⟨_, rfl⟩
                have hix6 := hix.below hb6
                have HC : Hid (∀ w' : World, Below w6.heap.size w6 w' → (convert 24 9 (.slice Ax nx cx)).run Tryd.prog w' = .ok (.string S) w') := fun w' h => by rw [hS.out]; exact run_str (hix6.below h) hlx
                have HCX : Hid (∀ (w' : World) (R' : Option Addr) (n1 c1 : Nat), Ints anyB .u8 w' R' (bes (encN xs)) → (bes (encN xs)).length = n1 → (convert 24 9 (.slice R' n1 c1)).run Tryd.prog w' = .ok (.string S) w') := fun w' R' n1 c1 h1 h2 => by
                  rw [hS.out, ← hbe]
                  exact run_str h1 h2
                have hxs : Evs anyB w6 A3 xs := Evs.any (RowO.evsT hrow)
                clear hrow hS hbe hmod hgx htl hx hix hix6 hcell hbx hfx hb6
                go_upto_region 19 with fail
                refine wp_region_held_drew (S := fun w' => Below w6.heap.size w6 w') (by kernel_rfl) (Below.refl _ _).drew (fun hHeld => ?_)
                refine' takeAt (i := 0) (v := .nilIface) (d := (some 63)) rfl rfl (by kernel_rfl) (by kernel_rfl) (by kernel_rfl) (fun _ _ _ h => h) (Or.inl ⟨by kernel_rfl, fun w' hSw => by have f1 := HC.out w' hSw; first | (go_simp; done) | (go_simp; with_reducible rfl)⟩) hHeld ?_
                set_option linter.unusedSimpArgs false in
                try simp only [Act.put, List.setIfInBounds_toArray, List.set_cons_zero, List.set_cons_succ]
                refine' takeAt (i := 1) (v := .bool true) (d := (some 64)) rfl rfl (by kernel_rfl) (by kernel_rfl) (by kernel_rfl) (fun _ _ _ h => h) (Or.inl ⟨by kernel_rfl, fun w' hSw => by have f1 := HC.out w' hSw; first | (go_simp; done) | (go_simp; with_reducible rfl)⟩) hHeld ?_
                set_option linter.unusedSimpArgs false in
                try simp only [Act.put, List.setIfInBounds_toArray, List.set_cons_zero, List.set_cons_succ]
                refine' takeAt (i := 2) (v := .bool true) (d := (some 65)) rfl rfl (by kernel_rfl) (by kernel_rfl) (by kernel_rfl) (fun _ _ _ h => h) (Or.inl ⟨by kernel_rfl, fun w' hSw => by have f1 := HC.out w' hSw; first | (go_simp; done) | (go_simp; with_reducible rfl)⟩) hHeld ?_
                set_option linter.unusedSimpArgs false in
                try simp only [Act.put, List.setIfInBounds_toArray, List.set_cons_zero, List.set_cons_succ]
                refine' takeAt (i := 3) (v := .slice A3 xs.length c3) (d := (some 66)) rfl rfl (by kernel_rfl) (by kernel_rfl) (by kernel_rfl) (fun _ _ _ h => h) (Or.inl ⟨by kernel_rfl, fun w' hSw => by have f1 := HC.out w' hSw; first | (go_simp; done) | (go_simp; with_reducible rfl)⟩) hHeld ?_
                set_option linter.unusedSimpArgs false in
                try simp only [Act.put, List.setIfInBounds_toArray, List.set_cons_zero, List.set_cons_succ]
                refine' takeAt (i := 6) (v := .slice Ax nx cx) (d := (some 69)) rfl rfl (by kernel_rfl) (by kernel_rfl) (by kernel_rfl) (fun _ _ _ h => h) (Or.inl ⟨by kernel_rfl, fun w' hSw => by have f1 := HC.out w' hSw; first | (go_simp; done) | (go_simp; with_reducible rfl)⟩) hHeld ?_
                set_option linter.unusedSimpArgs false in
                try simp only [Act.put, List.setIfInBounds_toArray, List.set_cons_zero, List.set_cons_succ]
                refine' takeAt (i := 7) (v := .string S) (d := (some 70)) rfl rfl (by kernel_rfl) (by kernel_rfl) (by kernel_rfl) (fun _ _ _ h => h) (Or.inl ⟨by kernel_rfl, fun w' hSw => by have f1 := HC.out w' hSw; first | (go_simp; done) | (go_simp; with_reducible rfl)⟩) hHeld ?_
                set_option linter.unusedSimpArgs false in
                try simp only [Act.put, List.setIfInBounds_toArray, List.set_cons_zero, List.set_cons_succ]
                refine wpAnyH_ready (rs := [4]) (by kernel_rfl) (by simp) ?_
                refine AllReadyH.cons rfl (fun K hK => ?_) AllReadyH.nil
                go_simp
                refine (bytesN_calls _ A3 xs.length c3 xs (hxs.below hHeld) rfl (by omega) hall).mono ?_
                rintro en w7 ⟨Rx, nz, cz, rfl, hox, hb7⟩
                have fx := HCX.out w7 Rx nz cz hox.ints hox.len
                refine hK.out _ _ (below_trans hHeld hb7) (fun hHeld => ?_)
                clear hK K
                set_option linter.unusedSimpArgs false in
                try simp only [Act.put, List.setIfInBounds_toArray, List.set_cons_zero, List.set_cons_succ]
                refine wpAnyH_ready (rs := [5]) (by kernel_rfl) (by simp) ?_
                refine AllReadyH.cons rfl (fun K hK => ?_) AllReadyH.nil
                go_simp
                refine hK.out _ _ hHeld (fun hHeld => ?_)
                clear hK K
                set_option linter.unusedSimpArgs false in
                try simp only [Act.put, List.setIfInBounds_toArray, List.set_cons_zero, List.set_cons_succ]
                clear fx hox
                refine' takeAt (i := 8) (v := .bool false) (d := (some 71)) rfl rfl (by kernel_rfl) (by kernel_rfl) (by kernel_rfl) (fun _ _ _ h => h) (Or.inl ⟨by kernel_rfl, fun w' hSw => by have f1 := HC.out w' hSw; first | (go_simp; done) | (go_simp; with_reducible rfl)⟩) hHeld ?_
                set_option linter.unusedSimpArgs false in
                try simp only [Act.put, List.setIfInBounds_toArray, List.set_cons_zero, List.set_cons_succ]
                refine' takeAt (i := 9) (v := .bool false) (d := (some 72)) rfl rfl (by kernel_rfl) (by kernel_rfl) (by kernel_rfl) (fun _ _ _ h => h) (Or.inl ⟨by kernel_rfl, fun w' hSw => by have f1 := HC.out w' hSw; first | (go_simp; done) | (go_simp; with_reducible rfl)⟩) hHeld ?_
                set_option linter.unusedSimpArgs false in
                try simp only [Act.put, List.setIfInBounds_toArray, List.set_cons_zero, List.set_cons_succ]
                refine' takeAt (i := 10) (v := .int .i64 nx) (d := (some 73)) rfl rfl (by kernel_rfl) (by kernel_rfl) (by kernel_rfl) (fun _ _ _ h => h) (Or.inl ⟨by kernel_rfl, fun w' hSw => by have f1 := HC.out w' hSw; first | (go_simp; done) | (go_simp; with_reducible rfl)⟩) hHeld ?_
                set_option linter.unusedSimpArgs false in
                try simp only [Act.put, List.setIfInBounds_toArray, List.set_cons_zero, List.set_cons_succ]
                refine' takeAt (i := 11) (v := .slice Ax nx cx) (d := (some 74)) rfl rfl (by kernel_rfl) (by kernel_rfl) (by kernel_rfl) (fun _ _ _ h => h) (Or.inl ⟨by kernel_rfl, fun w' hSw => by have f1 := HC.out w' hSw; first | (go_simp; done) | (go_simp; with_reducible rfl)⟩) hHeld ?_
                set_option linter.unusedSimpArgs false in
                try simp only [Act.put, List.setIfInBounds_toArray, List.set_cons_zero, List.set_cons_succ]
                refine' takeAt (i := 12) (v := .int .i64 nx) (d := (some 75)) rfl rfl (by kernel_rfl) (by kernel_rfl) (by kernel_rfl) (fun _ _ _ h => h) (Or.inl ⟨by kernel_rfl, fun w' hSw => by have f1 := HC.out w' hSw; first | (go_simp; done) | (go_simp; with_reducible rfl)⟩) hHeld ?_
                set_option linter.unusedSimpArgs false in
                try simp only [Act.put, List.setIfInBounds_toArray, List.set_cons_zero, List.set_cons_succ]
                refine' takeAt (i := 13) (v := .bool false) (d := (some 76)) rfl rfl (by kernel_rfl) (by kernel_rfl) (by kernel_rfl) (fun _ _ _ h => h) (Or.inl ⟨by kernel_rfl, fun w' hSw => by have f1 := HC.out w' hSw; first | (go_simp; done) | (go_simp; with_reducible rfl)⟩) hHeld ?_
                set_option linter.unusedSimpArgs false in
                try simp only [Act.put, List.setIfInBounds_toArray, List.set_cons_zero, List.set_cons_succ]
                refine' takeAt (i := 14) (v := .bool false) (d := (some 77)) rfl rfl (by kernel_rfl) (by kernel_rfl) (by kernel_rfl) (fun _ _ _ h => h) (Or.inl ⟨by kernel_rfl, fun w' hSw => by have f1 := HC.out w' hSw; first | (go_simp; done) | (go_simp; with_reducible rfl)⟩) hHeld ?_
                set_option linter.unusedSimpArgs false in
                try simp only [Act.put, List.setIfInBounds_toArray, List.set_cons_zero, List.set_cons_succ]
                refine' takeAt (i := 15) (v := .bool false) (d := (some 78)) rfl rfl (by kernel_rfl) (by kernel_rfl) (by kernel_rfl) (fun _ _ _ h => h) (Or.inl ⟨by kernel_rfl, fun w' hSw => by have f1 := HC.out w' hSw; first | (go_simp; done) | (go_simp; with_reducible rfl)⟩) hHeld ?_
                set_option linter.unusedSimpArgs false in
                try simp only [Act.put, List.setIfInBounds_toArray, List.set_cons_zero, List.set_cons_succ]
                refine wpAnyH_done (by kernel_rfl) ?_ _
                go_wp2
                go_roundw
                case rel => exact ⟨j + 1, by omega, by go_num, below_trans hbr6 hHeld⟩
                case measure => simp [intOf]; omega
              · obtain ⟨q, hq⟩ : ∃ q, q = 8 * ((groups bx).length - (decR (decide (nx % 8 ≠ 0)) 4096 (groups bx)).2) := ⟨_, rfl⟩
                rw [← hq]
                have hgl := groups_length bx
                have hqn : q ≤ nx := by omega
                have hnxl : nx ≤ 9223372036854775807 := by have := hfx.2; unfold maxLen at this; omega
                have hq8 : ((q : Int)).tmod 8 = 0 := by
                  rw [hq]
                  have : ((8 * ((groups bx).length - (decR (decide (nx % 8 ≠ 0)) 4096 (groups bx)).2) : Nat) : Int) = 8 * (((groups bx).length - (decR (decide (nx % 8 ≠ 0)) 4096 (groups bx)).2 : Nat) : Int) := by omega
                  rw [this]
                  exact Int.mul_tmod_right _ _
                have hg6 := hg5.below hbr6
                clear hq hgl hix hbx hfx hcell hb6
                go_upto_region 19 with fail
                refine wp_region_held_drew (S := fun w' => Below w6.heap.size w6 w') (by kernel_rfl) (Below.refl _ _).drew (fun hHeld => ?_)
                refine' takeAt (i := 0) (v := .iface 48 (.int .i64 1)) (d := (some 63)) rfl rfl (by kernel_rfl) (by kernel_rfl) (by kernel_rfl) (fun _ _ _ h => h) (Or.inl ⟨by kernel_rfl, fun w' hSw => by first | (go_simp; done) | (go_simp; with_reducible rfl)⟩) hHeld ?_
                set_option linter.unusedSimpArgs false in
                try simp only [Act.put, List.setIfInBounds_toArray, List.set_cons_zero, List.set_cons_succ]
                refine' takeAt (i := 1) (v := .bool false) (d := (some 64)) rfl rfl (by kernel_rfl) (by kernel_rfl) (by kernel_rfl) (fun _ _ _ h => h) (Or.inl ⟨by kernel_rfl, fun w' hSw => by first | (go_simp; done) | (go_simp; with_reducible rfl)⟩) hHeld ?_
                set_option linter.unusedSimpArgs false in
                try simp only [Act.put, List.setIfInBounds_toArray, List.set_cons_zero, List.set_cons_succ]
                refine' takeAt (i := 2) (v := .bool false) (d := (some 65)) rfl rfl (by kernel_rfl) (by kernel_rfl) (by kernel_rfl) (fun _ _ _ h => h) (Or.inl ⟨by kernel_rfl, fun w' hSw => by first | (go_simp; done) | (go_simp; with_reducible rfl)⟩) hHeld ?_
                set_option linter.unusedSimpArgs false in
                try simp only [Act.put, List.setIfInBounds_toArray, List.set_cons_zero, List.set_cons_succ]
                refine' takeAt (i := 3) (v := undef) (d := (some 66)) rfl rfl (by kernel_rfl) (by kernel_rfl) (by kernel_rfl) (fun _ _ _ h => h) (Or.inr ⟨by kernel_rfl, rfl⟩) hHeld ?_
                set_option linter.unusedSimpArgs false in
                try simp only [Act.put, List.setIfInBounds_toArray, List.set_cons_zero, List.set_cons_succ]
                refine' takeAt (i := 4) (v := undef) (d := (some 67)) rfl rfl (by kernel_rfl) (by kernel_rfl) (by kernel_rfl) (fun _ _ _ h => h) (Or.inr ⟨by kernel_rfl, rfl⟩) hHeld ?_
                set_option linter.unusedSimpArgs false in
                try simp only [Act.put, List.setIfInBounds_toArray, List.set_cons_zero, List.set_cons_succ]
                refine' takeAt (i := 5) (v := undef) (d := (some 68)) rfl rfl (by kernel_rfl) (by kernel_rfl) (by kernel_rfl) (fun _ _ _ h => h) (Or.inr ⟨by kernel_rfl, rfl⟩) hHeld ?_
                set_option linter.unusedSimpArgs false in
                try simp only [Act.put, List.setIfInBounds_toArray, List.set_cons_zero, List.set_cons_succ]
                refine' takeAt (i := 6) (v := undef) (d := (some 69)) rfl rfl (by kernel_rfl) (by kernel_rfl) (by kernel_rfl) (fun _ _ _ h => h) (Or.inr ⟨by kernel_rfl, rfl⟩) hHeld ?_
                set_option linter.unusedSimpArgs false in
                try simp only [Act.put, List.setIfInBounds_toArray, List.set_cons_zero, List.set_cons_succ]
                refine' takeAt (i := 7) (v := undef) (d := (some 70)) rfl rfl (by kernel_rfl) (by kernel_rfl) (by kernel_rfl) (fun _ _ _ h => h) (Or.inr ⟨by kernel_rfl, rfl⟩) hHeld ?_
                set_option linter.unusedSimpArgs false in
                try simp only [Act.put, List.setIfInBounds_toArray, List.set_cons_zero, List.set_cons_succ]
                refine' takeAt (i := 8) (v := undef) (d := (some 71)) rfl rfl (by kernel_rfl) (by kernel_rfl) (by kernel_rfl) (fun _ _ _ h => h) (Or.inr ⟨by kernel_rfl, rfl⟩) hHeld ?_
                set_option linter.unusedSimpArgs false in
                try simp only [Act.put, List.setIfInBounds_toArray, List.set_cons_zero, List.set_cons_succ]
                refine' takeAt (i := 9) (v := undef) (d := (some 72)) rfl rfl (by kernel_rfl) (by kernel_rfl) (by kernel_rfl) (fun _ _ _ h => h) (Or.inr ⟨by kernel_rfl, rfl⟩) hHeld ?_
                set_option linter.unusedSimpArgs false in
                try simp only [Act.put, List.setIfInBounds_toArray, List.set_cons_zero, List.set_cons_succ]
                refine' takeAt (i := 10) (v := undef) (d := (some 73)) rfl rfl (by kernel_rfl) (by kernel_rfl) (by kernel_rfl) (fun _ _ _ h => h) (Or.inr ⟨by kernel_rfl, rfl⟩) hHeld ?_
                set_option linter.unusedSimpArgs false in
                try simp only [Act.put, List.setIfInBounds_toArray, List.set_cons_zero, List.set_cons_succ]
                refine' takeAt (i := 11) (v := undef) (d := (some 74)) rfl rfl (by kernel_rfl) (by kernel_rfl) (by kernel_rfl) (fun _ _ _ h => h) (Or.inr ⟨by kernel_rfl, rfl⟩) hHeld ?_
                set_option linter.unusedSimpArgs false in
                try simp only [Act.put, List.setIfInBounds_toArray, List.set_cons_zero, List.set_cons_succ]
                refine' takeAt (i := 12) (v := undef) (d := (some 75)) rfl rfl (by kernel_rfl) (by kernel_rfl) (by kernel_rfl) (fun _ _ _ h => h) (Or.inr ⟨by kernel_rfl, rfl⟩) hHeld ?_
                set_option linter.unusedSimpArgs false in
                try simp only [Act.put, List.setIfInBounds_toArray, List.set_cons_zero, List.set_cons_succ]
                refine' takeAt (i := 13) (v := undef) (d := (some 76)) rfl rfl (by kernel_rfl) (by kernel_rfl) (by kernel_rfl) (fun _ _ _ h => h) (Or.inr ⟨by kernel_rfl, rfl⟩) hHeld ?_
                set_option linter.unusedSimpArgs false in
                try simp only [Act.put, List.setIfInBounds_toArray, List.set_cons_zero, List.set_cons_succ]
                refine' takeAt (i := 14) (v := undef) (d := (some 77)) rfl rfl (by kernel_rfl) (by kernel_rfl) (by kernel_rfl) (fun _ _ _ h => h) (Or.inr ⟨by kernel_rfl, rfl⟩) hHeld ?_
                set_option linter.unusedSimpArgs false in
                try simp only [Act.put, List.setIfInBounds_toArray, List.set_cons_zero, List.set_cons_succ]
                refine' takeAt (i := 15) (v := .bool false) (d := (some 78)) rfl rfl (by kernel_rfl) (by kernel_rfl) (by kernel_rfl) (fun _ _ _ h => h) (Or.inl ⟨by kernel_rfl, fun w' hSw => by first | (go_simp; done) | (go_simp; with_reducible rfl)⟩) hHeld ?_
                set_option linter.unusedSimpArgs false in
                try simp only [Act.put, List.setIfInBounds_toArray, List.set_cons_zero, List.set_cons_succ]
                refine wpAnyH_done (by kernel_rfl) ?_ _
                have hg7 := hg6.below hHeld
                have hbr7 := below_trans hbr6 hHeld
                go_wp2_with (go_at_call 10; refine (Number_calls _ 1 hg7).mono ?_; rintro en w8 ⟨rfl, hb8⟩)
                go_roundw
                case rel => exact ⟨j + 1, by omega, by go_num, below_trans hbr7 hb8⟩
                case measure => simp [intOf]; omega
            · go_wp2
              go_ret
              exact ⟨rfl, hbB5.trans (hbr.mono hBs5)⟩
  · go_enter Tryd.func3, Tryd.ntmps3
    go_wp2_with (go_at_call 6; refine (l04awake_calls _).mono ?_; rintro e w1 ⟨rfl, hb1⟩)
    go_ret
    exact ⟨rfl, hb1⟩
end Go.Proofs.YtccficljaomhhaaDoor
