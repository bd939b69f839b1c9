/- wire: May, Encode. -/
import Derived.Test.YtccficljaomhhaaDoorWire1
import Derived.Test.YtccficljaomhhaaDoorWire3
import Derived.Test.YtccficljaomhhaaDoorTypes
namespace Go.Proofs.YtccficljaomhhaaDoor
open Go.RowKit
def mayB (e : Ev) : Bool :=
  if e.kind = 0 then decide (0 ≤ e.slot) && decide (e.slot ≤ 1099511627776) else if e.kind = 1 then blockB e.block else if e.kind = 2 then voteB e.vote else if e.kind = 3 then proofB e.proof else false
def evN (e : Ev) : List Int := w64 e.kind :: (if e.kind = 0 then [w64 e.slot] else if e.kind = 1 then blockN e.block else if e.kind = 2 then voteN e.vote else proofN e.proof)
set_option maxHeartbeats 1000000 in
theorem wmay_calls (w : World) (e : Ev) (A1 : Option Addr) (c1 : Nat) (A2 : Option Addr) (c2 : Nat) (A3 : Option Addr) (c3 : Nat) (A4 : Option Addr) (c4 : Nat) (A5 : Option Addr) (c5 : Nat) (hr : EvR anyB w e A1 c1 A2 c2 A3 c3 A4 c4 A5 c5) :
    Calls Tryd.prog 19 #[.agg #[.int .i64 e.kind, .int .i64 e.slot, .int .u64 e.block.root, .int .u64 e.block.parent, .int .i64 e.block.slot, .slice A1 e.block.votes.length c1, .slice A2 e.block.proofs.length c2, .int .i64 e.vote.slot, .int .u64 e.vote.head, .int .i64 e.vote.src.e, .int .u64 e.vote.src.r, .int .i64 e.vote.tgt.e, .int .u64 e.vote.tgt.r, .slice A3 e.vote.who.length c3, .int .i64 e.proof.a.slot, .int .u64 e.proof.a.head, .int .i64 e.proof.a.src.e, .int .u64 e.proof.a.src.r, .int .i64 e.proof.a.tgt.e, .int .u64 e.proof.a.tgt.r, .slice A4 e.proof.a.who.length c4, .int .i64 e.proof.b.slot, .int .u64 e.proof.b.head, .int .i64 e.proof.b.src.e, .int .u64 e.proof.b.src.r, .int .i64 e.proof.b.tgt.e, .int .u64 e.proof.b.tgt.r, .slice A5 e.proof.b.who.length c5]] w fun en w' => en = .returned (.bool (mayB e)) ∧ Below w.heap.size w w' := by
  obtain ⟨B, HB, hB1, hB2⟩ := size_hid w
  go_enter Tryd.func19, Tryd.ntmps19
  go_upto_region 1 with fail
  generalize hW0 : w.alloc (Obj.cells _ 40) = W0
  have hb0 : Below w.heap.size w W0 := by rw [← hW0]; exact below_alloc (Below.refl _ _) _
  have hat : EvAt W0 w.heap.size 0 e A1 c1 A2 c2 A3 c3 A4 c4 A5 c5 := EvAt.blk (by rw [← hW0]; exact heap_new _ _)
  clear hW0
  rw [HB.out] at hat ⊢
  simp only [EvAt, VtAt, Nat.zero_add, Nat.reduceAdd] at hat
  obtain ⟨⟨h0, h1, h2, h3, h4, h5, h6⟩, ⟨h7, h8, h9, h10, h11, h12, h13⟩, ⟨h14, h15, h16, h17, h18, h19, h20⟩, ⟨h21, h22, h23, h24, h25, h26, h27⟩⟩ := hat
  have hr0 := hr.below hb0
  clear hr
  by_cases k0 : e.kind = 0
  · have K0 := Lib.hid k0
    have kb : (e.kind == 0) = true := by simp [k0]
    clear k0
    go_wp2_with (go_at_call 31; refine (wsmall1 _ _ _ e.slot (ints_blk _ (heap_new _ _))).mono ?_; rintro en w1 ⟨rfl, rfl⟩)
    go_ret
    exact ⟨ret_bool (by rw [mayB, if_pos K0.out]), below_alloc hb0 _⟩
  · have kb0 : (e.kind == 0) = false := by simp [k0]
    by_cases k1 : e.kind = 1
    · have K0 := Lib.hid k0
      have K1 := Lib.hid k1
      have kb : (e.kind == 1) = true := by simp [k1]
      clear k0 k1
      go_wp2_with (go_at_call 32; refine (wblock_calls _ e.block _ _ _ _ hr0.r1 hr0.r2 hr0.f1.2 hr0.f2.2).mono ?_; rintro en w1 ⟨rfl, hb1⟩)
      go_ret
      exact ⟨ret_bool (by rw [mayB, if_neg K0.out, if_pos K1.out]), below_trans hb0 hb1⟩
    · have kb1 : (e.kind == 1) = false := by simp [k1]
      by_cases k2 : e.kind = 2
      · have K0 := Lib.hid k0
        have K1 := Lib.hid k1
        have K2 := Lib.hid k2
        have kb : (e.kind == 2) = true := by simp [k2]
        clear k0 k1 k2
        go_wp2_with (go_at_call 33; refine (wvote_calls _ e.vote _ _ hr0.r3 hr0.f3.2).mono ?_; rintro en w1 ⟨rfl, hb1⟩)
        go_ret
        exact ⟨ret_bool (by rw [mayB, if_neg K0.out, if_neg K1.out, if_pos K2.out]), below_trans hb0 hb1⟩
      · have kb2 : (e.kind == 2) = false := by simp [k2]
        by_cases k3 : e.kind = 3
        · have K0 := Lib.hid k0
          have K1 := Lib.hid k1
          have K2 := Lib.hid k2
          have K3 := Lib.hid k3
          have kb : (e.kind == 3) = true := by simp [k3]
          clear k0 k1 k2 k3
          go_wp2_with fail
          refine (wvote_calls _ e.proof.a _ _ hr0.r4 hr0.f4.2).mono ?_
          rintro en w1 ⟨rfl, hb1⟩
          have g21 := cell_below h21 hb1
          have g22 := cell_below h22 hb1
          have g23 := cell_below h23 hb1
          have g24 := cell_below h24 hb1
          have g25 := cell_below h25 hb1
          have g26 := cell_below h26 hb1
          have g27 := cell_below h27 hb1
          have hb01 := below_trans hb0 hb1
          cases hva : voteB e.proof.a
          · have HV := Lib.hid hva
            go_wp2
            go_ret
            exact ⟨ret_bool (by rw [mayB, if_neg K0.out, if_neg K1.out, if_neg K2.out, if_pos K3.out, proofB, HV.out]; rfl), hb01⟩
          · have HV := Lib.hid hva
            go_wp2_with (go_at_call 33; refine (wvote_calls _ e.proof.b _ _ (Ints.below hr0.r5 hb1) hr0.f5.2).mono ?_; rintro en w2 ⟨rfl, hb2⟩)
            go_ret
            exact ⟨ret_bool (by rw [mayB, if_neg K0.out, if_neg K1.out, if_neg K2.out, if_pos K3.out, proofB, HV.out]; rfl), below_trans hb01 hb2⟩
        · have kb3 : (e.kind == 3) = false := by simp [k3]
          have K0 := Lib.hid k0
          have K1 := Lib.hid k1
          have K2 := Lib.hid k2
          have K3 := Lib.hid k3
          clear k0 k1 k2 k3
          go_wp2
          go_ret
          exact ⟨ret_bool (by rw [mayB, if_neg K0.out, if_neg K1.out, if_neg K2.out, if_neg K3.out]), hb0⟩
theorem voteN_le {v : Vt} (h : voteB v = true) : (voteN v).length ≤ 4103 := by
  rw [voteN_length]
  simp only [voteB, Bool.and_eq_true, decide_eq_true_eq] at h
  omega
theorem flatMap_le {α : Type} (f : α → List Int) (m : Nat) : ∀ (l : List α), (∀ x ∈ l, (f x).length ≤ m) → (l.flatMap f).length ≤ l.length * m
  | [], _ => by simp
  | x :: l, h => by
    rw [List.flatMap_cons, List.length_append, List.length_cons, Nat.succ_mul]
    have h1 := h x (by simp)
    have h2 := flatMap_le f m l (fun y hy => h y (by simp [hy]))
    omega
theorem proofN_le {p : Pf} (h : proofB p = true) : (proofN p).length ≤ 8206 := by
  simp only [proofB, Bool.and_eq_true] at h
  have h1 := voteN_le h.1
  have h2 := voteN_le h.2
  rw [proofN, List.length_append]; omega
theorem evN_le {e : Ev} (h : mayB e = true) : (evN e).length ≤ 200000 := by
  unfold mayB at h
  unfold evN
  by_cases k0 : e.kind = 0
  · simp [k0]
  · rw [if_neg k0] at h ⊢
    by_cases k1 : e.kind = 1
    · rw [if_pos k1] at h ⊢
      simp only [blockB, Bool.and_eq_true, decide_eq_true_eq, List.all_eq_true] at h
      have h1 := flatMap_le voteN 4103 e.block.votes (fun v hv => voteN_le (h.1.2 v hv))
      have h2 := flatMap_le proofN 8206 e.block.proofs (fun v hv => proofN_le (h.2 v hv))
      have h3 := Nat.mul_le_mul_right 4103 h.1.1.1.2
      have h4 := Nat.mul_le_mul_right 8206 h.1.1.2
      simp only [blockN, List.length_cons, List.length_append, List.length_nil]
      omega
    · rw [if_neg k1] at h ⊢
      by_cases k2 : e.kind = 2
      · rw [if_pos k2] at h ⊢
        have := voteN_le h
        simp only [List.length_cons]; omega
      · rw [if_neg k2] at h ⊢
        by_cases k3 : e.kind = 3
        · rw [if_pos k3] at h
          have := proofN_le h
          simp only [List.length_cons]; omega
        · rw [if_neg k3] at h
          cases h
def encN (es : List Ev) : List Int := es.flatMap evN
def encOk (es : List Ev) : Bool := decide (es.length ≤ 4096) && es.all mayB
theorem mayB_kind {e : Ev} (h : mayB e = true) : 0 ≤ e.kind ∧ e.kind ≤ 3 := by
  unfold mayB at h
  split at h
  · omega
  · split at h
    · omega
    · split at h
      · omega
      · split at h
        · omega
        · cases h
set_option maxRecDepth 100000 in
set_option maxHeartbeats 1000000 in
theorem wencodeC_calls (w : World) (A : Option Addr) (n c : Nat) (es : List Ev) (hes : Evs anyB w A es) (hn : es.length = n) (hm : n ≤ maxLen) :
    Calls Tryd.prog 11 #[.slice A n c] w fun en w' => Below w.heap.size w w' ∧
      ((encOk es = true ∧ ∃ A' n' c', en = .returned (.tuple #[.slice A' n' c', .bool true]) ∧ Ints anyB .u8 w' A' (bes (encN es)) ∧ Hid ((bes (encN es)).length = n') ∧ n' ≤ c') ∨
       (encOk es = false ∧ en = .returned (.tuple #[.slice none 0 0, .bool false]))) := by
  subst hn
  unfold maxLen at hm
  obtain ⟨B, HB, hB1, hB2⟩ := size_hid w
  by_cases hL : es.length ≤ 4096
  · go_enter Tryd.func11, Tryd.ntmps11
    go_wp2
    generalize hW0 : w.alloc (Obj.cells _ 69) = W0
    have hb0 : Below w.heap.size w W0 := by rw [← hW0]; exact below_alloc (Below.refl _ _) _
    have hw0 : WAt W0 w.heap.size [] := by rw [← hW0]; exact ⟨none, 0, 0, heap_new _ _, ⟨Lie.nil, Nat.le_refl _⟩, rfl⟩
    have he0 : Evs (· ≠ w.heap.size) W0 A es := by
      refine (Evs.lt hes).mono (fun b hb => ?_) (fun b _ hb => hb0.block b hb)
      exact Nat.ne_of_lt hb.2
    clear hW0 hes
    rw [HB.out] at hw0 he0 ⊢
    go_loopw [14] (fun i wr => ∃ k : Nat, k ≤ es.length ∧ i = .int .i64 k ∧ Hid ((es.take k).all mayB = true) ∧ WAt wr B (bes (encN (es.take k))) ∧ Ext (· = B) W0 wr) (fun i _ => es.length - (intOf i).toNat)
    case atStart => exact ⟨0, Nat.zero_le _, rfl, rfl, by simpa [bes, encN] using hw0, Ext.refl _ _⟩
    case round =>
      obtain ⟨k, hk, rfl, HK, hWr, hxr⟩ := hrel
      have hbr : Below w.heap.size w wr := hb0.trans (hxr.below hb0.size (fun i hi => by omega))
      by_cases hlt : k < es.length
      · obtain ⟨e, hx⟩ : ∃ e, es[k]? = some e := ⟨_, List.getElem?_eq_getElem hlt⟩
        have her : Evs (· ≠ B) wr A es := he0.mono (fun _ x => x) (fun i hi hi' => hxr.block i hi' hi)
        obtain ⟨bb, o, rfl, _, A1, c1, A2, c2, A3, c3, A4, c4, A5, c5, hr, hat⟩ := her.get hx
        have HX := Lib.hid hx
        have HAT := Lib.hid hat
        clear hx her hat
        go_upto_region 7 with (first | (refine wpList_load_mid rfl 40 _ rfl _ _ rfl [.int .i64 e.kind, .int .i64 e.slot, .int .u64 e.block.root, .int .u64 e.block.parent, .int .i64 e.block.slot, .slice A1 e.block.votes.length c1, .slice A2 e.block.proofs.length c2, .int .i64 e.vote.slot, .int .u64 e.vote.head, .int .i64 e.vote.src.e, .int .u64 e.vote.src.r, .int .i64 e.vote.tgt.e, .int .u64 e.vote.tgt.r, .slice A3 e.vote.who.length c3, .int .i64 e.proof.a.slot, .int .u64 e.proof.a.head, .int .i64 e.proof.a.src.e, .int .u64 e.proof.a.src.r, .int .i64 e.proof.a.tgt.e, .int .u64 e.proof.a.tgt.r, .slice A4 e.proof.a.who.length c4, .int .i64 e.proof.b.slot, .int .u64 e.proof.b.head, .int .i64 e.proof.b.src.e, .int .u64 e.proof.b.src.r, .int .i64 e.proof.b.tgt.e, .int .u64 e.proof.b.tgt.r, .slice A5 e.proof.b.who.length c5] _ HAT.out Tryd.underlying40 rfl iEv ?_) | (refine wpList_box 40 6 _ (.tmp 17) [.int .i64 e.kind, .int .i64 e.slot, .int .u64 e.block.root, .int .u64 e.block.parent, .int .i64 e.block.slot, .slice A1 e.block.votes.length c1, .slice A2 e.block.proofs.length c2, .int .i64 e.vote.slot, .int .u64 e.vote.head, .int .i64 e.vote.src.e, .int .u64 e.vote.src.r, .int .i64 e.vote.tgt.e, .int .u64 e.vote.tgt.r, .slice A3 e.vote.who.length c3, .int .i64 e.proof.a.slot, .int .u64 e.proof.a.head, .int .i64 e.proof.a.src.e, .int .u64 e.proof.a.src.r, .int .i64 e.proof.a.tgt.e, .int .u64 e.proof.a.tgt.r, .slice A4 e.proof.a.who.length c4, .int .i64 e.proof.b.slot, .int .u64 e.proof.b.head, .int .i64 e.proof.b.src.e, .int .u64 e.proof.b.src.r, .int .i64 e.proof.b.tgt.e, .int .u64 e.proof.b.tgt.r, .slice A5 e.proof.b.who.length c5] rfl rfl rfl zEv rfl rfl iEv rfl ?_))
        generalize hW2 : wr.alloc (Obj.cells _ 40) = W2
        have hblk := heap_new wr (Obj.cells #[.int .i64 e.kind, .int .i64 e.slot, .int .u64 e.block.root, .int .u64 e.block.parent, .int .i64 e.block.slot, .slice A1 e.block.votes.length c1, .slice A2 e.block.proofs.length c2, .int .i64 e.vote.slot, .int .u64 e.vote.head, .int .i64 e.vote.src.e, .int .u64 e.vote.src.r, .int .i64 e.vote.tgt.e, .int .u64 e.vote.tgt.r, .slice A3 e.vote.who.length c3, .int .i64 e.proof.a.slot, .int .u64 e.proof.a.head, .int .i64 e.proof.a.src.e, .int .u64 e.proof.a.src.r, .int .i64 e.proof.a.tgt.e, .int .u64 e.proof.a.tgt.r, .slice A4 e.proof.a.who.length c4, .int .i64 e.proof.b.slot, .int .u64 e.proof.b.head, .int .i64 e.proof.b.src.e, .int .u64 e.proof.b.src.r, .int .i64 e.proof.b.tgt.e, .int .u64 e.proof.b.tgt.r, .slice A5 e.proof.b.who.length c5] 40)
        rw [hW2] at hblk
        have hbw2 : Below wr.heap.size wr W2 := by rw [← hW2]; exact below_alloc (Below.refl _ _) _
        clear hW2
        have hr2 := hr.below hbw2
        have hW2 := hWr.below hbw2
        clear hr
        have hbw3 : ∀ {w3 : World}, Below W2.heap.size W2 w3 → Below w.heap.size w w3 := fun h => below_trans (below_trans hbr hbw2) h
        have hwlt := hWr.lt
        have hwsz := hbw2.size
        have hat := EvAt.blk hblk
        cases hmb : mayB e
        · have HM := Lib.hid hmb
          go_wp2_with (first | (refine wpList_load_mid rfl 40 _ rfl _ _ rfl [.int .i64 e.kind, .int .i64 e.slot, .int .u64 e.block.root, .int .u64 e.block.parent, .int .i64 e.block.slot, .slice A1 e.block.votes.length c1, .slice A2 e.block.proofs.length c2, .int .i64 e.vote.slot, .int .u64 e.vote.head, .int .i64 e.vote.src.e, .int .u64 e.vote.src.r, .int .i64 e.vote.tgt.e, .int .u64 e.vote.tgt.r, .slice A3 e.vote.who.length c3, .int .i64 e.proof.a.slot, .int .u64 e.proof.a.head, .int .i64 e.proof.a.src.e, .int .u64 e.proof.a.src.r, .int .i64 e.proof.a.tgt.e, .int .u64 e.proof.a.tgt.r, .slice A4 e.proof.a.who.length c4, .int .i64 e.proof.b.slot, .int .u64 e.proof.b.head, .int .i64 e.proof.b.src.e, .int .u64 e.proof.b.src.r, .int .i64 e.proof.b.tgt.e, .int .u64 e.proof.b.tgt.r, .slice A5 e.proof.b.who.length c5] _ (fun j v hj => by rw [Nat.zero_add, blk_cell hblk]; simpa using hj) Tryd.underlying40 rfl iEv ?_) | (go_at_call 19; refine (wmay_calls _ e _ _ _ _ _ _ _ _ _ _ hr2.any).mono ?_; rintro en w3 ⟨rfl, hb3⟩))
          go_ret2
          exact ⟨hbw3 hb3, .inr ⟨by rw [encOk, all_not HX.out HM.out]; simp, rfl⟩⟩
        · have HM := Lib.hid hmb
          go_upto_region 9 with (first | (refine wpList_load_mid rfl 40 _ rfl _ _ rfl [.int .i64 e.kind, .int .i64 e.slot, .int .u64 e.block.root, .int .u64 e.block.parent, .int .i64 e.block.slot, .slice A1 e.block.votes.length c1, .slice A2 e.block.proofs.length c2, .int .i64 e.vote.slot, .int .u64 e.vote.head, .int .i64 e.vote.src.e, .int .u64 e.vote.src.r, .int .i64 e.vote.tgt.e, .int .u64 e.vote.tgt.r, .slice A3 e.vote.who.length c3, .int .i64 e.proof.a.slot, .int .u64 e.proof.a.head, .int .i64 e.proof.a.src.e, .int .u64 e.proof.a.src.r, .int .i64 e.proof.a.tgt.e, .int .u64 e.proof.a.tgt.r, .slice A4 e.proof.a.who.length c4, .int .i64 e.proof.b.slot, .int .u64 e.proof.b.head, .int .i64 e.proof.b.src.e, .int .u64 e.proof.b.src.r, .int .i64 e.proof.b.tgt.e, .int .u64 e.proof.b.tgt.r, .slice A5 e.proof.b.who.length c5] _ (fun j v hj => by rw [Nat.zero_add, blk_cell hblk]; simpa using hj) Tryd.underlying40 rfl iEv ?_) | (go_at_call 19; refine (wmay_calls _ e _ _ _ _ _ _ _ _ _ _ hr2.any).mono ?_; rintro en w3 ⟨rfl, hb3⟩))
          have hk3 := mayB_kind HM.out
          have hel := evN_le HM.out
          have hpl : (bes (encN (es.take k))).length ≤ 8 * (4096 * 200000) := by
            rw [bes_length]
            have := flatMap_le evN 200000 (es.take k) (fun x hx => by
              have := List.all_eq_true.1 HK.out x hx
              exact evN_le this)
            have h2 : (es.take k).length ≤ 4096 := by rw [List.length_take]; omega
            have h3 := Nat.mul_le_mul_right 200000 h2
            simp only [encN]; omega
          have HPL := Lib.hid hpl
          have HEL := Lib.hid hel
          have HK3 := Lib.hid hk3
          clear hpl hel hk3 hmb
          have hat3 := hat.below hb3
          have hr3 := hr2.below hb3
          have hW3 := hW2.below hb3
          have h0 := hat3.1.1
          go_wp2_with fail
          refine (wput1 _ B _ _ e.kind (hW3.below (below_alloc (Below.refl _ _) _)) (ints_new _ (heap_new _ _) (by have := hW3.lt; omega)) (by have := HPL.out; omega)).mono ?_
          rintro en w4 ⟨rfl, hW4, hx4⟩
          have hne : ¬ wr.heap.size = B := by omega
          have hx34 : Ext (· = B) w3 w4 := ((Ext.refl _ _).alloc _).trans hx4 (fun _ _ x => x)
          have hat4 := hat3.ext hx34 hne
          have hr4 : EvR (· ≠ B) w4 e A1 c1 A2 c2 A3 c3 A4 c4 A5 c5 := hr3.mono (fun _ x => x) (fun i hi hi' => hx34.block i hi' hi)
          have hxr4 : Ext (· = B) W0 w4 := (((hxr.thenBelow hbw2).thenBelow hb3).trans hx34 (fun _ _ x => x))
          have h0' := cell_ext h0 hx34 hne
          have hev : Hid (bes (encN (es.take (k + 1))) = bes (encN (es.take k)) ++ bes (evN e)) := by
            show _ = _
            rw [encN, flatMap_take_succ evN HX.out, bes_append]; rfl
          have hmt : Hid ((es.take (k + 1)).all mayB = true) := by
            show _ = _
            rw [List.take_add_one, List.all_append, HK.out, HX.out]; simpa using HM.out
          clear h0 hat3 hr3 hW3 hx4 hx34 hat hr2 hW2 hblk hWr hxr he0 HAT hbr
          by_cases k0 : e.kind = 0
          · have hsl : Hid (evN e = [w64 e.kind, w64 e.slot]) := by show _ = _; simp [evN, k0]
            have kb : (e.kind == 0) = true := by simp [k0]
            clear k0
            have h1 := hat4.1.2.1
            rw [Nat.zero_add] at h1
            go_wp2_with fail
            refine (wput1 _ B _ _ e.slot (hW4.below (below_alloc (Below.refl _ _) _)) (ints_new _ (heap_new _ _) (by have := hW4.lt; omega)) (by have := HPL.out; simp [be8_length]; omega)).mono ?_
            rintro en w5 ⟨rfl, hW5, hx5⟩
            go_wp2
            go_roundw
            case rel =>
              refine ⟨k + 1, by omega, by go_num, hmt, ?_, (hxr4.alloc _).trans hx5 (fun _ _ x => x)⟩
              rw [hev.out, hsl.out]
              simpa [bes, List.append_assoc] using hW5
            case measure => simp [intOf]; omega
          · have kb0 : (e.kind == 0) = false := by simp [k0]
            by_cases k1 : e.kind = 1
            · have hsl : Hid (evN e = w64 e.kind :: blockN e.block) := by show _ = _; simp [evN, k1]
              have kb : (e.kind == 1) = true := by simp [k1]
              clear k0 k1
              obtain ⟨⟨_, _, h2, h3, h4, h5, h6⟩, _⟩ := hat4
              simp only [Nat.zero_add] at h2 h3 h4 h5 h6
              go_wp2_with fail
              refine (wwblock_calls _ B _ e.block A1 c1 A2 c2 hW4 hr4.r1 hr4.r2 hr4.f1.2 hr4.f2.2 (by have := HPL.out; have := HEL.out; rw [hsl.out] at this; simp [be8_length] at this ⊢; omega)).mono ?_
              rintro en w5 ⟨rfl, hW5, hx5⟩
              go_wp2
              go_roundw
              case rel =>
                refine ⟨k + 1, by omega, by go_num, hmt, ?_, hxr4.trans hx5 (fun _ _ x => x)⟩
                rw [hev.out, hsl.out]
                simpa [bes, List.append_assoc] using hW5
              case measure => simp [intOf]; omega
            · have kb1 : (e.kind == 1) = false := by simp [k1]
              by_cases k2 : e.kind = 2
              · have hsl : Hid (evN e = w64 e.kind :: voteN e.vote) := by show _ = _; simp [evN, k2]
                have kb : (e.kind == 2) = true := by simp [k2]
                clear k0 k1 k2
                obtain ⟨_, ⟨h7, h8, h9, h10, h11, h12, h13⟩, _⟩ := hat4
                simp only [Nat.zero_add, Nat.reduceAdd] at h7 h8 h9 h10 h11 h12 h13
                go_wp2_with fail
                refine (wwvote_calls _ B _ e.vote A3 c3 hW4 hr4.r3 (by have := HPL.out; have := HEL.out; rw [hsl.out] at this; simp [be8_length] at this ⊢; omega)).mono ?_
                rintro en w5 ⟨rfl, hW5, hx5⟩
                go_wp2
                go_roundw
                case rel =>
                  refine ⟨k + 1, by omega, by go_num, hmt, ?_, hxr4.trans hx5 (fun _ _ x => x)⟩
                  rw [hev.out, hsl.out]
                  simpa [bes, List.append_assoc] using hW5
                case measure => simp [intOf]; omega
              · have kb2 : (e.kind == 2) = false := by simp [k2]
                have hsl : Hid (evN e = w64 e.kind :: (voteN e.proof.a ++ voteN e.proof.b)) := by show _ = _; simp [evN, k0, k1, k2, proofN]
                clear k0 k1 k2
                have hat5 := hat4.2.2.2
                obtain ⟨_, _, ⟨h7, h8, h9, h10, h11, h12, h13⟩, _⟩ := hat4
                simp only [Nat.zero_add, Nat.reduceAdd] at h7 h8 h9 h10 h11 h12 h13
                go_wp2_with fail
                refine (wwvote_calls _ B _ e.proof.a A4 c4 hW4 hr4.r4 (by have := HPL.out; have := HEL.out; rw [hsl.out] at this; simp [be8_length] at this ⊢; omega)).mono ?_
                rintro en w5 ⟨rfl, hW5, hx5⟩
                have hat6 := hat5.ext hx5 hne
                have hr5 : Ints (· ≠ B) .i64 w5 A5 e.proof.b.who := Lie.mono hr4.r5 (fun _ _ _ x => x) (fun _ x => x) (fun i hi hi' => hx5.block i hi' hi)
                clear h7 h8 h9 h10 h11 h12 h13 hat5 hW4
                obtain ⟨h7, h8, h9, h10, h11, h12, h13⟩ := hat6
                simp only [Nat.zero_add, Nat.reduceAdd] at h7 h8 h9 h10 h11 h12 h13
                go_wp2_with fail
                refine (wwvote_calls _ B _ e.proof.b A5 c5 hW5 hr5 (by have h1 := HPL.out; rw [bes_length] at h1; have := HEL.out; rw [hsl.out] at this; simp [be8_length, bes_length] at this ⊢; omega)).mono ?_
                rintro en w6 ⟨rfl, hW6, hx6⟩
                go_wp2
                go_roundw
                case rel =>
                  refine ⟨k + 1, by omega, by go_num, hmt, ?_, (hxr4.trans hx5 (fun _ _ x => x)).trans hx6 (fun _ _ x => x)⟩
                  rw [hev.out, hsl.out]
                  simpa [bes, List.append_assoc] using hW6
                case measure => simp [intOf]; omega
      · obtain rfl : k = es.length := by omega
        rw [List.take_length] at hWr HK
        obtain ⟨A1, n1, c1, hblk, hbs, HL⟩ := hWr
        have hwc := blk_cell hblk 0
        simp only [List.getElem?_toArray, List.getElem?_cons_zero] at hwc
        go_wp2
        go_ret2
        exact ⟨hbr, .inl ⟨by rw [encOk, HK.out]; simp [hL], A1, n1, c1, rfl, hbs.any, HL, hbs.cap⟩⟩
  · go_enter Tryd.func11, Tryd.ntmps11
    go_wp2
    go_ret2
    exact ⟨below_alloc (Below.refl _ _) _, .inr ⟨by simp [encOk, hL], rfl⟩⟩
theorem wencode_calls (w : World) (A : Option Addr) (n c : Nat) (es : List Ev) (hes : Evs anyB w A es) (hn : es.length = n) (hm : n ≤ maxLen) :
    Calls Tryd.prog 11 #[.slice A n c] w fun en w' => Below w.heap.size w w' ∧
      ((encOk es = true ∧ ∃ A' n' c', en = .returned (.tuple #[.slice A' n' c', .bool true]) ∧ Ints anyB .u8 w' A' (bes (encN es)) ∧ Hid ((bes (encN es)).length = n')) ∨
       (encOk es = false ∧ en = .returned (.tuple #[.slice none 0 0, .bool false]))) :=
  (wencodeC_calls w A n c es hes hn hm).mono fun _ _ ⟨hb, h⟩ => ⟨hb, h.imp (fun ⟨h1, A', n', c', h2, h3, h4, _⟩ => ⟨h1, A', n', c', h2, h3, h4⟩) id⟩
end Go.Proofs.YtccficljaomhhaaDoor
