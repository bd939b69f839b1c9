/- The statements of layer 4: the numbers of an event; the bytes of events that may be. -/
import Derived.Test.YtccficljaomhhaaDoorL04f
namespace Go.Proofs.YtccficljaomhhaaDoor
open Go.RowKit
attribute [local go_sem ↓] Go.wp_at_zero Go.wp_at_succ
theorem numbers_calls (w : World) (e : Ev) (A1 : Option Addr) (c1 : Nat) (A2 : Option Addr) (c2 : Nat) (A3 : Option Addr) (c3 : Nat) (A4 : Option Addr) (c4 : Nat) (A5 : Option Addr) (c5 : Nat) (hr : EvR anyB w e A1 c1 A2 c2 A3 c3 A4 c4 A5 c5) (hm : mayB e = true) :
    Calls Tryd.prog 14 #[.agg #[.int .i64 e.kind, .int .i64 e.slot, .int .u64 e.block.root, .int .u64 e.block.parent, .int .i64 e.block.slot, .slice A1 e.block.votes.length c1, .slice A2 e.block.proofs.length c2, .int .i64 e.vote.slot, .int .u64 e.vote.head, .int .i64 e.vote.src.e, .int .u64 e.vote.src.r, .int .i64 e.vote.tgt.e, .int .u64 e.vote.tgt.r, .slice A3 e.vote.who.length c3, .int .i64 e.proof.a.slot, .int .u64 e.proof.a.head, .int .i64 e.proof.a.src.e, .int .u64 e.proof.a.src.r, .int .i64 e.proof.a.tgt.e, .int .u64 e.proof.a.tgt.r, .slice A4 e.proof.a.who.length c4, .int .i64 e.proof.b.slot, .int .u64 e.proof.b.head, .int .i64 e.proof.b.src.e, .int .u64 e.proof.b.src.r, .int .i64 e.proof.b.tgt.e, .int .u64 e.proof.b.tgt.r, .slice A5 e.proof.b.who.length c5]] w fun en w' => ∃ A' n' c', en = .returned (.slice A' n' c') ∧ Own64 w.heap.size w' A' n' c' (evN e) ∧ Below w.heap.size w w' := by
  have hk := mayB_kind hm
  by_cases k1 : e.kind = 1
  · exact numbers1_calls w e A1 c1 A2 c2 A3 c3 A4 c4 A5 c5 hr hm k1
  · by_cases k3 : e.kind = 3
    · exact numbers3_calls w e A1 c1 A2 c2 A3 c3 A4 c4 A5 c5 hr hm k3
    · exact numbers02_calls w e A1 c1 A2 c2 A3 c3 A4 c4 A5 c5 hr hm (by omega)
/-- A byte slice of the call's own. -/
def Own8 (base : Nat) (w : World) (A : Option Addr) (n c : Nat) (xs : List Int) : Prop := w.ownsRow base 5 1 (.slice A n c) n (u8s xs)
theorem Own8.len {base : Nat} {w : World} {A : Option Addr} {n c : Nat} {xs : List Int} (h : Own8 base w A n c xs) : xs.length = n := by have := h.1; simpa using this
theorem Own8.ints {base : Nat} {w : World} {A : Option Addr} {n c : Nat} {xs : List Int} (h : Own8 base w A n c xs) : Ints anyB .u8 w A xs := (Ints.of_own h).any
set_option maxRecDepth 100000 in
set_option maxHeartbeats 2000000 in
theorem bytesN_calls (w : World) (A : Option Addr) (n c : Nat) (es : List Ev) (hes : Evs anyB w A es) (hn : es.length = n) (hm : n ≤ 4400) (hg : es.all mayB = true) :
    Calls Tryd.prog 8 #[.slice A n c] w fun en w' => ∃ A' n' c', en = .returned (.slice A' n' c') ∧ Own8 w.heap.size w' A' n' c' (bes (encN es)) ∧ Below w.heap.size w w' := by
  subst hn
  have HG := Lib.hid hg
  clear hg
  obtain ⟨B, HB, hB1, hB2⟩ := size_hid w
  have he0 : Evs (· < B) w A es := (Evs.lt hes).mono (fun b hb => Nat.lt_of_lt_of_le hb.2 hB1) (fun _ _ _ => rfl)
  have HE : Hid (∀ w', Below B w w' → Evs (· < B) w' A es) := fun w' h => he0.mono (fun _ x => x) (fun b hb _ => h.block b hb)
  clear he0 hes
  rw [HB.out]
  go_enter Tryd.func8, Tryd.ntmps8
  go_wp2
  go_loopw [8, 3] (fun i s wr => ∃ k : Nat, k ≤ es.length ∧ i = .int .i64 k ∧ (∃ A' n' c', s = .slice A' n' c' ∧ Own8 B wr A' n' c' (bes (encN (es.take k)))) ∧ Below B w wr) (fun i _ _ => es.length - (intOf i).toNat)
  case atStart => exact ⟨0, Nat.zero_le _, rfl, ⟨none, 0, 0, rfl, own_nil _ _ _ _⟩, Below.refl _ _⟩
  case round =>
    obtain ⟨k, hk, rfl, ⟨A', n', c', rfl, ho⟩, hbr⟩ := hrel
    have HO := Lib.hid ho
    clear ho
    by_cases hlt : k < es.length
    · obtain ⟨e, hx⟩ : ∃ e, es[k]? = some e := ⟨_, List.getElem?_eq_getElem hlt⟩
      obtain ⟨bb, o, rfl, _, A1, c1, A2, c2, A3, c3, A4, c4, A5, c5, hr, hat⟩ := (HE.out _ hbr).get hx
      have hmb := list_all_get HG.out hx
      have HX : Hid (encN (es.take (k + 1)) = encN (es.take k) ++ evN e) := flatMap_take_succ evN hx
      have HNL : Hid (n' ≤ 7040000000) := by
        show _ ≤ _
        have h1 := HO.out.len
        rw [bes_length] at h1
        have h2 := flatMap_take_le evN 200000 es k (fun x hx => evN_le (List.all_eq_true.1 HG.out x hx)) hk
        have h3 := Nat.mul_le_mul_right 200000 (show k ≤ 4400 by omega)
        simp only [encN] at h1
        omega
      have HEL := Lib.hid (evN_le hmb)
      have HMB := Lib.hid hmb
      have HAT := Lib.hid hat
      clear hx hat hmb
      go_upto_region 5 with (first | (refine wpList_load_mid rfl 40 _ rfl _ _ rfl [.int .i64 e.kind, .int .i64 e.slot, .int .u64 e.block.root, .int .u64 e.block.parent, .int .i64 e.block.slot, .slice A1 e.block.votes.length c1, .slice A2 e.block.proofs.length c2, .int .i64 e.vote.slot, .int .u64 e.vote.head, .int .i64 e.vote.src.e, .int .u64 e.vote.src.r, .int .i64 e.vote.tgt.e, .int .u64 e.vote.tgt.r, .slice A3 e.vote.who.length c3, .int .i64 e.proof.a.slot, .int .u64 e.proof.a.head, .int .i64 e.proof.a.src.e, .int .u64 e.proof.a.src.r, .int .i64 e.proof.a.tgt.e, .int .u64 e.proof.a.tgt.r, .slice A4 e.proof.a.who.length c4, .int .i64 e.proof.b.slot, .int .u64 e.proof.b.head, .int .i64 e.proof.b.src.e, .int .u64 e.proof.b.src.r, .int .i64 e.proof.b.tgt.e, .int .u64 e.proof.b.tgt.r, .slice A5 e.proof.b.who.length c5] _ HAT.out Tryd.underlying40 rfl iEv ?_) | (refine wpList_box 40 5 _ (.tmp 11) [.int .i64 e.kind, .int .i64 e.slot, .int .u64 e.block.root, .int .u64 e.block.parent, .int .i64 e.block.slot, .slice A1 e.block.votes.length c1, .slice A2 e.block.proofs.length c2, .int .i64 e.vote.slot, .int .u64 e.vote.head, .int .i64 e.vote.src.e, .int .u64 e.vote.src.r, .int .i64 e.vote.tgt.e, .int .u64 e.vote.tgt.r, .slice A3 e.vote.who.length c3, .int .i64 e.proof.a.slot, .int .u64 e.proof.a.head, .int .i64 e.proof.a.src.e, .int .u64 e.proof.a.src.r, .int .i64 e.proof.a.tgt.e, .int .u64 e.proof.a.tgt.r, .slice A4 e.proof.a.who.length c4, .int .i64 e.proof.b.slot, .int .u64 e.proof.b.head, .int .i64 e.proof.b.src.e, .int .u64 e.proof.b.src.r, .int .i64 e.proof.b.tgt.e, .int .u64 e.proof.b.tgt.r, .slice A5 e.proof.b.who.length c5] rfl rfl rfl zEv rfl rfl iEv rfl ?_))
      generalize hW2 : wr.alloc (Obj.cells _ 40) = W2
      have hblk := heap_new wr (Obj.cells #[.int .i64 e.kind, .int .i64 e.slot, .int .u64 e.block.root, .int .u64 e.block.parent, .int .i64 e.block.slot, .slice A1 e.block.votes.length c1, .slice A2 e.block.proofs.length c2, .int .i64 e.vote.slot, .int .u64 e.vote.head, .int .i64 e.vote.src.e, .int .u64 e.vote.src.r, .int .i64 e.vote.tgt.e, .int .u64 e.vote.tgt.r, .slice A3 e.vote.who.length c3, .int .i64 e.proof.a.slot, .int .u64 e.proof.a.head, .int .i64 e.proof.a.src.e, .int .u64 e.proof.a.src.r, .int .i64 e.proof.a.tgt.e, .int .u64 e.proof.a.tgt.r, .slice A4 e.proof.a.who.length c4, .int .i64 e.proof.b.slot, .int .u64 e.proof.b.head, .int .i64 e.proof.b.src.e, .int .u64 e.proof.b.src.r, .int .i64 e.proof.b.tgt.e, .int .u64 e.proof.b.tgt.r, .slice A5 e.proof.b.who.length c5] 40)
      rw [hW2] at hblk
      have hbw2 : Below wr.heap.size wr W2 := by rw [← hW2]; exact below_alloc (Below.refl _ _) _
      clear hW2
      have hr2 := (hr.below hbw2).any
      have HO1 : Hid (Own8 B W2 A' n' c' (bes (encN (es.take k)))) := own_below HO.out hbw2
      have hbB1 : Below B w W2 := hbr.trans (hbw2.mono (Nat.le_trans hB2 hbr.size))
      have hBs1 : B ≤ W2.heap.size := Nat.le_trans hB2 hbB1.size
      clear hr HO hbw2 HAT
      have HBLK := Lib.hid hblk
      clear hblk
      go_wp2_with (first
        | (refine wpList_load_mid rfl 40 _ rfl _ _ rfl [.int .i64 e.kind, .int .i64 e.slot, .int .u64 e.block.root, .int .u64 e.block.parent, .int .i64 e.block.slot, .slice A1 e.block.votes.length c1, .slice A2 e.block.proofs.length c2, .int .i64 e.vote.slot, .int .u64 e.vote.head, .int .i64 e.vote.src.e, .int .u64 e.vote.src.r, .int .i64 e.vote.tgt.e, .int .u64 e.vote.tgt.r, .slice A3 e.vote.who.length c3, .int .i64 e.proof.a.slot, .int .u64 e.proof.a.head, .int .i64 e.proof.a.src.e, .int .u64 e.proof.a.src.r, .int .i64 e.proof.a.tgt.e, .int .u64 e.proof.a.tgt.r, .slice A4 e.proof.a.who.length c4, .int .i64 e.proof.b.slot, .int .u64 e.proof.b.head, .int .i64 e.proof.b.src.e, .int .u64 e.proof.b.src.r, .int .i64 e.proof.b.tgt.e, .int .u64 e.proof.b.tgt.r, .slice A5 e.proof.b.who.length c5] _ (fun j v hj => by rw [Nat.zero_add, blk_cell HBLK.out]; simpa using hj) Tryd.underlying40 rfl iEv ?_)
        | (go_at_call 14; refine (numbers_calls _ e A1 c1 A2 c2 A3 c3 A4 c4 A5 c5 hr2 HMB.out).mono ?_; rintro en w3 ⟨Ra, na, ca, rfl, hoa, hb3⟩; have hla := hoa.len)
        | (go_at_call 13; refine (Put_calls _ none 0 0 [] Ra na ca (evN e) Lie.nil hoa.ints rfl hla (by have := HEL.out; simp; omega)).mono ?_; rintro en w4 ⟨Rb, nb, cb, rfl, hob, hb4⟩)
        | (at_builtin; refine wpList_app B rfl _ _ 24 5 (.int .u8 0) 1 1 rfl Tryd.underlying24 infoU8 rfl (by decide) _ n' _ rfl (own_below HO1.out (below_trans hb3 hb4)) Rb nb cb (u8s ([] ++ bes (evN e))) rfl hob.1 (Flat.of_ints (Ints.of_own hob)) (by simp [Value.oneCell']) (by have h1 := HNL.out; have h2 := hob.1; have h3 := HEL.out; simp [bes_length] at h2; omega) (by have h1 := HNL.out; have h2 := hob.1; have h3 := HEL.out; simp [bes_length] at h2; omega) (Nat.le_trans (Nat.le_trans hBs1 hb3.size) hb4.size) ?_; intro A7 c7 w5 ho5 hg5 _))
      have hb14 := below_trans hb3 hb4
      go_roundw
      case rel =>
        have hbB4 := hbB1.trans (hb14.mono hBs1)
        refine ⟨k + 1, by omega, by go_num, ⟨A7, _, c7, rfl, ?_⟩, hbB4.grown hg5 (Nat.le_trans hB2 hbB4.size) (own_base HO1.out)⟩
        rw [HX.out, bes_append]
        show World.ownsRow _ _ _ _ _ _ _
        simpa [u8s] using ho5
      case measure => simp [intOf]; omega
    · obtain rfl : k = es.length := by omega
      rw [List.take_length] at HO
      go_wp2
      go_ret
      exact ⟨A', _, c', rfl, HO.out, hbr⟩
theorem bytes_calls (w : World) (A : Option Addr) (n c : Nat) (es : List Ev) (hes : Evs anyB w A es) (hn : es.length = n) (hm : n ≤ 300) (hg : es.all mayB = true) :
    Calls Tryd.prog 8 #[.slice A n c] w fun en w' => ∃ A' n' c', en = .returned (.slice A' n' c') ∧ Own8 w.heap.size w' A' n' c' (bes (encN es)) ∧ Below w.heap.size w w' :=
  bytesN_calls w A n c es hes hn (by omega) hg
end Go.Proofs.YtccficljaomhhaaDoor
