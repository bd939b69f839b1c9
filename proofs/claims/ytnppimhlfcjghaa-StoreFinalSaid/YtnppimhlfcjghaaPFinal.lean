import Derived.Test.YtnppimhlfcjghaaPLaw
import Derived.BigQuiet
set_option linter.all false
set_option linter.unusedVariables false
set_option linter.unusedSimpArgs false
namespace Go.Proofs.Ytnppimhlfcjghaa
open Go.RowKit
set_option maxRecDepth 100000
set_option maxHeartbeats 8000000
def RelF10 (s : St) (W : World) (x y : Value) (w' : World) : Prop :=
 ∃ bj bf : Nat, x = .pointer (some ⟨bj, 0, none⟩) ∧ y = .pointer (some ⟨bf, 0, none⟩) ∧ w'.heap[bj]? = some (.cells #[.int .i64 s.just.e, .int .u64 s.just.r] 47 (0, 0)) ∧ w'.heap[bf]? = some (.cells #[.int .i64 s.fin.e, .int .u64 s.fin.r] 47 (0, 0)) ∧ Below W.heap.size W w'
theorem StoreFinal_calls (w : World) (A : Option Addr) (kn : Nat) (ns : List Int) (Ab : Option Addr) (kb : Nat) (bs : List Int) (sl : Int) (hn : Ints anyB .u8 w A ns) (hf : Fits ns.length kn) (hnr : ∀ x ∈ ns, 0 ≤ x ∧ x < 256) (hb : Ints anyB .u8 w Ab bs) (hf2 : Fits bs.length kb) (hbr : ∀ x ∈ bs, 0 ≤ x ∧ x < 256) (hsl : (Lit.int .u8 sl).wf = true) :
    Calls Try.prog 7 #[.slice A ns.length kn, .slice Ab bs.length kb, .int .u8 sl] w fun e w' => e = .returned (.bool true) ∧ Below w.heap.size w w' := by
 have hsl' : 0 ≤ sl ∧ sl < 256 := by simp [Lit.wf, IntKind.min, IntKind.max, IntKind.bits, IntKind.signed] at hsl; omega
 clear hsl
 go_enter Try.func7, Try.ntmps7
 go_upto_region 3 with (go_at_call 14; refine (awake14_calls _).mono ?_; rintro e w1 ⟨rfl, hb1⟩)
 have cC := Config_calls w1 bs Ab kb sl 40 (hb.below hb1) hbr hf2.2 hsl' (by omega)
 clear hb hf2 hbr
 go_upto_region 4 with (go_at_call 15; refine cC.mono ?_; rintro e w2 ⟨c, Ac, kc, rfl, hok, hcb, hb2⟩)
 have q7 := heap_new w2 (.cells #[.slice Ac c.bal.length kc, .int .i64 c.slots, .int .i64 c.boost] 36)
 have hb3 := below_alloc (Below.refl w2.heap.size w2) (.cells #[.slice Ac c.bal.length kc, .int .i64 c.slots, .int .i64 c.boost] 36)
 have hb13 : Below w.heap.size w (w2.alloc (.cells #[.slice Ac c.bal.length kc, .int .i64 c.slots, .int .i64 c.boost] 36)) := below_trans hb1 (below_trans hb2 hb3)
 have hcb3 : Ints anyB .u64 (w2.alloc (.cells #[.slice Ac c.bal.length kc, .int .i64 c.slots, .int .i64 c.boost] 36)) Ac c.bal := (Lie.any hcb : Ints anyB .u64 w2 Ac c.bal).below hb3
 have cS := SOf_calls (w2.alloc (.cells #[.slice Ac c.bal.length kc, .int .i64 c.slots, .int .i64 c.boost] 36)) c Ac kc hok hcb3
 clear cC hb1 hb2 hb3 hcb
 obtain ⟨y0, y1, y2⟩ := cs3 q7
 go_upto_region 5 with (first
  | (refine wpList_loadB rfl 36 (.tmp 7) rfl w2.heap.size [.slice Ac c.bal.length kc, .int .i64 c.slots, .int .i64 c.boost] q7 rfl _ Try.underlying36 rfl iCf ?_)
  | (go_at_call 16; refine cS.mono ?_; rintro e w4 ⟨p, k, vk, rfl, hS, hp, hb4⟩))
 have h4 := below_trans hb13 hb4
 have hpb : ∀ i ∈ p.all, w.heap.size ≤ i := fun i hi => by have := hp i hi; have := hb13.size; omega
 have q7' := blk_below q7 hb4
 have cM := Make_calls w4 c hok Ac kc (hcb3.below hb4) ns A kn (hn.below h4) hnr hf
 obtain ⟨_, _, _, x3, _⟩ := hS.cells
 clear cS y0 y1 y2 hb4 hcb3 hb13 q7 hp hn hf hnr
 obtain ⟨y0, y1, y2⟩ := cs3 q7'
 go_wp2_with (first
  | (refine wpList_loadB rfl 36 (.tmp 7) rfl w2.heap.size [.slice Ac c.bal.length kc, .int .i64 c.slots, .int .i64 c.boost] q7' rfl _ Try.underlying36 rfl iCf ?_)
  | (go_at_call 17; refine cM.mono ?_; rintro e w5 ⟨es, Ae, ce, rfl, hew, hel, hev, hb5⟩))
 have hL0 := LawRun.start hok h4 hS hpb hew hev hb5
 generalize hS1 : w4.heap.size = S1 at hL0
 generalize hS2 : w5.heap.size = S2 at hL0
 clear y0 y1 y2 x3 cM hS hpb hS1 hS2 hev hb5 h4 q7' hew
 go_loopw [41] (fun i wr => ∃ (j : Nat) (s : St) (ch : Value), i = .int .i64 j ∧ j ≤ es.length ∧ LawRun w S1 S2 p.sb Ae es s ch wr) (fun i _ => es.length - (intOf i).toNat)
 case atStart => exact ⟨0, St.of c, _, rfl, Nat.zero_le _, hL0⟩
 case round =>
  clear hL0
  obtain ⟨j, s, ch, rfl, hj, hL⟩ := hrel
  by_cases hlt : j < es.length
  ·have hg := List.getElem?_eq_getElem hlt
   generalize es[j] = e at hg
   have hR := hL.1
   obtain ⟨b, o, rfl, hbk, A1, c1, A2, c2, A3, c3, A4, c4, A5, c5, hER, hAT⟩ := hR.row.get hg
   have hew := hR.wf e (List.mem_of_getElem? hg)
   clear hg
   go_upto_region 10 with (first
    | (refine wpList_load_mid rfl 66 _ rfl _ _ rfl [.int .i64 e.kind, .int .i64 e.slot, .int .u64 e.block.root, .int .u64 e.block.parent, .int .i64 e.block.slot, .slice A1 e.block.votes.length c1, .slice A2 e.block.proofs.length c2, .int .i64 e.vote.slot, .int .u64 e.vote.head, .int .i64 e.vote.src.e, .int .u64 e.vote.src.r, .int .i64 e.vote.tgt.e, .int .u64 e.vote.tgt.r, .slice A3 e.vote.who.length c3, .int .i64 e.proof.a.slot, .int .u64 e.proof.a.head, .int .i64 e.proof.a.src.e, .int .u64 e.proof.a.src.r, .int .i64 e.proof.a.tgt.e, .int .u64 e.proof.a.tgt.r, .slice A4 e.proof.a.who.length c4, .int .i64 e.proof.b.slot, .int .u64 e.proof.b.head, .int .i64 e.proof.b.src.e, .int .u64 e.proof.b.src.r, .int .i64 e.proof.b.tgt.e, .int .u64 e.proof.b.tgt.r, .slice A5 e.proof.b.who.length c5] _ hAT Try.underlying66 rfl iEv ?_)
    | (refine wpList_box 66 11 _ (.tmp 44) [.int .i64 e.kind, .int .i64 e.slot, .int .u64 e.block.root, .int .u64 e.block.parent, .int .i64 e.block.slot, .slice A1 e.block.votes.length c1, .slice A2 e.block.proofs.length c2, .int .i64 e.vote.slot, .int .u64 e.vote.head, .int .i64 e.vote.src.e, .int .u64 e.vote.src.r, .int .i64 e.vote.tgt.e, .int .u64 e.vote.tgt.r, .slice A3 e.vote.who.length c3, .int .i64 e.proof.a.slot, .int .u64 e.proof.a.head, .int .i64 e.proof.a.src.e, .int .u64 e.proof.a.src.r, .int .i64 e.proof.a.tgt.e, .int .u64 e.proof.a.tgt.r, .slice A4 e.proof.a.who.length c4, .int .i64 e.proof.b.slot, .int .u64 e.proof.b.head, .int .i64 e.proof.b.src.e, .int .u64 e.proof.b.src.r, .int .i64 e.proof.b.tgt.e, .int .u64 e.proof.b.tgt.r, .slice A5 e.proof.b.who.length c5] rfl rfl rfl zEv rfl rfl iEv rfl ?_))
   have hba := below_alloc (Below.refl wr.heap.size wr) (.cells #[.int .i64 e.kind, .int .i64 e.slot, .int .u64 e.block.root, .int .u64 e.block.parent, .int .i64 e.block.slot, .slice A1 e.block.votes.length c1, .slice A2 e.block.proofs.length c2, .int .i64 e.vote.slot, .int .u64 e.vote.head, .int .i64 e.vote.src.e, .int .u64 e.vote.src.r, .int .i64 e.vote.tgt.e, .int .u64 e.vote.tgt.r, .slice A3 e.vote.who.length c3, .int .i64 e.proof.a.slot, .int .u64 e.proof.a.head, .int .i64 e.proof.a.src.e, .int .u64 e.proof.a.src.r, .int .i64 e.proof.a.tgt.e, .int .u64 e.proof.a.tgt.r, .slice A4 e.proof.a.who.length c4, .int .i64 e.proof.b.slot, .int .u64 e.proof.b.head, .int .i64 e.proof.b.src.e, .int .u64 e.proof.b.src.r, .int .i64 e.proof.b.tgt.e, .int .u64 e.proof.b.tgt.r, .slice A5 e.proof.b.who.length c5] 66)
   have qe := heap_new wr (.cells #[.int .i64 e.kind, .int .i64 e.slot, .int .u64 e.block.root, .int .u64 e.block.parent, .int .i64 e.block.slot, .slice A1 e.block.votes.length c1, .slice A2 e.block.proofs.length c2, .int .i64 e.vote.slot, .int .u64 e.vote.head, .int .i64 e.vote.src.e, .int .u64 e.vote.src.r, .int .i64 e.vote.tgt.e, .int .u64 e.vote.tgt.r, .slice A3 e.vote.who.length c3, .int .i64 e.proof.a.slot, .int .u64 e.proof.a.head, .int .i64 e.proof.a.src.e, .int .u64 e.proof.a.src.r, .int .i64 e.proof.a.tgt.e, .int .u64 e.proof.a.tgt.r, .slice A4 e.proof.a.who.length c4, .int .i64 e.proof.b.slot, .int .u64 e.proof.b.head, .int .i64 e.proof.b.src.e, .int .u64 e.proof.b.src.r, .int .i64 e.proof.b.tgt.e, .int .u64 e.proof.b.tgt.r, .slice A5 e.proof.b.who.length c5] 66)
   have hL1 := hL.below hba
   have hER1 := hER.below hba
   have hS2 : S2 ≤ wr.heap.size := hR.b.2.2
   clear hL hR hba hAT hER hbk
   generalize hW1 : wr.alloc (.cells #[.int .i64 e.kind, .int .i64 e.slot, .int .u64 e.block.root, .int .u64 e.block.parent, .int .i64 e.block.slot, .slice A1 e.block.votes.length c1, .slice A2 e.block.proofs.length c2, .int .i64 e.vote.slot, .int .u64 e.vote.head, .int .i64 e.vote.src.e, .int .u64 e.vote.src.r, .int .i64 e.vote.tgt.e, .int .u64 e.vote.tgt.r, .slice A3 e.vote.who.length c3, .int .i64 e.proof.a.slot, .int .u64 e.proof.a.head, .int .i64 e.proof.a.src.e, .int .u64 e.proof.a.src.r, .int .i64 e.proof.a.tgt.e, .int .u64 e.proof.a.tgt.r, .slice A4 e.proof.a.who.length c4, .int .i64 e.proof.b.slot, .int .u64 e.proof.b.head, .int .i64 e.proof.b.src.e, .int .u64 e.proof.b.src.r, .int .i64 e.proof.b.tgt.e, .int .u64 e.proof.b.tgt.r, .slice A5 e.proof.b.who.length c5] 66) = W1 at *
   generalize hE : wr.heap.size = E at *
   clear hW1 hE
   obtain ⟨p1, k1, vk1, hsb1, hS1, _⟩ := hL1.1.run
   have KF : ∀ W', Below W1.heap.size W1 W' → (W'.cell? ⟨p.sb, 0, none⟩ = some (.slice (some ⟨p1.bb, 0, none⟩) s.c.bal.length k1) ∧ W'.cell? ⟨p.sb, 1, none⟩ = some (.int .i64 s.c.slots) ∧ W'.cell? ⟨p.sb, 2, none⟩ = some (.int .i64 s.c.boost) ∧ W'.cell? ⟨p.sb, 3, none⟩ = some (.pointer (some ⟨p1.tb, 0, none⟩)) ∧ W'.cell? ⟨p.sb, 4, none⟩ = some (.slice (some ⟨p1.vb, 0, none⟩) s.votes.length vk1) ∧ W'.cell? ⟨p.sb, 5, none⟩ = some (.int .i64 s.slot) ∧ W'.cell? ⟨p.sb, 6, none⟩ = some (.int .u64 s.boosted) ∧ W'.cell? ⟨p.sb, 7, none⟩ = some (.int .i64 s.just.e) ∧ W'.cell? ⟨p.sb, 8, none⟩ = some (.int .u64 s.just.r) ∧ W'.cell? ⟨p.sb, 9, none⟩ = some (.int .i64 s.fin.e) ∧ W'.cell? ⟨p.sb, 10, none⟩ = some (.int .u64 s.fin.r) ∧ W'.cell? ⟨p.sb, 11, none⟩ = some (.map (some p1.lb)) ∧ W'.cell? ⟨p.sb, 12, none⟩ = some (.map (some p1.gb)) ∧ W'.cell? ⟨p.sb, 13, none⟩ = some (ch)) := fun W' hW => by
    have hC := (hS1.below hW).cells
    rw [hsb1] at hC
    exact hC
   have hD1 : Below W1.heap.size W1 W1.drew := (Below.refl _ W1).drew
   have HQE := Lib.hid qe
   have HER := Lib.hid hER1
   have HL1 := Lib.hid hL1
   have HEw := Lib.hid hew
   have HS1 := Lib.hid hS1
   clear qe hER1 hL1 hew hS1
   set_option linter.unusedSimpArgs false in try simp only [Act.put, sA, sB, sC]
   go_cut [12, 13] (fun x y w' => RelF10 s W1 x y w')
   case first =>
    refine beginK (fun w' => (w'.cell? ⟨p.sb, 0, none⟩ = some (.slice (some ⟨p1.bb, 0, none⟩) s.c.bal.length k1) ∧ w'.cell? ⟨p.sb, 1, none⟩ = some (.int .i64 s.c.slots) ∧ w'.cell? ⟨p.sb, 2, none⟩ = some (.int .i64 s.c.boost) ∧ w'.cell? ⟨p.sb, 3, none⟩ = some (.pointer (some ⟨p1.tb, 0, none⟩)) ∧ w'.cell? ⟨p.sb, 4, none⟩ = some (.slice (some ⟨p1.vb, 0, none⟩) s.votes.length vk1) ∧ w'.cell? ⟨p.sb, 5, none⟩ = some (.int .i64 s.slot) ∧ w'.cell? ⟨p.sb, 6, none⟩ = some (.int .u64 s.boosted) ∧ w'.cell? ⟨p.sb, 7, none⟩ = some (.int .i64 s.just.e) ∧ w'.cell? ⟨p.sb, 8, none⟩ = some (.int .u64 s.just.r) ∧ w'.cell? ⟨p.sb, 9, none⟩ = some (.int .i64 s.fin.e) ∧ w'.cell? ⟨p.sb, 10, none⟩ = some (.int .u64 s.fin.r) ∧ w'.cell? ⟨p.sb, 11, none⟩ = some (.map (some p1.lb)) ∧ w'.cell? ⟨p.sb, 12, none⟩ = some (.map (some p1.gb)) ∧ w'.cell? ⟨p.sb, 13, none⟩ = some (ch))) 11 (by rfl) ?_
    have hHeld := KF _ hD1
    refine tK (i := 0) (v := ?_) (d := (some 45)) rfl rfl rfl (Or.inl ⟨by kernel_rfl, ?_⟩) hHeld ?_
    rotate_left
    ·intro w' hSw; clear hSw; first | (go_simp; done) | (go_simp; with_reducible rfl)
    try rotate_right
    set_option linter.unusedSimpArgs false in try simp only [Act.put, sA, sB, sC]
    refine tK (i := 1) (v := ?_) (d := (some 46)) rfl rfl rfl (Or.inl ⟨by kernel_rfl, ?_⟩) hHeld ?_
    rotate_left
    ·intro w' hSw; clear hSw; first | (go_simp; done) | (go_simp; with_reducible rfl)
    try rotate_right
    set_option linter.unusedSimpArgs false in try simp only [Act.put, sA, sB, sC]
    refine tK (i := 2) (v := ?_) (d := (some 47)) rfl rfl rfl (Or.inl ⟨by kernel_rfl, ?_⟩) hHeld ?_
    rotate_left
    ·intro w' hSw; clear hSw; first | (go_simp; done) | (go_simp; with_reducible rfl)
    try rotate_right
    set_option linter.unusedSimpArgs false in try simp only [Act.put, sA, sB, sC]
    refine tK (i := 3) (v := ?_) (d := (some 48)) rfl rfl rfl (Or.inl ⟨by kernel_rfl, ?_⟩) hHeld ?_
    rotate_left
    ·intro w' hSw; obtain ⟨a0, a1, a2, a3, a4, a5, a6, a7, a8, a9, a10, a11, a12, a13⟩ := hSw; first | (go_simp; done) | (go_simp; with_reducible rfl)
    try rotate_right
    set_option linter.unusedSimpArgs false in try simp only [Act.put, sA, sB, sC]
    refine tK (i := 4) (v := ?_) (d := (some 49)) rfl rfl rfl (Or.inl ⟨by kernel_rfl, ?_⟩) hHeld ?_
    rotate_left
    ·intro w' hSw; clear hSw; first | (go_simp; done) | (go_simp; with_reducible rfl)
    try rotate_right
    set_option linter.unusedSimpArgs false in try simp only [Act.put, sA, sB, sC]
    refine tK (i := 5) (v := ?_) (d := (some 50)) rfl rfl rfl (Or.inl ⟨by kernel_rfl, ?_⟩) hHeld ?_
    rotate_left
    ·intro w' hSw; clear hSw; first | (go_simp; done) | (go_simp; with_reducible rfl)
    try rotate_right
    set_option linter.unusedSimpArgs false in try simp only [Act.put, sA, sB, sC]
    refine tK (i := 6) (v := ?_) (d := (some 51)) rfl rfl rfl (Or.inl ⟨by kernel_rfl, ?_⟩) hHeld ?_
    rotate_left
    ·intro w' hSw; clear hSw; first | (go_simp; done) | (go_simp; with_reducible rfl)
    try rotate_right
    set_option linter.unusedSimpArgs false in try simp only [Act.put, sA, sB, sC]
    refine tK (i := 7) (v := ?_) (d := (some 52)) rfl rfl rfl (Or.inl ⟨by kernel_rfl, ?_⟩) hHeld ?_
    rotate_left
    ·intro w' hSw; obtain ⟨a0, a1, a2, a3, a4, a5, a6, a7, a8, a9, a10, a11, a12, a13⟩ := hSw; first | (go_simp; done) | (go_simp; with_reducible rfl)
    try rotate_right
    set_option linter.unusedSimpArgs false in try simp only [Act.put, sA, sB, sC]
    refine readyK (rs := [8, 9]) (by kernel_rfl) (by simp) ?_
    refine AllReadyK.cons rfl (fun K hK => ?_) ?_
    ·go_simp
     have hb2 : Below W1.heap.size W1 (W1.drew.alloc (.cells #[.int .i64 0, .int .u64 0] 47)) := hD1.trans ((below_alloc (Below.refl W1.drew.heap.size W1.drew) (.cells #[.int .i64 0, .int .u64 0] 47)).mono hD1.size)
     refine hK.out _ _ (fun _ => KF _ hb2) ?_
     have hHeld := KF _ hb2
     clear hK K
     set_option linter.unusedSimpArgs false in try simp only [Act.put, sA, sB, sC]
     refine readyK (rs := [9]) (by kernel_rfl) (by simp) ?_
     refine AllReadyK.cons rfl (fun K hK => ?_) AllReadyK.nil
     go_simp
     obtain ⟨q1, q2, hbw, hsz⟩ := alloc2 W1.drew (.cells #[.int .i64 0, .int .u64 0] 47) (.cells #[.int .i64 0, .int .u64 0] 47)
     have hb3 : Below W1.heap.size W1 ((W1.drew.alloc (.cells #[.int .i64 0, .int .u64 0] 47)).alloc (.cells #[.int .i64 0, .int .u64 0] 47)) := hD1.trans (hbw.mono hD1.size)
     refine hK.out _ _ (fun _ => KF _ hb3) ?_
     have hHeld := KF _ hb3
     clear hK K
     set_option linter.unusedSimpArgs false in try simp only [Act.put, sA, sB, sC]
     refine readyK (rs := [10]) (by kernel_rfl) (by simp) ?_
     refine AllReadyK.cons rfl (fun K hK => ?_) AllReadyK.nil
     refine step_storeB (by rfl) 47 (.tmp 12) (.tmp 48) rfl W1.drew.heap.size [.int .i64 0, .int .u64 0] [.int .i64 s.just.e, .int .u64 s.just.r] q1 rfl rfl rfl iPt rfl ?_
     intro W4 q4 hx4 hs4
     have hb4 := below_ext hb3 hx4 (Nat.le_refl _) (by show W1.heap.size ≤ _; exact Nat.le_refl _)
     refine hK.out _ _ (fun _ => KF _ hb4) ?_
     have hHeld := KF _ hb4
     clear hK K
     set_option linter.unusedSimpArgs false in try simp only [Act.put, sA, sB, sC]
     refine readyK (rs := [11]) (by kernel_rfl) (by simp) ?_
     refine AllReadyK.cons rfl (fun K hK => ?_) AllReadyK.nil
     refine step_storeB (by rfl) 47 (.tmp 13) (.tmp 52) rfl (W1.drew.heap.size + 1) [.int .i64 0, .int .u64 0] [.int .i64 s.fin.e, .int .u64 s.fin.r] (blk_ext q2 hx4 (fun e => by have e' : (W1.drew.heap.size + 1) = W1.drew.heap.size := e; omega)) rfl rfl rfl iPt rfl ?_
     intro W5 q5 hx5 hs5
     refine hK.out _ _ (fun h => absurd rfl h) ?_
     clear hK K
     set_option linter.unusedSimpArgs false in try simp only [Act.put, sA, sB, sC]
     refine doneK (by kernel_rfl) ?_ _
     go_wp2
     go_meet
     case rel => exact ⟨_, _, rfl, rfl, blk_ext q4 hx5 (fun e => by have e' : W1.drew.heap.size = (W1.drew.heap.size + 1) := e; omega), q5, below_ext hb4 hx5 (Nat.le_refl _) (by show W1.heap.size ≤ _; exact Nat.le_succ _)⟩
    refine AllReadyK.cons rfl (fun K hK => ?_) AllReadyK.nil
    go_simp
    have hb2 : Below W1.heap.size W1 (W1.drew.alloc (.cells #[.int .i64 0, .int .u64 0] 47)) := hD1.trans ((below_alloc (Below.refl W1.drew.heap.size W1.drew) (.cells #[.int .i64 0, .int .u64 0] 47)).mono hD1.size)
    refine hK.out _ _ (fun _ => KF _ hb2) ?_
    have hHeld := KF _ hb2
    clear hK K
    set_option linter.unusedSimpArgs false in try simp only [Act.put, sA, sB, sC]
    refine readyK (rs := [8]) (by kernel_rfl) (by simp) ?_
    refine AllReadyK.cons rfl (fun K hK => ?_) AllReadyK.nil
    go_simp
    obtain ⟨q1, q2, hbw, hsz⟩ := alloc2 W1.drew (.cells #[.int .i64 0, .int .u64 0] 47) (.cells #[.int .i64 0, .int .u64 0] 47)
    have hb3 : Below W1.heap.size W1 ((W1.drew.alloc (.cells #[.int .i64 0, .int .u64 0] 47)).alloc (.cells #[.int .i64 0, .int .u64 0] 47)) := hD1.trans (hbw.mono hD1.size)
    refine hK.out _ _ (fun _ => KF _ hb3) ?_
    have hHeld := KF _ hb3
    clear hK K
    set_option linter.unusedSimpArgs false in try simp only [Act.put, sA, sB, sC]
    refine readyK (rs := [10]) (by kernel_rfl) (by simp) ?_
    refine AllReadyK.cons rfl (fun K hK => ?_) AllReadyK.nil
    refine step_storeB (by rfl) 47 (.tmp 12) (.tmp 48) rfl (W1.drew.heap.size + 1) [.int .i64 0, .int .u64 0] [.int .i64 s.just.e, .int .u64 s.just.r] q2 rfl rfl rfl iPt rfl ?_
    intro W4 q4 hx4 hs4
    have hb4 := below_ext hb3 hx4 (Nat.le_refl _) (by show W1.heap.size ≤ _; exact Nat.le_succ _)
    refine hK.out _ _ (fun _ => KF _ hb4) ?_
    have hHeld := KF _ hb4
    clear hK K
    set_option linter.unusedSimpArgs false in try simp only [Act.put, sA, sB, sC]
    refine readyK (rs := [11]) (by kernel_rfl) (by simp) ?_
    refine AllReadyK.cons rfl (fun K hK => ?_) AllReadyK.nil
    refine step_storeB (by rfl) 47 (.tmp 13) (.tmp 52) rfl W1.drew.heap.size [.int .i64 0, .int .u64 0] [.int .i64 s.fin.e, .int .u64 s.fin.r] (blk_ext q1 hx4 (fun e => by have e' : W1.drew.heap.size = (W1.drew.heap.size + 1) := e; omega)) rfl rfl rfl iPt rfl ?_
    intro W5 q5 hx5 hs5
    refine hK.out _ _ (fun h => absurd rfl h) ?_
    clear hK K
    set_option linter.unusedSimpArgs false in try simp only [Act.put, sA, sB, sC]
    refine doneK (by kernel_rfl) ?_ _
    go_wp2
    go_meet
    case rel => exact ⟨_, _, rfl, rfl, blk_ext q4 hx5 (fun e => by have e' : (W1.drew.heap.size + 1) = W1.drew.heap.size := e; omega), q5, below_ext hb4 hx5 (Nat.le_refl _) (by show W1.heap.size ≤ _; exact Nat.le_refl _)⟩
   case rest =>
    obtain ⟨bj, bf, rfl, rfl, qj, qf, hb2⟩ := hcut
    obtain ⟨W2, rfl⟩ : ∃ W2 : World, W2 = wc := ⟨_, rfl⟩
    have hL2 := HL1.out.below hb2
    have qe2 := blk_below HQE.out hb2
    have hER2 := HER.out.below hb2
    have hew := HEw.out
    have cA := hL2.1.apply hew hER2
    have hFS := final_step hL2.1.ok hL2.2.1 hew
    have hIA := (inv_apply hL2.1.ok hL2.2.1 hew).1
    have hOA := ok_apply hL2.1.ok hew
    clear KF hD1 hb2
    go_upto_region 12 with (first
     | (refine wpList_loadB rfl 66 (.tmp 11) rfl E [.int .i64 e.kind, .int .i64 e.slot, .int .u64 e.block.root, .int .u64 e.block.parent, .int .i64 e.block.slot, .slice A1 e.block.votes.length c1, .slice A2 e.block.proofs.length c2, .int .i64 e.vote.slot, .int .u64 e.vote.head, .int .i64 e.vote.src.e, .int .u64 e.vote.src.r, .int .i64 e.vote.tgt.e, .int .u64 e.vote.tgt.r, .slice A3 e.vote.who.length c3, .int .i64 e.proof.a.slot, .int .u64 e.proof.a.head, .int .i64 e.proof.a.src.e, .int .u64 e.proof.a.src.r, .int .i64 e.proof.a.tgt.e, .int .u64 e.proof.a.tgt.r, .slice A4 e.proof.a.who.length c4, .int .i64 e.proof.b.slot, .int .u64 e.proof.b.head, .int .i64 e.proof.b.src.e, .int .u64 e.proof.b.src.r, .int .i64 e.proof.b.tgt.e, .int .u64 e.proof.b.tgt.r, .slice A5 e.proof.b.who.length c5] qe2 rfl _ Try.underlying66 rfl iEv ?_)
     | (go_at_call 18; refine cA.mono ?_; rintro en W3 ⟨ch3, rfl, hR3, -, hk3, hx3⟩))
    have qj3 := hk3 _ _ _ (by decide) (by decide) (by decide) (by decide) qj
    have qf3 := hk3 _ _ _ (by decide) (by decide) (by decide) (by decide) qf
    have hL3 := hL2.step hew hR3 hx3
    obtain ⟨q, k', vk', hsb, hS3, _⟩ := hR3.run
    have hT := hS3.tree
    have HS3 := Lib.hid hS3
    have HJ := Lib.hid qj3
    have HF := Lib.hid qf3
    have HL3 := Lib.hid hL3
    clear cA hx3 hk3 hR3 hL3 hL2 hER2 qe2 hew hS3 qj qf qj3 qf3 HQE HER HL1 HEw HS1
    generalize (applyS s e).2 = n
    generalize (applyS s e).1.1 = t at hFS hIA hOA HL3 HS3 hT
    obtain ⟨hn1, hn2⟩ := hFS
    have hd1 : decide (t.just.e < s.just.e) = false := decide_eq_false (fun h => hn1 (.inl h))
    have hd2 : decide (t.fin.e < s.fin.e) = false := decide_eq_false (fun h => hn1 (.inr (.inl h)))
    have HN2 := Lib.hid hn2
    clear hn1 hn2
    have hDD : Below W3.heap.size W3 W3.drew := (Below.refl _ W3).drew
    have KJ : ∀ W', Below W3.heap.size W3 W' → (W'.cell? ⟨p.sb, 0, none⟩ = some (.slice (some ⟨q.bb, 0, none⟩) t.c.bal.length k') ∧ W'.cell? ⟨p.sb, 1, none⟩ = some (.int .i64 t.c.slots) ∧ W'.cell? ⟨p.sb, 2, none⟩ = some (.int .i64 t.c.boost) ∧ W'.cell? ⟨p.sb, 3, none⟩ = some (.pointer (some ⟨q.tb, 0, none⟩)) ∧ W'.cell? ⟨p.sb, 4, none⟩ = some (.slice (some ⟨q.vb, 0, none⟩) t.votes.length vk') ∧ W'.cell? ⟨p.sb, 5, none⟩ = some (.int .i64 t.slot) ∧ W'.cell? ⟨p.sb, 6, none⟩ = some (.int .u64 t.boosted) ∧ W'.cell? ⟨p.sb, 7, none⟩ = some (.int .i64 t.just.e) ∧ W'.cell? ⟨p.sb, 8, none⟩ = some (.int .u64 t.just.r) ∧ W'.cell? ⟨p.sb, 9, none⟩ = some (.int .i64 t.fin.e) ∧ W'.cell? ⟨p.sb, 10, none⟩ = some (.int .u64 t.fin.r) ∧ W'.cell? ⟨p.sb, 11, none⟩ = some (.map (some q.lb)) ∧ W'.cell? ⟨p.sb, 12, none⟩ = some (.map (some q.gb)) ∧ W'.cell? ⟨p.sb, 13, none⟩ = some (ch3)) ∧ (W'.cell? ⟨bj, 0, none⟩ = some (.int .i64 s.just.e) ∧ W'.cell? ⟨bj, 1, none⟩ = some (.int .u64 s.just.r)) ∧ (W'.cell? ⟨bf, 0, none⟩ = some (.int .i64 s.fin.e) ∧ W'.cell? ⟨bf, 1, none⟩ = some (.int .u64 s.fin.r)) := fun W' hW => by
     have hC := (HS3.out.below hW).cells
     rw [hsb] at hC
     exact ⟨hC, ⟨by rw [blk_cell (blk_below HJ.out hW)]; rfl, by rw [blk_cell (blk_below HJ.out hW)]; rfl⟩, ⟨by rw [blk_cell (blk_below HF.out hW)]; rfl, by rw [blk_cell (blk_below HF.out hW)]; rfl⟩⟩
    refine wp_region_held_drew (S := fun w' => (w'.cell? ⟨p.sb, 0, none⟩ = some (.slice (some ⟨q.bb, 0, none⟩) t.c.bal.length k') ∧ w'.cell? ⟨p.sb, 1, none⟩ = some (.int .i64 t.c.slots) ∧ w'.cell? ⟨p.sb, 2, none⟩ = some (.int .i64 t.c.boost) ∧ w'.cell? ⟨p.sb, 3, none⟩ = some (.pointer (some ⟨q.tb, 0, none⟩)) ∧ w'.cell? ⟨p.sb, 4, none⟩ = some (.slice (some ⟨q.vb, 0, none⟩) t.votes.length vk') ∧ w'.cell? ⟨p.sb, 5, none⟩ = some (.int .i64 t.slot) ∧ w'.cell? ⟨p.sb, 6, none⟩ = some (.int .u64 t.boosted) ∧ w'.cell? ⟨p.sb, 7, none⟩ = some (.int .i64 t.just.e) ∧ w'.cell? ⟨p.sb, 8, none⟩ = some (.int .u64 t.just.r) ∧ w'.cell? ⟨p.sb, 9, none⟩ = some (.int .i64 t.fin.e) ∧ w'.cell? ⟨p.sb, 10, none⟩ = some (.int .u64 t.fin.r) ∧ w'.cell? ⟨p.sb, 11, none⟩ = some (.map (some q.lb)) ∧ w'.cell? ⟨p.sb, 12, none⟩ = some (.map (some q.gb)) ∧ w'.cell? ⟨p.sb, 13, none⟩ = some (ch3)) ∧ (w'.cell? ⟨bj, 0, none⟩ = some (.int .i64 s.just.e) ∧ w'.cell? ⟨bj, 1, none⟩ = some (.int .u64 s.just.r)) ∧ (w'.cell? ⟨bf, 0, none⟩ = some (.int .i64 s.fin.e) ∧ w'.cell? ⟨bf, 1, none⟩ = some (.int .u64 s.fin.r))) (by kernel_rfl) (KJ _ hDD) (fun hHeld => ?_)
    refine tA (i := 0) (v := ?_) (d := (some 59)) rfl rfl (Or.inl ⟨by kernel_rfl, ?_⟩) hHeld ?_
    rotate_left
    ·intro w' hSw; clear hSw; first | (go_simp; done) | (go_simp; with_reducible rfl)
    try rotate_right
    set_option linter.unusedSimpArgs false in try simp only [Act.put, sA, sB, sC]
    refine tA (i := 1) (v := ?_) (d := (some 60)) rfl rfl (Or.inl ⟨by kernel_rfl, ?_⟩) hHeld ?_
    rotate_left
    ·intro w' hSw; clear hSw; first | (go_simp; done) | (go_simp; with_reducible rfl)
    try rotate_right
    set_option linter.unusedSimpArgs false in try simp only [Act.put, sA, sB, sC]
    refine tA (i := 2) (v := ?_) (d := (some 61)) rfl rfl (Or.inl ⟨by kernel_rfl, ?_⟩) hHeld ?_
    rotate_left
    ·intro w' hSw; clear hSw; first | (go_simp; done) | (go_simp; with_reducible rfl)
    try rotate_right
    set_option linter.unusedSimpArgs false in try simp only [Act.put, sA, sB, sC]
    refine tA (i := 3) (v := ?_) (d := (some 62)) rfl rfl (Or.inl ⟨by kernel_rfl, ?_⟩) hHeld ?_
    rotate_left
    ·intro w' hSw; clear hSw; first | (go_simp; done) | (go_simp; with_reducible rfl)
    try rotate_right
    set_option linter.unusedSimpArgs false in try simp only [Act.put, sA, sB, sC]
    refine tA (i := 4) (v := ?_) (d := (some 63)) rfl rfl (Or.inl ⟨by kernel_rfl, ?_⟩) hHeld ?_
    rotate_left
    ·intro w' hSw; obtain ⟨⟨a0, a1, a2, a3, a4, a5, a6, a7, a8, a9, a10, a11, a12, a13⟩, ⟨j0, j1⟩, ⟨f0, f1⟩⟩ := hSw; first | (go_simp; done) | (go_simp; with_reducible rfl)
    try rotate_right
    set_option linter.unusedSimpArgs false in try simp only [Act.put, sA, sB, sC]
    refine tA (i := 5) (v := ?_) (d := (some 64)) rfl rfl (Or.inl ⟨by kernel_rfl, ?_⟩) hHeld ?_
    rotate_left
    ·intro w' hSw; clear hSw; first | (go_simp; done) | (go_simp; with_reducible rfl)
    try rotate_right
    set_option linter.unusedSimpArgs false in try simp only [Act.put, sA, sB, sC]
    refine tA (i := 6) (v := ?_) (d := (some 65)) rfl rfl (Or.inl ⟨by kernel_rfl, ?_⟩) hHeld ?_
    rotate_left
    ·intro w' hSw; obtain ⟨⟨a0, a1, a2, a3, a4, a5, a6, a7, a8, a9, a10, a11, a12, a13⟩, ⟨j0, j1⟩, ⟨f0, f1⟩⟩ := hSw; first | (go_simp; done) | (go_simp; with_reducible rfl)
    try rotate_right
    set_option linter.unusedSimpArgs false in try simp only [Act.put, sA, sB, sC]
    refine tA (i := 7) (v := ?_) (d := (some 66)) rfl rfl (Or.inl ⟨by kernel_rfl, ?_⟩) hHeld ?_
    rotate_left
    ·intro w' hSw; clear hSw; first | (go_simp; done) | (go_simp; with_reducible rfl)
    try rotate_right
    set_option linter.unusedSimpArgs false in try simp only [Act.put, sA, sB, sC]
    refine tA (i := 8) (v := ?_) (d := (some 67)) rfl rfl (Or.inl ⟨by kernel_rfl, ?_⟩) hHeld ?_
    rotate_left
    ·intro w' hSw; clear hSw; first | (go_simp; done) | (go_simp; with_reducible rfl)
    try rotate_right
    set_option linter.unusedSimpArgs false in try simp only [Act.put, sA, sB, sC]
    refine tA (i := 9) (v := ?_) (d := (some 68)) rfl rfl (Or.inl ⟨by kernel_rfl, ?_⟩) hHeld ?_
    rotate_left
    ·intro w' hSw; clear hSw; first | (go_simp; done) | (go_simp; with_reducible rfl)
    try rotate_right
    set_option linter.unusedSimpArgs false in try simp only [Act.put, sA, sB, sC]
    refine tA (i := 10) (v := ?_) (d := (some 69)) rfl rfl (Or.inl ⟨by kernel_rfl, ?_⟩) hHeld ?_
    rotate_left
    ·intro w' hSw; clear hSw; first | (go_simp; done) | (go_simp; with_reducible rfl)
    try rotate_right
    set_option linter.unusedSimpArgs false in try simp only [Act.put, sA, sB, sC]
    refine tA (i := 11) (v := ?_) (d := (some 70)) rfl rfl (Or.inl ⟨by kernel_rfl, ?_⟩) hHeld ?_
    rotate_left
    ·intro w' hSw; clear hSw; first | (go_simp; done) | (go_simp; with_reducible rfl)
    try rotate_right
    set_option linter.unusedSimpArgs false in try simp only [Act.put, sA, sB, sC]
    refine tA (i := 12) (v := ?_) (d := (some 71)) rfl rfl (Or.inl ⟨by kernel_rfl, ?_⟩) hHeld ?_
    rotate_left
    ·intro w' hSw; clear hSw; first | (go_simp; done) | (go_simp; with_reducible rfl)
    try rotate_right
    set_option linter.unusedSimpArgs false in try simp only [Act.put, sA, sB, sC]
    refine tA (i := 13) (v := ?_) (d := (some 72)) rfl rfl (Or.inl ⟨by kernel_rfl, ?_⟩) hHeld ?_
    rotate_left
    ·intro w' hSw; obtain ⟨⟨a0, a1, a2, a3, a4, a5, a6, a7, a8, a9, a10, a11, a12, a13⟩, ⟨j0, j1⟩, ⟨f0, f1⟩⟩ := hSw; first | (go_simp; done) | (go_simp; with_reducible rfl)
    try rotate_right
    set_option linter.unusedSimpArgs false in try simp only [Act.put, sA, sB, sC]
    refine tA (i := 14) (v := ?_) (d := (some 73)) rfl rfl (Or.inl ⟨by kernel_rfl, ?_⟩) hHeld ?_
    rotate_left
    ·intro w' hSw; clear hSw; first | (go_simp; done) | (go_simp; with_reducible rfl)
    try rotate_right
    set_option linter.unusedSimpArgs false in try simp only [Act.put, sA, sB, sC]
    refine tA (i := 15) (v := ?_) (d := (some 74)) rfl rfl (Or.inl ⟨by kernel_rfl, ?_⟩) hHeld ?_
    rotate_left
    ·intro w' hSw; obtain ⟨⟨a0, a1, a2, a3, a4, a5, a6, a7, a8, a9, a10, a11, a12, a13⟩, ⟨j0, j1⟩, ⟨f0, f1⟩⟩ := hSw; first | (go_simp; done) | (go_simp; with_reducible rfl)
    try rotate_right
    set_option linter.unusedSimpArgs false in try simp only [Act.put, sA, sB, sC]
    refine tA (i := 16) (v := ?_) (d := (some 75)) rfl rfl (Or.inl ⟨by kernel_rfl, ?_⟩) hHeld ?_
    rotate_left
    ·intro w' hSw; clear hSw; first | (go_simp; done) | (go_simp; with_reducible rfl)
    try rotate_right
    set_option linter.unusedSimpArgs false in try simp only [Act.put, sA, sB, sC]
    refine tA (i := 17) (v := ?_) (d := (some 76)) rfl rfl (Or.inl ⟨by kernel_rfl, ?_⟩) hHeld ?_
    rotate_left
    ·intro w' hSw; clear hSw; first | (go_simp; done) | (go_simp; with_reducible rfl)
    try rotate_right
    set_option linter.unusedSimpArgs false in try simp only [Act.put, sA, sB, sC]
    refine tA (i := 18) (v := ?_) (d := (some 77)) rfl rfl (Or.inl ⟨by kernel_rfl, ?_⟩) hHeld ?_
    rotate_left
    ·intro w' hSw; clear hSw; first | (go_simp; done) | (go_simp; with_reducible rfl)
    try rotate_right
    set_option linter.unusedSimpArgs false in try simp only [Act.put, sA, sB, sC]
    refine tA (i := 19) (v := ?_) (d := (some 78)) rfl rfl (Or.inl ⟨by kernel_rfl, ?_⟩) hHeld ?_
    rotate_left
    ·intro w' hSw; clear hSw; first | (go_simp; done) | (go_simp; with_reducible rfl)
    try rotate_right
    set_option linter.unusedSimpArgs false in try simp only [Act.put, sA, sB, sC]
    refine tA (i := 20) (v := ?_) (d := (some 79)) rfl rfl (Or.inl ⟨by kernel_rfl, ?_⟩) hHeld ?_
    rotate_left
    ·intro w' hSw; clear hSw; first | (go_simp; done) | (go_simp; with_reducible rfl)
    try rotate_right
    set_option linter.unusedSimpArgs false in try simp only [Act.put, sA, sB, sC]
    refine tA (i := 21) (v := ?_) (d := (some 80)) rfl rfl (Or.inl ⟨by kernel_rfl, ?_⟩) hHeld ?_
    rotate_left
    ·intro w' hSw; clear hSw; first | (go_simp; done) | (go_simp; with_reducible rfl)
    try rotate_right
    set_option linter.unusedSimpArgs false in try simp only [Act.put, sA, sB, sC]
    refine tA (i := 22) (v := ?_) (d := (some 81)) rfl rfl (Or.inl ⟨by kernel_rfl, ?_⟩) hHeld ?_
    rotate_left
    ·intro w' hSw; obtain ⟨⟨a0, a1, a2, a3, a4, a5, a6, a7, a8, a9, a10, a11, a12, a13⟩, ⟨j0, j1⟩, ⟨f0, f1⟩⟩ := hSw; first | (go_simp; done) | (go_simp; with_reducible rfl)
    try rotate_right
    set_option linter.unusedSimpArgs false in try simp only [Act.put, sA, sB, sC]
    refine tA (i := 24) (v := ?_) (d := (some 83)) rfl rfl (Or.inl ⟨by kernel_rfl, ?_⟩) hHeld ?_
    rotate_left
    ·intro w' hSw; clear hSw; first | (go_simp; done) | (go_simp; with_reducible rfl)
    try rotate_right
    set_option linter.unusedSimpArgs false in try simp only [Act.put, sA, sB, sC]
    refine tA (i := 25) (v := ?_) (d := (some 84)) rfl rfl (Or.inl ⟨by kernel_rfl, ?_⟩) hHeld ?_
    rotate_left
    ·intro w' hSw; clear hSw; first | (go_simp; done) | (go_simp; with_reducible rfl)
    try rotate_right
    set_option linter.unusedSimpArgs false in try simp only [Act.put, sA, sB, sC]
    refine tA (i := 26) (v := ?_) (d := (some 85)) rfl rfl (Or.inl ⟨by kernel_rfl, ?_⟩) hHeld ?_
    rotate_left
    ·intro w' hSw; clear hSw; first | (go_simp; done) | (go_simp; with_reducible rfl)
    try rotate_right
    set_option linter.unusedSimpArgs false in try simp only [Act.put, sA, sB, sC]
    refine tA (i := 27) (v := ?_) (d := (some 86)) rfl rfl (Or.inl ⟨by kernel_rfl, ?_⟩) hHeld ?_
    rotate_left
    ·intro w' hSw; clear hSw; first | (go_simp; done) | (go_simp; with_reducible rfl)
    try rotate_right
    set_option linter.unusedSimpArgs false in try simp only [Act.put, sA, sB, sC]
    refine tA (i := 28) (v := ?_) (d := (some 87)) rfl rfl (Or.inl ⟨by kernel_rfl, ?_⟩) hHeld ?_
    rotate_left
    ·intro w' hSw; obtain ⟨⟨a0, a1, a2, a3, a4, a5, a6, a7, a8, a9, a10, a11, a12, a13⟩, ⟨j0, j1⟩, ⟨f0, f1⟩⟩ := hSw; first | (go_simp; done) | (go_simp; with_reducible rfl)
    try rotate_right
    set_option linter.unusedSimpArgs false in try simp only [Act.put, sA, sB, sC]
    refine wpAnyH_ready (rs := [23]) (by kernel_rfl) (by simp) ?_
    refine AllReadyH.cons rfl (fun K hK => ?_) AllReadyH.nil
    go_simp
    refine (First_calls' (hT.below hDD)).mono ?_
    rintro en w5 ⟨rfl, rfl⟩
    rw [hIA.first]
    refine hK.out _ _ (KJ _ hDD) (fun hHeld => ?_)
    clear hK K
    set_option linter.unusedSimpArgs false in try simp only [Act.put, sA, sB, sC]
    refine tA (i := 29) (v := ?_) (d := (some 88)) rfl rfl (Or.inl ⟨by kernel_rfl, ?_⟩) hHeld ?_
    rotate_left
    ·intro w' hSw; clear hSw; first | (go_simp; done) | (go_simp; with_reducible rfl)
    try rotate_right
    set_option linter.unusedSimpArgs false in try simp only [Act.put, sA, sB, sC]
    refine tA (i := 30) (v := ?_) (d := (some 89)) rfl rfl (Or.inl ⟨by kernel_rfl, ?_⟩) hHeld ?_
    rotate_left
    ·intro w' hSw; clear hSw; first | (go_simp; done) | (go_simp; with_reducible rfl)
    try rotate_right
    set_option linter.unusedSimpArgs false in try simp only [Act.put, sA, sB, sC]
    refine tA (i := 31) (v := ?_) (d := (some 90)) rfl rfl (Or.inl ⟨by kernel_rfl, ?_⟩) hHeld ?_
    rotate_left
    ·intro w' hSw; clear hSw; first | (go_simp; done) | (go_simp; with_reducible rfl)
    try rotate_right
    set_option linter.unusedSimpArgs false in try simp only [Act.put, sA, sB, sC]
    refine tA (i := 32) (v := ?_) (d := (some 91)) rfl rfl (Or.inl ⟨by kernel_rfl, ?_⟩) hHeld ?_
    rotate_left
    ·intro w' hSw; clear hSw; first | (go_simp; done) | (go_simp; with_reducible rfl)
    try rotate_right
    set_option linter.unusedSimpArgs false in try simp only [Act.put, sA, sB, sC]
    refine tA (i := 33) (v := ?_) (d := (some 92)) rfl rfl (Or.inl ⟨by kernel_rfl, ?_⟩) hHeld ?_
    rotate_left
    ·intro w' hSw; clear hSw; first | (go_simp; done) | (go_simp; with_reducible rfl)
    try rotate_right
    set_option linter.unusedSimpArgs false in try simp only [Act.put, sA, sB, sC]
    refine tA (i := 34) (v := ?_) (d := (some 93)) rfl rfl (Or.inl ⟨by kernel_rfl, ?_⟩) hHeld ?_
    rotate_left
    ·intro w' hSw; clear hSw; first | (go_simp; done) | (go_simp; with_reducible rfl)
    try rotate_right
    set_option linter.unusedSimpArgs false in try simp only [Act.put, sA, sB, sC]
    refine tA (i := 35) (v := ?_) (d := (some 94)) rfl rfl (Or.inl ⟨by kernel_rfl, ?_⟩) hHeld ?_
    rotate_left
    ·intro w' hSw; obtain ⟨⟨a0, a1, a2, a3, a4, a5, a6, a7, a8, a9, a10, a11, a12, a13⟩, ⟨j0, j1⟩, ⟨f0, f1⟩⟩ := hSw; first | (go_simp; done) | (go_simp; with_reducible rfl)
    try rotate_right
    set_option linter.unusedSimpArgs false in try simp only [Act.put, sA, sB, sC]
    refine tA (i := 36) (v := ?_) (d := (some 95)) rfl rfl (Or.inl ⟨by kernel_rfl, ?_⟩) hHeld ?_
    rotate_left
    ·intro w' hSw; clear hSw; first | (go_simp; done) | (go_simp; with_reducible rfl)
    try rotate_right
    set_option linter.unusedSimpArgs false in try simp only [Act.put, sA, sB, sC]
    refine tA (i := 37) (v := ?_) (d := (some 96)) rfl rfl (Or.inl ⟨by kernel_rfl, ?_⟩) hHeld ?_
    rotate_left
    ·intro w' hSw; clear hSw; first | (go_simp; done) | (go_simp; with_reducible rfl)
    try rotate_right
    set_option linter.unusedSimpArgs false in try simp only [Act.put, sA, sB, sC]
    refine tA (i := 38) (v := ?_) (d := (some 97)) rfl rfl (Or.inl ⟨by kernel_rfl, ?_⟩) hHeld ?_
    rotate_left
    ·intro w' hSw; clear hSw; first | (go_simp; done) | (go_simp; with_reducible rfl)
    try rotate_right
    set_option linter.unusedSimpArgs false in try simp only [Act.put, sA, sB, sC]
    refine tA (i := 39) (v := ?_) (d := (some 98)) rfl rfl (Or.inl ⟨by kernel_rfl, ?_⟩) hHeld ?_
    rotate_left
    ·intro w' hSw; clear hSw; first | (go_simp; done) | (go_simp; with_reducible rfl)
    try rotate_right
    set_option linter.unusedSimpArgs false in try simp only [Act.put, sA, sB, sC]
    refine tA (i := 40) (v := ?_) (d := (some 99)) rfl rfl (Or.inl ⟨by kernel_rfl, ?_⟩) hHeld ?_
    rotate_left
    ·intro w' hSw; obtain ⟨⟨a0, a1, a2, a3, a4, a5, a6, a7, a8, a9, a10, a11, a12, a13⟩, ⟨j0, j1⟩, ⟨f0, f1⟩⟩ := hSw; first | (go_simp; done) | (go_simp; with_reducible rfl)
    try rotate_right
    set_option linter.unusedSimpArgs false in try simp only [Act.put, sA, sB, sC]
    refine tA (i := 41) (v := ?_) (d := (some 100)) rfl rfl (Or.inl ⟨by kernel_rfl, ?_⟩) hHeld ?_
    rotate_left
    ·intro w' hSw; clear hSw; first | (go_simp; done) | (go_simp; with_reducible rfl)
    try rotate_right
    set_option linter.unusedSimpArgs false in try simp only [Act.put, sA, sB, sC]
    refine tA (i := 42) (v := ?_) (d := (some 101)) rfl rfl (Or.inl ⟨by kernel_rfl, ?_⟩) hHeld ?_
    rotate_left
    ·intro w' hSw; clear hSw; first | (go_simp; done) | (go_simp; with_reducible rfl)
    try rotate_right
    set_option linter.unusedSimpArgs false in try simp only [Act.put, sA, sB, sC]
    refine tA (i := 43) (v := ?_) (d := (some 102)) rfl rfl (Or.inl ⟨by kernel_rfl, ?_⟩) hHeld ?_
    rotate_left
    ·intro w' hSw; clear hSw; first | (go_simp; done) | (go_simp; with_reducible rfl)
    try rotate_right
    set_option linter.unusedSimpArgs false in try simp only [Act.put, sA, sB, sC]
    refine tA (i := 44) (v := ?_) (d := (some 103)) rfl rfl (Or.inl ⟨by kernel_rfl, ?_⟩) hHeld ?_
    rotate_left
    ·intro w' hSw; clear hSw; first | (go_simp; done) | (go_simp; with_reducible rfl)
    try rotate_right
    set_option linter.unusedSimpArgs false in try simp only [Act.put, sA, sB, sC]
    refine tA (i := 45) (v := ?_) (d := (some 104)) rfl rfl (Or.inl ⟨by kernel_rfl, ?_⟩) hHeld ?_
    rotate_left
    ·intro w' hSw; obtain ⟨⟨a0, a1, a2, a3, a4, a5, a6, a7, a8, a9, a10, a11, a12, a13⟩, ⟨j0, j1⟩, ⟨f0, f1⟩⟩ := hSw; first | (go_simp; done) | (go_simp; with_reducible rfl)
    try rotate_right
    set_option linter.unusedSimpArgs false in try simp only [Act.put, sA, sB, sC]
    refine wpAnyH_ready (rs := [46]) (by kernel_rfl) (by simp) ?_
    refine AllReadyH.cons rfl (fun K hK => ?_) AllReadyH.nil
    go_simp
    refine (Below_calls (hT.below hDD) hOA.t _ _).mono ?_
    rintro en w6 ⟨rfl, hb6⟩
    rw [hIA.on]
    have hb6' := hDD.trans (hb6.mono hDD.size)
    refine hK.out _ _ (KJ _ hb6') (fun hHeld => ?_)
    clear hK K
    set_option linter.unusedSimpArgs false in try simp only [Act.put, sA, sB, sC]
    refine tA (i := 47) (v := ?_) (d := (some 106)) rfl rfl (Or.inl ⟨by kernel_rfl, ?_⟩) hHeld ?_
    rotate_left
    ·intro w' hSw; clear hSw; first | (go_simp; done) | (go_simp; with_reducible rfl)
    try rotate_right
    set_option linter.unusedSimpArgs false in try simp only [Act.put, sA, sB, sC]
    refine tA (i := 48) (v := ?_) (d := (some 107)) rfl rfl (Or.inl ⟨by kernel_rfl, ?_⟩) hHeld ?_
    rotate_left
    ·intro w' hSw; clear hSw; first | (go_simp; done) | (go_simp; with_reducible rfl)
    try rotate_right
    set_option linter.unusedSimpArgs false in try simp only [Act.put, sA, sB, sC]
    refine wpAnyH_done (by kernel_rfl) ?_ _
    obtain ⟨⟨z0, z1, z2, z3, z4, z5, z6, z7, z8, z9, z10, z11, z12, z13⟩, ⟨j0, j1⟩, ⟨f0, f1⟩⟩ := KJ _ hb6'
    clear hHeld KJ z0 z1 z2 z3 z4 z5 z6 z11 z12 z13 hd1 hd2
    have hgP := guardPt
    have heP := eqPt
    cases hq : (t.fin.e == s.fin.e && t.fin.r == s.fin.r) with
    | false =>
     clear HN2
     go_upto_region 14 with fail
     go_quiet (fail)
     go_wp2
     go_roundw
     case rel => exact ⟨j + 1, t, _, by go_num, by omega, by first | exact HL3.out.below (by first | assumption | exact below_drewN (Below.refl _ _) _ | exact below_then hb6' hb6'.size (below_drewN (Below.refl _ _) _))⟩
     case measure => simp [intOf]; omega
    | true =>
     have hfe : t.fin = s.fin := by
      rw [← ptEq] at hq
      simpa using hq
     have hn2 := HN2.out
     cases hg1 : decide (t.just.e < t.fin.e) with
     | false =>
      clear hn2 HN2 hfe
      go_upto_region 14 with fail
      go_quiet (fail)
      go_wp2
      go_roundw
      case rel => exact ⟨j + 1, t, _, by go_num, by omega, by first | exact HL3.out.below (by first | assumption | exact below_drewN (Below.refl _ _) _ | exact below_then hb6' hb6'.size (below_drewN (Below.refl _ _) _))⟩
      case measure => simp [intOf]; omega
     | true =>
      have hg2 : decide (s.fin.e ≤ s.just.e) = false := decide_eq_false (fun h => hn2 ⟨hfe, of_decide_eq_true hg1, h⟩)
      clear hn2 HN2 hfe
      go_upto_region 14 with fail
      go_quiet (fail)
      go_wp2
      go_roundw
      case rel => exact ⟨j + 1, t, _, by go_num, by omega, by first | exact HL3.out.below (by first | assumption | exact below_drewN (Below.refl _ _) _ | exact below_then hb6' hb6'.size (below_drewN (Below.refl _ _) _))⟩
      case measure => simp [intOf]; omega
  ·obtain ⟨_, _, _, hbw⟩ := hL
   obtain rfl : j = es.length := by omega
   go_wp2
   go_ret
   exact ⟨rfl, hbw⟩
end Go.Proofs.Ytnppimhlfcjghaa
