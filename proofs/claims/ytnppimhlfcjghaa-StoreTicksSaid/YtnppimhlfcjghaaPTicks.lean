import Derived.Test.YtnppimhlfcjghaaPLaw
import Derived.BigQuiet
set_option linter.all false
set_option linter.unusedVariables false
set_option linter.unusedSimpArgs false
namespace Go.Proofs.Ytnppimhlfcjghaa
open Go.RowKit
set_option maxRecDepth 100000
set_option maxHeartbeats 8000000
theorem StoreTicks_calls (w : World) (A : Option Addr) (kn : Nat) (ns : List Int) (Ab : Option Addr) (kb : Nat) (bs : List Int) (sl : Int) (hn : Ints anyB .u8 w A ns) (hf : Fits ns.length kn) (hnr : ∀ x ∈ ns, 0 ≤ x ∧ x < 256) (hb : Ints anyB .u8 w Ab bs) (hf2 : Fits bs.length kb) (hbr : ∀ x ∈ bs, 0 ≤ x ∧ x < 256) (hsl : (Lit.int .u8 sl).wf = true) :
    Calls Try.prog 5 #[.slice A ns.length kn, .slice Ab bs.length kb, .int .u8 sl] w fun e w' => e = .returned (.bool true) ∧ Below w.heap.size w w' := by
 have hsl' : 0 ≤ sl ∧ sl < 256 := by simp [Lit.wf, IntKind.min, IntKind.max, IntKind.bits, IntKind.signed] at hsl; omega
 clear hsl
 go_enter Try.func5, Try.ntmps5
 go_upto_region 3 with (go_at_call 14; refine (awake14_calls _).mono ?_; rintro e w1 ⟨rfl, hb1⟩)
 have cC := Config_calls w1 bs Ab kb sl 40 (hb.below hb1) hbr hf2.2 hsl' (by omega)
 clear hb hf2 hbr
 go_upto_region 4 with (go_at_call 15; refine cC.mono ?_; rintro e w2 ⟨c, Ac, kc, rfl, hok, hcb, hb2⟩)
 have q7 := heap_new w2 (.cells #[.slice Ac c.bal.length kc, .int .i64 c.slots, .int .i64 c.boost] 36)
 have hb3 := below_alloc (Below.refl w2.heap.size w2) (.cells #[.slice Ac c.bal.length kc, .int .i64 c.slots, .int .i64 c.boost] 36)
 have hb13 : Below w.heap.size w (w2.alloc (.cells #[.slice Ac c.bal.length kc, .int .i64 c.slots, .int .i64 c.boost] 36)) := below_trans hb1 (below_trans hb2 hb3)
 have hcb3 : Ints anyB .u64 (w2.alloc (.cells #[.slice Ac c.bal.length kc, .int .i64 c.slots, .int .i64 c.boost] 36)) Ac c.bal := (Lie.any hcb : Ints anyB .u64 w2 Ac c.bal).below hb3
 have cS := SOf_calls (w2.alloc (.cells #[.slice Ac c.bal.length kc, .int .i64 c.slots, .int .i64 c.boost] 36)) c Ac kc hok hcb3
 clear cC hb1 hb2 hb3 hcb
 obtain ⟨y0, y1, y2⟩ := cs3 q7
 go_upto_region 5 with (first
  | (refine wpList_loadB rfl 36 (.tmp 7) rfl w2.heap.size [.slice Ac c.bal.length kc, .int .i64 c.slots, .int .i64 c.boost] q7 rfl _ Try.underlying36 rfl iCf ?_)
  | (go_at_call 16; refine cS.mono ?_; rintro e w4 ⟨p, k, vk, rfl, hS, hp, hb4⟩))
 have h4 := below_trans hb13 hb4
 have hpb : ∀ i ∈ p.all, w.heap.size ≤ i := fun i hi => by have := hp i hi; have := hb13.size; omega
 have q7' := blk_below q7 hb4
 have cM := Make_calls w4 c hok Ac kc (hcb3.below hb4) ns A kn (hn.below h4) hnr hf
 obtain ⟨_, _, _, x3, _⟩ := hS.cells
 clear cS y0 y1 y2 hb4 hcb3 hb13 q7 hp hn hf hnr
 obtain ⟨y0, y1, y2⟩ := cs3 q7'
 go_wp2_with (first
  | (refine wpList_loadB rfl 36 (.tmp 7) rfl w2.heap.size [.slice Ac c.bal.length kc, .int .i64 c.slots, .int .i64 c.boost] q7' rfl _ Try.underlying36 rfl iCf ?_)
  | (go_at_call 17; refine cM.mono ?_; rintro e w5 ⟨es, Ae, ce, rfl, hew, hel, hev, hb5⟩))
 have hL0 := LawRun.start hok h4 hS hpb hew hev hb5
 generalize hS1 : w4.heap.size = S1 at hL0
 generalize hS2 : w5.heap.size = S2 at hL0
 clear y0 y1 y2 x3 cM hS hpb hS1 hS2 hev hb5 h4 q7' hew
 go_loopw [43] (fun i wr => ∃ (j : Nat) (s : St) (ch : Value), i = .int .i64 j ∧ j ≤ es.length ∧ LawRun w S1 S2 p.sb Ae es s ch wr) (fun i _ => es.length - (intOf i).toNat)
 case atStart => exact ⟨0, St.of c, _, rfl, Nat.zero_le _, hL0⟩
 case round =>
  clear hL0
  obtain ⟨j, s, ch, rfl, hj, hL⟩ := hrel
  by_cases hlt : j < es.length
  ·have hg := List.getElem?_eq_getElem hlt
   generalize es[j] = e at hg
   have hR := hL.1
   obtain ⟨b, o, rfl, hbk, A1, c1, A2, c2, A3, c3, A4, c4, A5, c5, hER, hAT⟩ := hR.row.get hg
   have hew := hR.wf e (List.mem_of_getElem? hg)
   clear hg
   go_upto_region 10 with (first
    | (refine wpList_load_mid rfl 66 _ rfl _ _ rfl [.int .i64 e.kind, .int .i64 e.slot, .int .u64 e.block.root, .int .u64 e.block.parent, .int .i64 e.block.slot, .slice A1 e.block.votes.length c1, .slice A2 e.block.proofs.length c2, .int .i64 e.vote.slot, .int .u64 e.vote.head, .int .i64 e.vote.src.e, .int .u64 e.vote.src.r, .int .i64 e.vote.tgt.e, .int .u64 e.vote.tgt.r, .slice A3 e.vote.who.length c3, .int .i64 e.proof.a.slot, .int .u64 e.proof.a.head, .int .i64 e.proof.a.src.e, .int .u64 e.proof.a.src.r, .int .i64 e.proof.a.tgt.e, .int .u64 e.proof.a.tgt.r, .slice A4 e.proof.a.who.length c4, .int .i64 e.proof.b.slot, .int .u64 e.proof.b.head, .int .i64 e.proof.b.src.e, .int .u64 e.proof.b.src.r, .int .i64 e.proof.b.tgt.e, .int .u64 e.proof.b.tgt.r, .slice A5 e.proof.b.who.length c5] _ hAT Try.underlying66 rfl iEv ?_)
    | (refine wpList_box 66 11 _ (.tmp 46) [.int .i64 e.kind, .int .i64 e.slot, .int .u64 e.block.root, .int .u64 e.block.parent, .int .i64 e.block.slot, .slice A1 e.block.votes.length c1, .slice A2 e.block.proofs.length c2, .int .i64 e.vote.slot, .int .u64 e.vote.head, .int .i64 e.vote.src.e, .int .u64 e.vote.src.r, .int .i64 e.vote.tgt.e, .int .u64 e.vote.tgt.r, .slice A3 e.vote.who.length c3, .int .i64 e.proof.a.slot, .int .u64 e.proof.a.head, .int .i64 e.proof.a.src.e, .int .u64 e.proof.a.src.r, .int .i64 e.proof.a.tgt.e, .int .u64 e.proof.a.tgt.r, .slice A4 e.proof.a.who.length c4, .int .i64 e.proof.b.slot, .int .u64 e.proof.b.head, .int .i64 e.proof.b.src.e, .int .u64 e.proof.b.src.r, .int .i64 e.proof.b.tgt.e, .int .u64 e.proof.b.tgt.r, .slice A5 e.proof.b.who.length c5] rfl rfl rfl zEv rfl rfl iEv rfl ?_))
   have hba := below_alloc (Below.refl wr.heap.size wr) (.cells #[.int .i64 e.kind, .int .i64 e.slot, .int .u64 e.block.root, .int .u64 e.block.parent, .int .i64 e.block.slot, .slice A1 e.block.votes.length c1, .slice A2 e.block.proofs.length c2, .int .i64 e.vote.slot, .int .u64 e.vote.head, .int .i64 e.vote.src.e, .int .u64 e.vote.src.r, .int .i64 e.vote.tgt.e, .int .u64 e.vote.tgt.r, .slice A3 e.vote.who.length c3, .int .i64 e.proof.a.slot, .int .u64 e.proof.a.head, .int .i64 e.proof.a.src.e, .int .u64 e.proof.a.src.r, .int .i64 e.proof.a.tgt.e, .int .u64 e.proof.a.tgt.r, .slice A4 e.proof.a.who.length c4, .int .i64 e.proof.b.slot, .int .u64 e.proof.b.head, .int .i64 e.proof.b.src.e, .int .u64 e.proof.b.src.r, .int .i64 e.proof.b.tgt.e, .int .u64 e.proof.b.tgt.r, .slice A5 e.proof.b.who.length c5] 66)
   have qe := heap_new wr (.cells #[.int .i64 e.kind, .int .i64 e.slot, .int .u64 e.block.root, .int .u64 e.block.parent, .int .i64 e.block.slot, .slice A1 e.block.votes.length c1, .slice A2 e.block.proofs.length c2, .int .i64 e.vote.slot, .int .u64 e.vote.head, .int .i64 e.vote.src.e, .int .u64 e.vote.src.r, .int .i64 e.vote.tgt.e, .int .u64 e.vote.tgt.r, .slice A3 e.vote.who.length c3, .int .i64 e.proof.a.slot, .int .u64 e.proof.a.head, .int .i64 e.proof.a.src.e, .int .u64 e.proof.a.src.r, .int .i64 e.proof.a.tgt.e, .int .u64 e.proof.a.tgt.r, .slice A4 e.proof.a.who.length c4, .int .i64 e.proof.b.slot, .int .u64 e.proof.b.head, .int .i64 e.proof.b.src.e, .int .u64 e.proof.b.src.r, .int .i64 e.proof.b.tgt.e, .int .u64 e.proof.b.tgt.r, .slice A5 e.proof.b.who.length c5] 66)
   have hL1 := hL.below hba
   have hER1 := hER.below hba
   have hS2 : S2 ≤ wr.heap.size := hR.b.2.2
   clear hL hR hba hAT hER hbk
   obtain ⟨p1, k1, vk1, hsb1, hS1, _⟩ := hL1.1.run
   obtain ⟨_, _, _, _, _, _, x6, _⟩ := hS1.cells
   rw [hsb1] at x6
   clear hS1
   have cA := hL1.1.apply hew hER1
   have hRok := hL1.1.ok
   have hTS := ticks_step hRok hew
   go_upto_region 12 with (first
    | (refine wpList_loadB rfl 66 (.tmp 11) rfl wr.heap.size [.int .i64 e.kind, .int .i64 e.slot, .int .u64 e.block.root, .int .u64 e.block.parent, .int .i64 e.block.slot, .slice A1 e.block.votes.length c1, .slice A2 e.block.proofs.length c2, .int .i64 e.vote.slot, .int .u64 e.vote.head, .int .i64 e.vote.src.e, .int .u64 e.vote.src.r, .int .i64 e.vote.tgt.e, .int .u64 e.vote.tgt.r, .slice A3 e.vote.who.length c3, .int .i64 e.proof.a.slot, .int .u64 e.proof.a.head, .int .i64 e.proof.a.src.e, .int .u64 e.proof.a.src.r, .int .i64 e.proof.a.tgt.e, .int .u64 e.proof.a.tgt.r, .slice A4 e.proof.a.who.length c4, .int .i64 e.proof.b.slot, .int .u64 e.proof.b.head, .int .i64 e.proof.b.src.e, .int .u64 e.proof.b.src.r, .int .i64 e.proof.b.tgt.e, .int .u64 e.proof.b.tgt.r, .slice A5 e.proof.b.who.length c5] qe rfl _ Try.underlying66 rfl iEv ?_)
    | (go_at_call 18; refine cA.mono ?_; rintro en W3 ⟨ch3, rfl, hR3, -, hk3, hx3⟩))
   have qe3 := hk3 _ _ _ (by decide) (by decide) (by decide) (by decide) qe
   have hL3 := hL1.step hew hR3 hx3
   obtain ⟨q, k', vk', hsb, hS3, _⟩ := hR3.run
   have hC := hS3.cells
   rw [hsb] at hC
   obtain ⟨_, _, _, z3, _, z5, z6, _⟩ := hC
   obtain ⟨v0, v1, v2, v3, v4, _⟩ := cs28 qe3
   have hT := hS3.tree
   have hcell := hS3.cells
   rw [hsb] at hcell
   have HL3 := Lib.hid hL3
   have HEw := Lib.hid hew
   clear cA hx3 hk3 hR3 hL3 hL1 hER1 qe x6 hRok hew
   generalize hn : (applyS s e).2 = n at hTS ⊢
   generalize (applyS s e).1.1 = t at hTS HL3 hS3 z3 z5 z6 hT hcell
   obtain ⟨t1, t2, t3⟩ := hTS
   clear hn
   have HS3 := Lib.hid hS3
   clear hS3
   have HC := Lib.hid hcell
   have HQ := Lib.hid qe3
   clear hcell qe3
   generalize hE : wr.heap.size = E at HQ v0 v1 v2 v3 v4 ⊢
   clear hE
   by_cases hn : n = 0
   ·have her : errV n = .nilIface := by rw [errV, if_pos hn]
    rw [her]
    have t2' := t2 hn
    have t3' := t3 hn
    clear t1 t2 t3 her hn
    by_cases k0 : e.kind = 0
    ·have kb0 : (e.kind == 0) = true := by simp [k0]
     have kb1 : (e.kind == 1) = false := by simp [k0]
     obtain ⟨u1, u2⟩ := t2' k0
     rw [u1] at z5
     rw [u2] at z6
     clear t2' t3' k0 u1 u2
     go_upto_region 14 with fail
     go_quiet (fail)
     go_upto_region 16 with fail
     go_quiet (fail)
     go_wp2
     go_roundw
     case rel => exact ⟨j + 1, t, ch3, by go_num, by omega, by first | exact HL3.out | exact HL3.out.below (by first | assumption | exact below_drewN (Below.refl _ _) _ | exact below_then hb5' hb5'.size (below_drewN (Below.refl _ _) _) | exact below_then hb5' hb5'.size (below_then (below_drewN (Below.refl w5.heap.size w5) _) (Nat.le_refl _) hb7))⟩
     case measure => simp [intOf]; omega
    ·have kb0 : (e.kind == 0) = false := by simp [k0]
     by_cases k1 : e.kind = 1
     ·have kb1 : (e.kind == 1) = true := by simp [k1]
      have t4 := t3' k1
      clear k0 k1 t2' t3'
      go_upto_region 14 with fail
      go_quiet (fail)
      go_upto_region 16 with fail
      generalize hW4 : W3.drewN _ = W4
      have hD4 : Below W3.heap.size W3 W4 := hW4 ▸ below_drewN (Below.refl _ _) _
      clear hW4
      have hDD : Below W3.heap.size W3 W4.drew := hD4.drew
      have KJ : ∀ W', Below W3.heap.size W3 W' → (W'.cell? ⟨p.sb, 0, none⟩ = some (.slice (some ⟨q.bb, 0, none⟩) t.c.bal.length k') ∧ W'.cell? ⟨p.sb, 1, none⟩ = some (.int .i64 t.c.slots) ∧ W'.cell? ⟨p.sb, 2, none⟩ = some (.int .i64 t.c.boost) ∧ W'.cell? ⟨p.sb, 3, none⟩ = some (.pointer (some ⟨q.tb, 0, none⟩)) ∧ W'.cell? ⟨p.sb, 4, none⟩ = some (.slice (some ⟨q.vb, 0, none⟩) t.votes.length vk') ∧ W'.cell? ⟨p.sb, 5, none⟩ = some (.int .i64 t.slot) ∧ W'.cell? ⟨p.sb, 6, none⟩ = some (.int .u64 t.boosted) ∧ W'.cell? ⟨p.sb, 7, none⟩ = some (.int .i64 t.just.e) ∧ W'.cell? ⟨p.sb, 8, none⟩ = some (.int .u64 t.just.r) ∧ W'.cell? ⟨p.sb, 9, none⟩ = some (.int .i64 t.fin.e) ∧ W'.cell? ⟨p.sb, 10, none⟩ = some (.int .u64 t.fin.r) ∧ W'.cell? ⟨p.sb, 11, none⟩ = some (.map (some q.lb)) ∧ W'.cell? ⟨p.sb, 12, none⟩ = some (.map (some q.gb)) ∧ W'.cell? ⟨p.sb, 13, none⟩ = some (ch3)) ∧ (W'.cell? ⟨E, 0, none⟩ = some (.int .i64 e.kind) ∧ W'.cell? ⟨E, 1, none⟩ = some (.int .i64 e.slot) ∧ W'.cell? ⟨E, 2, none⟩ = some (.int .u64 e.block.root) ∧ W'.cell? ⟨E, 3, none⟩ = some (.int .u64 e.block.parent) ∧ W'.cell? ⟨E, 4, none⟩ = some (.int .i64 e.block.slot) ∧ W'.cell? ⟨E, 5, none⟩ = some (.slice A1 e.block.votes.length c1) ∧ W'.cell? ⟨E, 6, none⟩ = some (.slice A2 e.block.proofs.length c2) ∧ W'.cell? ⟨E, 7, none⟩ = some (.int .i64 e.vote.slot) ∧ W'.cell? ⟨E, 8, none⟩ = some (.int .u64 e.vote.head) ∧ W'.cell? ⟨E, 9, none⟩ = some (.int .i64 e.vote.src.e) ∧ W'.cell? ⟨E, 10, none⟩ = some (.int .u64 e.vote.src.r) ∧ W'.cell? ⟨E, 11, none⟩ = some (.int .i64 e.vote.tgt.e) ∧ W'.cell? ⟨E, 12, none⟩ = some (.int .u64 e.vote.tgt.r) ∧ W'.cell? ⟨E, 13, none⟩ = some (.slice A3 e.vote.who.length c3) ∧ W'.cell? ⟨E, 14, none⟩ = some (.int .i64 e.proof.a.slot) ∧ W'.cell? ⟨E, 15, none⟩ = some (.int .u64 e.proof.a.head) ∧ W'.cell? ⟨E, 16, none⟩ = some (.int .i64 e.proof.a.src.e) ∧ W'.cell? ⟨E, 17, none⟩ = some (.int .u64 e.proof.a.src.r) ∧ W'.cell? ⟨E, 18, none⟩ = some (.int .i64 e.proof.a.tgt.e) ∧ W'.cell? ⟨E, 19, none⟩ = some (.int .u64 e.proof.a.tgt.r) ∧ W'.cell? ⟨E, 20, none⟩ = some (.slice A4 e.proof.a.who.length c4) ∧ W'.cell? ⟨E, 21, none⟩ = some (.int .i64 e.proof.b.slot) ∧ W'.cell? ⟨E, 22, none⟩ = some (.int .u64 e.proof.b.head) ∧ W'.cell? ⟨E, 23, none⟩ = some (.int .i64 e.proof.b.src.e) ∧ W'.cell? ⟨E, 24, none⟩ = some (.int .u64 e.proof.b.src.r) ∧ W'.cell? ⟨E, 25, none⟩ = some (.int .i64 e.proof.b.tgt.e) ∧ W'.cell? ⟨E, 26, none⟩ = some (.int .u64 e.proof.b.tgt.r) ∧ W'.cell? ⟨E, 27, none⟩ = some (.slice A5 e.proof.b.who.length c5)) := fun W' hW => by
       have hC := (HS3.out.below hW).cells
       rw [hsb] at hC
       exact ⟨hC, cs28 (blk_below HQ.out hW)⟩
      clear z3 z5 z6 v0 v1 v2 v3 v4
      refine wp_region_held_drew (S := fun w' => (w'.cell? ⟨p.sb, 0, none⟩ = some (.slice (some ⟨q.bb, 0, none⟩) t.c.bal.length k') ∧ w'.cell? ⟨p.sb, 1, none⟩ = some (.int .i64 t.c.slots) ∧ w'.cell? ⟨p.sb, 2, none⟩ = some (.int .i64 t.c.boost) ∧ w'.cell? ⟨p.sb, 3, none⟩ = some (.pointer (some ⟨q.tb, 0, none⟩)) ∧ w'.cell? ⟨p.sb, 4, none⟩ = some (.slice (some ⟨q.vb, 0, none⟩) t.votes.length vk') ∧ w'.cell? ⟨p.sb, 5, none⟩ = some (.int .i64 t.slot) ∧ w'.cell? ⟨p.sb, 6, none⟩ = some (.int .u64 t.boosted) ∧ w'.cell? ⟨p.sb, 7, none⟩ = some (.int .i64 t.just.e) ∧ w'.cell? ⟨p.sb, 8, none⟩ = some (.int .u64 t.just.r) ∧ w'.cell? ⟨p.sb, 9, none⟩ = some (.int .i64 t.fin.e) ∧ w'.cell? ⟨p.sb, 10, none⟩ = some (.int .u64 t.fin.r) ∧ w'.cell? ⟨p.sb, 11, none⟩ = some (.map (some q.lb)) ∧ w'.cell? ⟨p.sb, 12, none⟩ = some (.map (some q.gb)) ∧ w'.cell? ⟨p.sb, 13, none⟩ = some (ch3)) ∧ (w'.cell? ⟨E, 0, none⟩ = some (.int .i64 e.kind) ∧ w'.cell? ⟨E, 1, none⟩ = some (.int .i64 e.slot) ∧ w'.cell? ⟨E, 2, none⟩ = some (.int .u64 e.block.root) ∧ w'.cell? ⟨E, 3, none⟩ = some (.int .u64 e.block.parent) ∧ w'.cell? ⟨E, 4, none⟩ = some (.int .i64 e.block.slot) ∧ w'.cell? ⟨E, 5, none⟩ = some (.slice A1 e.block.votes.length c1) ∧ w'.cell? ⟨E, 6, none⟩ = some (.slice A2 e.block.proofs.length c2) ∧ w'.cell? ⟨E, 7, none⟩ = some (.int .i64 e.vote.slot) ∧ w'.cell? ⟨E, 8, none⟩ = some (.int .u64 e.vote.head) ∧ w'.cell? ⟨E, 9, none⟩ = some (.int .i64 e.vote.src.e) ∧ w'.cell? ⟨E, 10, none⟩ = some (.int .u64 e.vote.src.r) ∧ w'.cell? ⟨E, 11, none⟩ = some (.int .i64 e.vote.tgt.e) ∧ w'.cell? ⟨E, 12, none⟩ = some (.int .u64 e.vote.tgt.r) ∧ w'.cell? ⟨E, 13, none⟩ = some (.slice A3 e.vote.who.length c3) ∧ w'.cell? ⟨E, 14, none⟩ = some (.int .i64 e.proof.a.slot) ∧ w'.cell? ⟨E, 15, none⟩ = some (.int .u64 e.proof.a.head) ∧ w'.cell? ⟨E, 16, none⟩ = some (.int .i64 e.proof.a.src.e) ∧ w'.cell? ⟨E, 17, none⟩ = some (.int .u64 e.proof.a.src.r) ∧ w'.cell? ⟨E, 18, none⟩ = some (.int .i64 e.proof.a.tgt.e) ∧ w'.cell? ⟨E, 19, none⟩ = some (.int .u64 e.proof.a.tgt.r) ∧ w'.cell? ⟨E, 20, none⟩ = some (.slice A4 e.proof.a.who.length c4) ∧ w'.cell? ⟨E, 21, none⟩ = some (.int .i64 e.proof.b.slot) ∧ w'.cell? ⟨E, 22, none⟩ = some (.int .u64 e.proof.b.head) ∧ w'.cell? ⟨E, 23, none⟩ = some (.int .i64 e.proof.b.src.e) ∧ w'.cell? ⟨E, 24, none⟩ = some (.int .u64 e.proof.b.src.r) ∧ w'.cell? ⟨E, 25, none⟩ = some (.int .i64 e.proof.b.tgt.e) ∧ w'.cell? ⟨E, 26, none⟩ = some (.int .u64 e.proof.b.tgt.r) ∧ w'.cell? ⟨E, 27, none⟩ = some (.slice A5 e.proof.b.who.length c5))) (by kernel_rfl) (KJ _ hDD) (fun hHeld => ?_)
      refine tA (i := 0) (v := ?_) (d := (some 93)) rfl rfl (Or.inl ⟨by kernel_rfl, ?_⟩) hHeld ?_
      rotate_left
      ·intro w' hSw; clear hSw; first | (go_simp; done) | (go_simp; with_reducible rfl)
      try rotate_right
      set_option linter.unusedSimpArgs false in try simp only [Act.put, sA, sB, sC]
      refine tA (i := 1) (v := ?_) (d := (some 94)) rfl rfl (Or.inl ⟨by kernel_rfl, ?_⟩) hHeld ?_
      rotate_left
      ·intro w' hSw; clear hSw; first | (go_simp; done) | (go_simp; with_reducible rfl)
      try rotate_right
      set_option linter.unusedSimpArgs false in try simp only [Act.put, sA, sB, sC]
      refine tA (i := 2) (v := ?_) (d := (some 95)) rfl rfl (Or.inl ⟨by kernel_rfl, ?_⟩) hHeld ?_
      rotate_left
      ·intro w' hSw; clear hSw; first | (go_simp; done) | (go_simp; with_reducible rfl)
      try rotate_right
      set_option linter.unusedSimpArgs false in try simp only [Act.put, sA, sB, sC]
      refine tA (i := 3) (v := ?_) (d := (some 96)) rfl rfl (Or.inl ⟨by kernel_rfl, ?_⟩) hHeld ?_
      rotate_left
      ·intro w' hSw; clear hSw; first | (go_simp; done) | (go_simp; with_reducible rfl)
      try rotate_right
      set_option linter.unusedSimpArgs false in try simp only [Act.put, sA, sB, sC]
      refine tA (i := 4) (v := ?_) (d := (some 97)) rfl rfl (Or.inl ⟨by kernel_rfl, ?_⟩) hHeld ?_
      rotate_left
      ·intro w' hSw; obtain ⟨⟨a0, a1, a2, a3, a4, a5, a6, a7, a8, a9, a10, a11, a12, a13⟩, ⟨v0, v1, v2, v3, v4, v5, v6, v7, v8, v9, v10, v11, v12, v13, v14, v15, v16, v17, v18, v19, v20, v21, v22, v23, v24, v25, v26, v27⟩⟩ := hSw; first | (go_simp; done) | (go_simp; with_reducible rfl)
      try rotate_right
      set_option linter.unusedSimpArgs false in try simp only [Act.put, sA, sB, sC]
      refine tA (i := 5) (v := ?_) (d := (some 98)) rfl rfl (Or.inl ⟨by kernel_rfl, ?_⟩) hHeld ?_
      rotate_left
      ·intro w' hSw; clear hSw; first | (go_simp; done) | (go_simp; with_reducible rfl)
      try rotate_right
      set_option linter.unusedSimpArgs false in try simp only [Act.put, sA, sB, sC]
      refine tA (i := 6) (v := ?_) (d := (some 99)) rfl rfl (Or.inl ⟨by kernel_rfl, ?_⟩) hHeld ?_
      rotate_left
      ·intro w' hSw; clear hSw; first | (go_simp; done) | (go_simp; with_reducible rfl)
      try rotate_right
      set_option linter.unusedSimpArgs false in try simp only [Act.put, sA, sB, sC]
      refine tA (i := 7) (v := ?_) (d := (some 100)) rfl rfl (Or.inl ⟨by kernel_rfl, ?_⟩) hHeld ?_
      rotate_left
      ·intro w' hSw; clear hSw; first | (go_simp; done) | (go_simp; with_reducible rfl)
      try rotate_right
      set_option linter.unusedSimpArgs false in try simp only [Act.put, sA, sB, sC]
      refine tA (i := 8) (v := ?_) (d := (some 101)) rfl rfl (Or.inl ⟨by kernel_rfl, ?_⟩) hHeld ?_
      rotate_left
      ·intro w' hSw; clear hSw; first | (go_simp; done) | (go_simp; with_reducible rfl)
      try rotate_right
      set_option linter.unusedSimpArgs false in try simp only [Act.put, sA, sB, sC]
      refine tA (i := 9) (v := ?_) (d := (some 102)) rfl rfl (Or.inl ⟨by kernel_rfl, ?_⟩) hHeld ?_
      rotate_left
      ·intro w' hSw; clear hSw; first | (go_simp; done) | (go_simp; with_reducible rfl)
      try rotate_right
      set_option linter.unusedSimpArgs false in try simp only [Act.put, sA, sB, sC]
      refine tA (i := 10) (v := ?_) (d := (some 103)) rfl rfl (Or.inl ⟨by kernel_rfl, ?_⟩) hHeld ?_
      rotate_left
      ·intro w' hSw; clear hSw; first | (go_simp; done) | (go_simp; with_reducible rfl)
      try rotate_right
      set_option linter.unusedSimpArgs false in try simp only [Act.put, sA, sB, sC]
      refine tA (i := 11) (v := ?_) (d := (some 104)) rfl rfl (Or.inl ⟨by kernel_rfl, ?_⟩) hHeld ?_
      rotate_left
      ·intro w' hSw; obtain ⟨⟨a0, a1, a2, a3, a4, a5, a6, a7, a8, a9, a10, a11, a12, a13⟩, ⟨v0, v1, v2, v3, v4, v5, v6, v7, v8, v9, v10, v11, v12, v13, v14, v15, v16, v17, v18, v19, v20, v21, v22, v23, v24, v25, v26, v27⟩⟩ := hSw; first | (go_simp; done) | (go_simp; with_reducible rfl)
      try rotate_right
      set_option linter.unusedSimpArgs false in try simp only [Act.put, sA, sB, sC]
      refine tA (i := 12) (v := ?_) (d := (some 105)) rfl rfl (Or.inl ⟨by kernel_rfl, ?_⟩) hHeld ?_
      rotate_left
      ·intro w' hSw; clear hSw; first | (go_simp; done) | (go_simp; with_reducible rfl)
      try rotate_right
      set_option linter.unusedSimpArgs false in try simp only [Act.put, sA, sB, sC]
      refine tA (i := 13) (v := ?_) (d := (some 106)) rfl rfl (Or.inl ⟨by kernel_rfl, ?_⟩) hHeld ?_
      rotate_left
      ·intro w' hSw; clear hSw; first | (go_simp; done) | (go_simp; with_reducible rfl)
      try rotate_right
      set_option linter.unusedSimpArgs false in try simp only [Act.put, sA, sB, sC]
      refine tA (i := 14) (v := ?_) (d := (some 107)) rfl rfl (Or.inl ⟨by kernel_rfl, ?_⟩) hHeld ?_
      rotate_left
      ·intro w' hSw; obtain ⟨⟨a0, a1, a2, a3, a4, a5, a6, a7, a8, a9, a10, a11, a12, a13⟩, ⟨v0, v1, v2, v3, v4, v5, v6, v7, v8, v9, v10, v11, v12, v13, v14, v15, v16, v17, v18, v19, v20, v21, v22, v23, v24, v25, v26, v27⟩⟩ := hSw; first | (go_simp; done) | (go_simp; with_reducible rfl)
      try rotate_right
      set_option linter.unusedSimpArgs false in try simp only [Act.put, sA, sB, sC]
      refine wpAnyH_ready (rs := [15]) (by kernel_rfl) (by simp) ?_
      refine AllReadyH.cons rfl (fun K hK => ?_) AllReadyH.nil
      go_simp
      refine (Has_calls (hT.below hDD) e.block.root).mono ?_
      rintro en w5 ⟨rfl, hb5⟩
      have hb5' := hDD.trans (hb5.mono hDD.size)
      refine hK.out _ _ (KJ _ hb5') (fun hHeld => ?_)
      clear hK K
      set_option linter.unusedSimpArgs false in try simp only [Act.put, sA, sB, sC]
      refine tA (i := 16) (v := ?_) (d := (some 109)) rfl rfl (Or.inl ⟨by kernel_rfl, ?_⟩) hHeld ?_
      rotate_left
      ·intro w' hSw; clear hSw; first | (go_simp; done) | (go_simp; with_reducible rfl)
      try rotate_right
      set_option linter.unusedSimpArgs false in try simp only [Act.put, sA, sB, sC]
      refine tA (i := 17) (v := ?_) (d := (some 92)) rfl rfl (Or.inl ⟨by kernel_rfl, ?_⟩) hHeld ?_
      rotate_left
      ·intro w' hSw; clear hSw; first | (go_simp; done) | (go_simp; with_reducible rfl)
      try rotate_right
      set_option linter.unusedSimpArgs false in try simp only [Act.put, sA, sB, sC]
      refine wpAnyH_done (by kernel_rfl) ?_ _
      obtain ⟨⟨_, _, _, z3, _, z5, z6, _⟩, ⟨v0, v1, v2, v3, v4, _⟩⟩ := KJ _ hb5'
      cases hh : t.tree.has e.block.root with
      | false =>
       go_wp2
       go_roundw
       case rel => exact ⟨j + 1, t, ch3, by go_num, by omega, by first | exact HL3.out | exact HL3.out.below (by first | assumption | exact below_drewN (Below.refl _ _) _ | exact below_then hb5' hb5'.size (below_drewN (Below.refl _ _) _) | exact below_then hb5' hb5'.size (below_then (below_drewN (Below.refl w5.heap.size w5) _) (Nat.le_refl _) hb7))⟩
       case measure => simp [intOf]; omega
      | true =>
       clear hh
       have HZ := Lib.hid t4
       clear t4
       by_cases hs0 : s.boosted = 0
       ·have hq0 : (s.boosted == 0) = true := by simp [hs0]
        by_cases hsl : e.block.slot = t.slot
        ·have hq1 : (e.block.slot == t.slot) = true := by simp [hsl]
         have t4 := HZ.out
         rw [if_pos ⟨hs0, hsl⟩] at t4
         clear hs0 hsl HZ
         go_upto_region 18 with fail
         go_quiet (fail)
         go_upto_region 20 with fail
         by_cases hbw : t.boosted = e.block.root
         ·have hbb : (t.boosted != e.block.root) = false := by simp [hbw]
          clear hbw t4
          go_wp2
          go_roundw
          case rel => exact ⟨j + 1, t, ch3, by go_num, by omega, by first | exact HL3.out | exact HL3.out.below (by first | assumption | exact below_drewN (Below.refl _ _) _ | exact below_then hb5' hb5'.size (below_drewN (Below.refl _ _) _) | exact below_then hb5' hb5'.size (below_then (below_drewN (Below.refl w5.heap.size w5) _) (Nat.le_refl _) hb7))⟩
          case measure => simp [intOf]; omega
         ·have hbb : (t.boosted != e.block.root) = true := by simp [hbw]
          have hh2 : t.tree.has e.block.root = false := by
           cases h : t.tree.has e.block.root with
           | false => rfl
           | true => exact absurd ⟨hbw, h⟩ t4
          clear hbw t4
          obtain ⟨⟨_, _, _, z3, _, z5, z6, _⟩, ⟨v0, v1, v2, v3, v4, _⟩⟩ := KJ _ (below_then hb5' hb5'.size (below_drewN (Below.refl w5.heap.size w5) 1))
          go_wp2_with (go_at_call 21; refine (Has_calls (hT.below (by first | assumption | exact below_then hb5' hb5'.size (below_drewN (Below.refl w5.heap.size w5) _))) e.block.root).mono ?_; rintro en w7 ⟨rfl, hb7⟩; rw [hh2])
          go_roundw
          case rel => exact ⟨j + 1, t, ch3, by go_num, by omega, by first | exact HL3.out | exact HL3.out.below (by first | assumption | exact below_drewN (Below.refl _ _) _ | exact below_then hb5' hb5'.size (below_drewN (Below.refl _ _) _) | exact below_then hb5' hb5'.size (below_then (below_drewN (Below.refl w5.heap.size w5) _) (Nat.le_refl _) hb7))⟩
          case measure => simp [intOf]; omega
        ·have hq1 : (e.block.slot == t.slot) = false := by simp [hsl]
         have t4 := HZ.out
         rw [if_neg (fun h => hsl h.2)] at t4
         clear hs0 hsl HZ
         go_upto_region 18 with fail
         go_quiet (fail)
         go_upto_region 20 with fail
         by_cases hbw : t.boosted = s.boosted
         ·have hbb : (t.boosted != s.boosted) = false := by simp [hbw]
          clear hbw t4
          go_wp2
          go_roundw
          case rel => exact ⟨j + 1, t, ch3, by go_num, by omega, by first | exact HL3.out | exact HL3.out.below (by first | assumption | exact below_drewN (Below.refl _ _) _ | exact below_then hb5' hb5'.size (below_drewN (Below.refl _ _) _) | exact below_then hb5' hb5'.size (below_then (below_drewN (Below.refl w5.heap.size w5) _) (Nat.le_refl _) hb7))⟩
          case measure => simp [intOf]; omega
         ·have hbb : (t.boosted != s.boosted) = true := by simp [hbw]
          have hh2 : t.tree.has s.boosted = false := by
           cases h : t.tree.has s.boosted with
           | false => rfl
           | true => exact absurd ⟨hbw, h⟩ t4
          clear hbw t4
          obtain ⟨⟨_, _, _, z3, _, z5, z6, _⟩, ⟨v0, v1, v2, v3, v4, _⟩⟩ := KJ _ (below_then hb5' hb5'.size (below_drewN (Below.refl w5.heap.size w5) 1))
          go_wp2_with (go_at_call 21; refine (Has_calls (hT.below (by first | assumption | exact below_then hb5' hb5'.size (below_drewN (Below.refl w5.heap.size w5) _))) s.boosted).mono ?_; rintro en w7 ⟨rfl, hb7⟩; rw [hh2])
          go_roundw
          case rel => exact ⟨j + 1, t, ch3, by go_num, by omega, by first | exact HL3.out | exact HL3.out.below (by first | assumption | exact below_drewN (Below.refl _ _) _ | exact below_then hb5' hb5'.size (below_drewN (Below.refl _ _) _) | exact below_then hb5' hb5'.size (below_then (below_drewN (Below.refl w5.heap.size w5) _) (Nat.le_refl _) hb7))⟩
          case measure => simp [intOf]; omega
       ·have hq0 : (s.boosted == 0) = false := by simp [hs0]
        have t4 := HZ.out
        rw [if_neg (fun h => hs0 h.1)] at t4
        clear hs0 HZ
        go_upto_region 18 with fail
        go_quiet (fail)
        go_upto_region 20 with fail
        by_cases hbw : t.boosted = s.boosted
        ·have hbb : (t.boosted != s.boosted) = false := by simp [hbw]
         clear hbw t4
         go_wp2
         go_roundw
         case rel => exact ⟨j + 1, t, ch3, by go_num, by omega, by first | exact HL3.out | exact HL3.out.below (by first | assumption | exact below_drewN (Below.refl _ _) _ | exact below_then hb5' hb5'.size (below_drewN (Below.refl _ _) _) | exact below_then hb5' hb5'.size (below_then (below_drewN (Below.refl w5.heap.size w5) _) (Nat.le_refl _) hb7))⟩
         case measure => simp [intOf]; omega
        ·have hbb : (t.boosted != s.boosted) = true := by simp [hbw]
         have hh2 : t.tree.has s.boosted = false := by
          cases h : t.tree.has s.boosted with
          | false => rfl
          | true => exact absurd ⟨hbw, h⟩ t4
         clear hbw t4
         obtain ⟨⟨_, _, _, z3, _, z5, z6, _⟩, ⟨v0, v1, v2, v3, v4, _⟩⟩ := KJ _ (below_then hb5' hb5'.size (below_drewN (Below.refl w5.heap.size w5) 1))
         go_wp2_with (go_at_call 21; refine (Has_calls (hT.below (by first | assumption | exact below_then hb5' hb5'.size (below_drewN (Below.refl w5.heap.size w5) _))) s.boosted).mono ?_; rintro en w7 ⟨rfl, hb7⟩; rw [hh2])
         go_roundw
         case rel => exact ⟨j + 1, t, ch3, by go_num, by omega, by first | exact HL3.out | exact HL3.out.below (by first | assumption | exact below_drewN (Below.refl _ _) _ | exact below_then hb5' hb5'.size (below_drewN (Below.refl _ _) _) | exact below_then hb5' hb5'.size (below_then (below_drewN (Below.refl w5.heap.size w5) _) (Nat.le_refl _) hb7))⟩
         case measure => simp [intOf]; omega
     ·have kb1 : (e.kind == 1) = false := by simp [k1]
      clear k0 k1 t2' t3'
      go_upto_region 14 with fail
      go_quiet (fail)
      go_upto_region 16 with fail
      go_quiet (fail)
      go_wp2
      go_roundw
      case rel => exact ⟨j + 1, t, ch3, by go_num, by omega, by first | exact HL3.out | exact HL3.out.below (by first | assumption | exact below_drewN (Below.refl _ _) _ | exact below_then hb5' hb5'.size (below_drewN (Below.refl _ _) _) | exact below_then hb5' hb5'.size (below_then (below_drewN (Below.refl w5.heap.size w5) _) (Nat.le_refl _) hb7))⟩
      case measure => simp [intOf]; omega
   ·have her : errV n = .iface 105 (.int .i64 n) := by rw [errV, if_neg hn]
    rw [her]
    rw [t1 hn] at z6
    clear t1 t2 t3 her hn
    go_upto_region 14 with fail
    go_quiet (fail)
    go_upto_region 16 with fail
    go_quiet (fail)
    go_wp2
    go_roundw
    case rel => exact ⟨j + 1, t, ch3, by go_num, by omega, by first | exact HL3.out | exact HL3.out.below (by first | assumption | exact below_drewN (Below.refl _ _) _ | exact below_then hb5' hb5'.size (below_drewN (Below.refl _ _) _) | exact below_then hb5' hb5'.size (below_then (below_drewN (Below.refl w5.heap.size w5) _) (Nat.le_refl _) hb7))⟩
    case measure => simp [intOf]; omega
  ·obtain ⟨_, _, _, hbw⟩ := hL
   obtain rfl : j = es.length := by omega
   go_wp2
   go_ret
   exact ⟨rfl, hbw⟩
end Go.Proofs.Ytnppimhlfcjghaa
