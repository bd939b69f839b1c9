import Derived.Test.YtnppimhlfcjghaaPVotesIn
import Derived.Test.YtnppimhlfcjghaaPPmAwake
import Derived.Test.YtnppimhlfcjghaaPOpsK
import Derived.BigQuiet
set_option linter.all false
set_option linter.unusedVariables false
set_option linter.unusedSimpArgs false
namespace Go.Proofs.Ytnppimhlfcjghaa
open Go.RowKit
set_option maxRecDepth 100000
set_option maxHeartbeats 40000000
def RelV10 (s : St) (W : World) (x : Value) (w' : World) : Prop :=
 ∃ g c' : Nat, x = .slice (some ⟨g, 0, none⟩) s.votes.length c' ∧ VotesR w' g s.votes ∧ W.heap.size ≤ g ∧ g < w'.heap.size ∧ Below W.heap.size W w'
theorem StoreVotes_calls (w : World) (A : Option Addr) (kn : Nat) (ns : List Int) (Ab : Option Addr) (kb : Nat) (bs : List Int) (sl : Int) (hn : Ints anyB .u8 w A ns) (hf : Fits ns.length kn) (hnr : ∀ x ∈ ns, 0 ≤ x ∧ x < 256) (hb : Ints anyB .u8 w Ab bs) (hf2 : Fits bs.length kb) (hbr : ∀ x ∈ bs, 0 ≤ x ∧ x < 256) (hsl : (Lit.int .u8 sl).wf = true) :
    Calls Try.prog 4 #[.slice A ns.length kn, .slice Ab bs.length kb, .int .u8 sl] w fun e w' => e = .returned (.bool true) ∧ Below w.heap.size w w' := by
 have hsl' : 0 ≤ sl ∧ sl < 256 := by simp [Lit.wf, IntKind.min, IntKind.max, IntKind.bits, IntKind.signed] at hsl; omega
 clear hsl
 go_enter Try.func4, Try.ntmps4
 go_upto_region 3 with (go_at_call 14; refine (awake14_calls _).mono ?_; rintro e w1 ⟨rfl, hb1⟩)
 have cC := Config_calls w1 bs Ab kb sl 40 (hb.below hb1) hbr hf2.2 hsl' (by omega)
 clear hb hf2 hbr
 go_upto_region 4 with (go_at_call 15; refine cC.mono ?_; rintro e w2 ⟨c, Ac, kc, rfl, hok, hcb, hb2⟩)
 have q7 := heap_new w2 (.cells #[.slice Ac c.bal.length kc, .int .i64 c.slots, .int .i64 c.boost] 36)
 have hb3 := below_alloc (Below.refl w2.heap.size w2) (.cells #[.slice Ac c.bal.length kc, .int .i64 c.slots, .int .i64 c.boost] 36)
 have hb13 : Below w.heap.size w (w2.alloc (.cells #[.slice Ac c.bal.length kc, .int .i64 c.slots, .int .i64 c.boost] 36)) := below_trans hb1 (below_trans hb2 hb3)
 have hcb3 : Ints anyB .u64 (w2.alloc (.cells #[.slice Ac c.bal.length kc, .int .i64 c.slots, .int .i64 c.boost] 36)) Ac c.bal := (Lie.any hcb : Ints anyB .u64 w2 Ac c.bal).below hb3
 have cS := SOf_calls (w2.alloc (.cells #[.slice Ac c.bal.length kc, .int .i64 c.slots, .int .i64 c.boost] 36)) c Ac kc hok hcb3
 clear cC hb1 hb2 hb3 hcb
 obtain ⟨y0, y1, y2⟩ := cs3 q7
 go_upto_region 5 with (first
  | (refine wpList_loadB rfl 36 (.tmp 7) rfl w2.heap.size [.slice Ac c.bal.length kc, .int .i64 c.slots, .int .i64 c.boost] q7 rfl _ Try.underlying36 rfl iCf ?_)
  | (go_at_call 16; refine cS.mono ?_; rintro e w4 ⟨p, k, vk, rfl, hS, hp, hb4⟩))
 have h4 := below_trans hb13 hb4
 have hpb : ∀ i ∈ p.all, w.heap.size ≤ i := fun i hi => by have := hp i hi; have := hb13.size; omega
 have q7' := blk_below q7 hb4
 have cM := Make_calls w4 c hok Ac kc (hcb3.below hb4) ns A kn (hn.below h4) hnr hf
 obtain ⟨_, _, _, x3, _⟩ := hS.cells
 clear cS y0 y1 y2 hb4 hcb3 hb13 q7 hp hn hf hnr
 obtain ⟨y0, y1, y2⟩ := cs3 q7'
 go_wp2_with (first
  | (refine wpList_loadB rfl 36 (.tmp 7) rfl w2.heap.size [.slice Ac c.bal.length kc, .int .i64 c.slots, .int .i64 c.boost] q7' rfl _ Try.underlying36 rfl iCf ?_)
  | (go_at_call 17; refine cM.mono ?_; rintro e w5 ⟨es, Ae, ce, rfl, hew, hel, hev, hb5⟩))
 have hL0 := LawRun.start hok h4 hS hpb hew hev hb5
 generalize hS1 : w4.heap.size = S1 at hL0
 generalize hS2 : w5.heap.size = S2 at hL0
 have HQ70 : Hid (w5.heap[w2.heap.size]? = some (.cells #[.slice Ac c.bal.length kc, .int .i64 c.slots, .int .i64 c.boost] 36 (0, 0))) := blk_below q7' hb5
 clear y0 y1 y2 x3 cM hS hpb hS1 hS2 hev hb5 h4 q7' hew
 go_loopw [51] (fun i wr => ∃ (j : Nat) (s : St) (ch : Value), i = .int .i64 j ∧ j ≤ es.length ∧ LawRun w S1 S2 p.sb Ae es s ch wr ∧ s.c = c ∧ Hid (wr.heap[w2.heap.size]? = some (.cells #[.slice Ac c.bal.length kc, .int .i64 c.slots, .int .i64 c.boost] 36 (0, 0)))) (fun i _ => es.length - (intOf i).toNat)
 case atStart => exact ⟨0, St.of c, _, rfl, Nat.zero_le _, hL0, rfl, HQ70⟩
 case round =>
  clear hL0 HQ70
  obtain ⟨j, s, ch, rfl, hj, hL, hcc, HQ7⟩ := hrel
  by_cases hlt : j < es.length
  ·have hg := List.getElem?_eq_getElem hlt
   generalize es[j] = e at hg
   have hR := hL.1
   obtain ⟨b, o, rfl, hbk, A1, c1, A2, c2, A3, c3, A4, c4, A5, c5, hER, hAT⟩ := hR.row.get hg
   have hew := hR.wf e (List.mem_of_getElem? hg)
   clear hg
   go_upto_region 10 with (first
    | (refine wpList_load_mid rfl 66 _ rfl _ _ rfl [.int .i64 e.kind, .int .i64 e.slot, .int .u64 e.block.root, .int .u64 e.block.parent, .int .i64 e.block.slot, .slice A1 e.block.votes.length c1, .slice A2 e.block.proofs.length c2, .int .i64 e.vote.slot, .int .u64 e.vote.head, .int .i64 e.vote.src.e, .int .u64 e.vote.src.r, .int .i64 e.vote.tgt.e, .int .u64 e.vote.tgt.r, .slice A3 e.vote.who.length c3, .int .i64 e.proof.a.slot, .int .u64 e.proof.a.head, .int .i64 e.proof.a.src.e, .int .u64 e.proof.a.src.r, .int .i64 e.proof.a.tgt.e, .int .u64 e.proof.a.tgt.r, .slice A4 e.proof.a.who.length c4, .int .i64 e.proof.b.slot, .int .u64 e.proof.b.head, .int .i64 e.proof.b.src.e, .int .u64 e.proof.b.src.r, .int .i64 e.proof.b.tgt.e, .int .u64 e.proof.b.tgt.r, .slice A5 e.proof.b.who.length c5] _ hAT Try.underlying66 rfl iEv ?_)
    | (refine wpList_box 66 11 _ (.tmp 54) [.int .i64 e.kind, .int .i64 e.slot, .int .u64 e.block.root, .int .u64 e.block.parent, .int .i64 e.block.slot, .slice A1 e.block.votes.length c1, .slice A2 e.block.proofs.length c2, .int .i64 e.vote.slot, .int .u64 e.vote.head, .int .i64 e.vote.src.e, .int .u64 e.vote.src.r, .int .i64 e.vote.tgt.e, .int .u64 e.vote.tgt.r, .slice A3 e.vote.who.length c3, .int .i64 e.proof.a.slot, .int .u64 e.proof.a.head, .int .i64 e.proof.a.src.e, .int .u64 e.proof.a.src.r, .int .i64 e.proof.a.tgt.e, .int .u64 e.proof.a.tgt.r, .slice A4 e.proof.a.who.length c4, .int .i64 e.proof.b.slot, .int .u64 e.proof.b.head, .int .i64 e.proof.b.src.e, .int .u64 e.proof.b.src.r, .int .i64 e.proof.b.tgt.e, .int .u64 e.proof.b.tgt.r, .slice A5 e.proof.b.who.length c5] rfl rfl rfl zEv rfl rfl iEv rfl ?_))
   have hba := below_alloc (Below.refl wr.heap.size wr) (.cells #[.int .i64 e.kind, .int .i64 e.slot, .int .u64 e.block.root, .int .u64 e.block.parent, .int .i64 e.block.slot, .slice A1 e.block.votes.length c1, .slice A2 e.block.proofs.length c2, .int .i64 e.vote.slot, .int .u64 e.vote.head, .int .i64 e.vote.src.e, .int .u64 e.vote.src.r, .int .i64 e.vote.tgt.e, .int .u64 e.vote.tgt.r, .slice A3 e.vote.who.length c3, .int .i64 e.proof.a.slot, .int .u64 e.proof.a.head, .int .i64 e.proof.a.src.e, .int .u64 e.proof.a.src.r, .int .i64 e.proof.a.tgt.e, .int .u64 e.proof.a.tgt.r, .slice A4 e.proof.a.who.length c4, .int .i64 e.proof.b.slot, .int .u64 e.proof.b.head, .int .i64 e.proof.b.src.e, .int .u64 e.proof.b.src.r, .int .i64 e.proof.b.tgt.e, .int .u64 e.proof.b.tgt.r, .slice A5 e.proof.b.who.length c5] 66)
   have qe := heap_new wr (.cells #[.int .i64 e.kind, .int .i64 e.slot, .int .u64 e.block.root, .int .u64 e.block.parent, .int .i64 e.block.slot, .slice A1 e.block.votes.length c1, .slice A2 e.block.proofs.length c2, .int .i64 e.vote.slot, .int .u64 e.vote.head, .int .i64 e.vote.src.e, .int .u64 e.vote.src.r, .int .i64 e.vote.tgt.e, .int .u64 e.vote.tgt.r, .slice A3 e.vote.who.length c3, .int .i64 e.proof.a.slot, .int .u64 e.proof.a.head, .int .i64 e.proof.a.src.e, .int .u64 e.proof.a.src.r, .int .i64 e.proof.a.tgt.e, .int .u64 e.proof.a.tgt.r, .slice A4 e.proof.a.who.length c4, .int .i64 e.proof.b.slot, .int .u64 e.proof.b.head, .int .i64 e.proof.b.src.e, .int .u64 e.proof.b.src.r, .int .i64 e.proof.b.tgt.e, .int .u64 e.proof.b.tgt.r, .slice A5 e.proof.b.who.length c5] 66)
   have hL1 := hL.below hba
   have hER1 := hER.below hba
   have hS2 : S2 ≤ wr.heap.size := hR.b.2.2
   clear hL hR hba hAT hER hbk
   have hba2 := below_alloc (Below.refl wr.heap.size wr) (.cells #[.int .i64 e.kind, .int .i64 e.slot, .int .u64 e.block.root, .int .u64 e.block.parent, .int .i64 e.block.slot, .slice A1 e.block.votes.length c1, .slice A2 e.block.proofs.length c2, .int .i64 e.vote.slot, .int .u64 e.vote.head, .int .i64 e.vote.src.e, .int .u64 e.vote.src.r, .int .i64 e.vote.tgt.e, .int .u64 e.vote.tgt.r, .slice A3 e.vote.who.length c3, .int .i64 e.proof.a.slot, .int .u64 e.proof.a.head, .int .i64 e.proof.a.src.e, .int .u64 e.proof.a.src.r, .int .i64 e.proof.a.tgt.e, .int .u64 e.proof.a.tgt.r, .slice A4 e.proof.a.who.length c4, .int .i64 e.proof.b.slot, .int .u64 e.proof.b.head, .int .i64 e.proof.b.src.e, .int .u64 e.proof.b.src.r, .int .i64 e.proof.b.tgt.e, .int .u64 e.proof.b.tgt.r, .slice A5 e.proof.b.who.length c5] 66)
   have hq71 := blk_below HQ7.out hba2
   generalize hW1 : wr.alloc (.cells #[.int .i64 e.kind, .int .i64 e.slot, .int .u64 e.block.root, .int .u64 e.block.parent, .int .i64 e.block.slot, .slice A1 e.block.votes.length c1, .slice A2 e.block.proofs.length c2, .int .i64 e.vote.slot, .int .u64 e.vote.head, .int .i64 e.vote.src.e, .int .u64 e.vote.src.r, .int .i64 e.vote.tgt.e, .int .u64 e.vote.tgt.r, .slice A3 e.vote.who.length c3, .int .i64 e.proof.a.slot, .int .u64 e.proof.a.head, .int .i64 e.proof.a.src.e, .int .u64 e.proof.a.src.r, .int .i64 e.proof.a.tgt.e, .int .u64 e.proof.a.tgt.r, .slice A4 e.proof.a.who.length c4, .int .i64 e.proof.b.slot, .int .u64 e.proof.b.head, .int .i64 e.proof.b.src.e, .int .u64 e.proof.b.src.r, .int .i64 e.proof.b.tgt.e, .int .u64 e.proof.b.tgt.r, .slice A5 e.proof.b.who.length c5] 66) = W1 at *
   generalize hE : wr.heap.size = E at *
   clear hW1 hE hba2
   obtain ⟨p1, k1, vk1, hsb1, hS1, hp1⟩ := hL1.1.run
   have KF : ∀ W', Below W1.heap.size W1 W' → W'.cell? ⟨p.sb, 4, none⟩ = some (.slice (some ⟨p1.vb, 0, none⟩) s.votes.length vk1) := fun W' hW => by
    have hC := (hS1.below hW).cells
    rw [hsb1] at hC
    exact hC.2.2.2.2.1
   have hsok := hL1.1.ok
   have hvn : 1 ≤ s.votes.length ∧ s.votes.length ≤ 4096 := by have := hsok.vl; have := hsok.c.l1; have := hsok.c.l2; omega
   have HVL := Lib.hid hsok.vl
   have HCC := Lib.hid hcc
   clear hcc
   have hlt1 := hS1.lt hsok
   have hD1 : Below W1.heap.size W1 W1.drew := (Below.refl _ W1).drew
   have HQE := Lib.hid qe
   have HER := Lib.hid hER1
   have HL1 := Lib.hid hL1
   have HEw := Lib.hid hew
   have HS1 := Lib.hid hS1
   have HQ71 := Lib.hid hq71
   have HP1 := Lib.hid (And.intro hp1 hlt1)
   clear qe hER1 hL1 hew hS1 hq71 hsok HQ7 hp1 hlt1
   try simp only [Act.put, sA, sB, sC]
   go_cut [12] (fun x w' => RelV10 s W1 x w')
   case first =>
    refine beginK (fun w' => w'.cell? ⟨p.sb, 4, none⟩ = some (.slice (some ⟨p1.vb, 0, none⟩) s.votes.length vk1)) 9 (by rfl) ?_
    have hHeld := KF _ hD1
    refine kW 0 55 hHeld ?_
    refine kW 1 56 hHeld ?_
    refine kW 2 57 hHeld ?_
    refine kW 3 58 hHeld ?_
    refine kW 4 59 hHeld ?_
    refine kW 5 60 hHeld ?_
    refine kW 6 61 hHeld ?_
    refine kW 7 62 hHeld ?_
    refine kW 8 63 hHeld ?_
    refine readyK (rs := [9]) (by kernel_rfl) (by simp) ?_
    refine AllReadyK.cons rfl (fun K hK => ?_) AllReadyK.nil
    refine step_app0 W1.drew.heap.size (by rfl) (.tmp 59) (.tmp 63) 45 77 (.agg (enC En.zero).toArray) 4 32 rfl Try.underlying45 infoEn rfl (by decide) ⟨p1.vb, 0, none⟩ ⟨p1.vb, 0, none⟩ (by rfl) s.votes.length vk1 (s.votes.flatMap enC) (by rfl) (flat_length _) ((HS1.out.votes.below hD1).news) (by omega) (by omega) (by omega) (Nat.le_refl _) ?_
    intro c' w3 ho hg
    have hb3 : Below W1.heap.size W1 w3 := hD1.trans (((Below.refl W1.drew.heap.size W1.drew).grown hg (Nat.le_refl _) (fun k hk => by cases hk)).mono hD1.size)
    refine hK.out _ _ (fun h => absurd rfl h) ?_
    clear hK K
    try simp only [Act.put, sA, sB, sC]
    refine readyK (rs := [10]) (by kernel_rfl) (by simp) ?_
    refine AllReadyK.cons rfl (fun K hK => ?_) AllReadyK.nil
    go_simp
    refine hK.out _ _ (fun _ => KF _ hb3) ?_
    clear hK K
    try simp only [Act.put, sA, sB, sC]
    refine doneK (by kernel_rfl) ?_ _
    go_wp2
    go_meet
    case rel => exact ⟨_, _, rfl, VotesR.of_own ho, hD1.size, own_lt ho _ rfl, hb3⟩
   case rest =>
    obtain ⟨g, cw, rfl, hv2, hg1, hg2, hb2⟩ := hcut
    obtain ⟨W2, rfl⟩ : ∃ W2 : World, W2 = wc := ⟨_, rfl⟩
    have hL2 := HL1.out.below hb2
    have qe2 := blk_below HQE.out hb2
    have hER2 := HER.out.below hb2
    have hew := HEw.out
    have hS2' := HS1.out.below hb2
    have hq72 := blk_below HQ71.out hb2
    have cA := (show RunAt w.heap.size S1 S2 p1.sb _ es s ch W2 from by rw [hsb1]; exact hL2.1).applyF hS2' HP1.out.1 hew hER2
    rw [hsb1] at cA
    have hAc := applyS_c s e
    rw [HCC.out] at hAc
    have HAc := Lib.hid hAc
    clear hAc
    have hvm := fun hk he => votes_moved (s := s) (e := e) hk he
    have hvb := fun hk => votes_banned (s := s) (e := e) hk
    clear KF hD1
    go_upto_region 12 with (first
     | (refine wpList_loadB rfl 66 (.tmp 11) rfl E [.int .i64 e.kind, .int .i64 e.slot, .int .u64 e.block.root, .int .u64 e.block.parent, .int .i64 e.block.slot, .slice A1 e.block.votes.length c1, .slice A2 e.block.proofs.length c2, .int .i64 e.vote.slot, .int .u64 e.vote.head, .int .i64 e.vote.src.e, .int .u64 e.vote.src.r, .int .i64 e.vote.tgt.e, .int .u64 e.vote.tgt.r, .slice A3 e.vote.who.length c3, .int .i64 e.proof.a.slot, .int .u64 e.proof.a.head, .int .i64 e.proof.a.src.e, .int .u64 e.proof.a.src.r, .int .i64 e.proof.a.tgt.e, .int .u64 e.proof.a.tgt.r, .slice A4 e.proof.a.who.length c4, .int .i64 e.proof.b.slot, .int .u64 e.proof.b.head, .int .i64 e.proof.b.src.e, .int .u64 e.proof.b.src.r, .int .i64 e.proof.b.tgt.e, .int .u64 e.proof.b.tgt.r, .slice A5 e.proof.b.who.length c5] qe2 rfl _ Try.underlying66 rfl iEv ?_)
     | (go_at_call 18; refine cA.mono ?_; rintro en W3 ⟨⟨ch3, rfl, hR3, hch3, hk3, hx3⟩, hxF⟩))
    have qe3 := hk3 _ _ _ (by decide) (by decide) (by decide) (by decide) qe2
    have hq73 := hk3 _ _ _ (by decide) (by decide) (by decide) (by decide) hq72
    have hL3 := hL2.step hew hR3 hx3
    have hv3 := hv2.ext hxF (fun hF => by
     rcases hF with hF | hF
     ·have := HP1.out.2 g (p1.mem hF); omega
     ·omega)
    have hER3 : EvR (fun b => S1 ≤ b ∧ b < S2) W3 e A1 c1 A2 c2 A3 c3 A4 c4 A5 c5 := hER2.mono (fun _ x => x) (fun i hi hlt => hx3.block i hlt (fun hF => by omega))
    obtain ⟨A', cc', rfl⟩ := own_slice hch3
    have HQE3 := Lib.hid qe3
    have HQ73 := Lib.hid hq73
    have HL3 := Lib.hid hL3
    have HV3 := Lib.hid hv3
    have HER3 := Lib.hid hER3
    obtain ⟨v0, v1, v2, v3, v4, v5, v6, v7, v8, v9, v10, v11, v12, v13, v14, v15, v16, v17, v18, v19, v20, v21, v22, v23, v24, v25, v26, v27⟩ := cs28 qe3
    obtain ⟨y0, y1, y2⟩ := cs3 hq73
    clear cA hx3 hk3 hR3 hL3 hL2 hER2 qe2 hew hS2' hq72 hq73 hxF hv2 hv3 hER3 qe3 HQE HER HL1 HS1 HQ71 HP1 hb2 hg1 hg2
    have HCH := Lib.hid hch3
    clear hch3
    generalize hn : (applyS s e).2 = n at hvm ⊢
    generalize hX : (applyS s e).1.2 = X at hvm hvb HCH ⊢
    generalize (applyS s e).1.1 = t at HL3 HAc
    clear hn hX
    by_cases hk : e.kind = 2
    ·by_cases hn : n = 0
     ·rw [hk] at v0
      have HKk := Lib.hid hk
      have her : errV n = .nilIface := by rw [errV, if_pos hn]
      rw [her]
      obtain ⟨hX, hwo⟩ := hvm hk hn
      have hin : ∀ (i : Nat) (k : Int), e.vote.who[i]? = some k → 0 ≤ k ∧ k < s.c.bal.length := fun i k h => whoOk_in hwo h
      clear hvm hvb her hn hk
      have hwf := HEw.out.2.2.2.2
      obtain ⟨L, hL⟩ : ∃ L, L = slashWho c e.proof := ⟨_, rfl⟩
      have cW := Who_calls W3 c Ac kc e.proof A4 c4 A5 c5 hok hwf.1 hwf.2 HER3.out.f4.2 HER3.out.f5.2 (Lie.any HER3.out.r4) (Lie.any HER3.out.r5)
      rw [← hL] at cW
      have HLe := Lib.hid hL
      clear hL hwf
      have HIN := Lib.hid hin
      have HX := Lib.hid hX
      clear hin hX
      go_upto_region 14 with (go_at_call 19; refine cW.mono ?_; rintro en4 W4 ⟨Aw, cq, rfl, hwi0, hb4⟩; generalize errV (if L.length = 0 then 11 else 0) = er4)
      have HL4 := Lib.hid (hwi0)
      clear cW hwi0
      obtain ⟨v0, v1, v2, v3, v4, v5, v6, v7, v8, v9, v10, v11, v12, v13, _⟩ := cs28 (blk_below HQE3.out hb4)
      rw [HKk.out] at v0
      have hwi : Hid (Ints (fun _ => True) .i64 W4 A3 e.vote.who) := Lie.mono (HER3.out.r3.below hb4) (fun _ _ _ x => x) (fun _ _ => trivial) (fun _ _ _ => rfl)
      have hlw : e.vote.who.length ≤ 9223372036854775807 := by have h := HER3.out.f3.2; unfold maxLen at h; omega
      go_upto_region 16 with fail
      go_cut [17] (fun x w' => x = .int .i64 0 ∧ W4 = w')
      case first =>
       go_wp2
       go_meet
       case rel => exact ⟨rfl, rfl⟩
      case rest =>
       obtain ⟨rfl, rfl⟩ := hcut
       refine (show ∀ (a : Act) (w : World), Code.wp Try.prog (Code.seq (pth [1, 1, 1, 1, 1, 0, 1, 2, 3, 1, 1, 0, 2, 1, 1, 1, 1, 1, 1, 1, 0] ((Try.f4.body).getD .skip)) (pth [1, 1, 1, 1, 1, 0, 1, 2, 3, 1, 1, 0, 2, 1, 1, 1, 1, 1, 1, 1, 1] ((Try.f4.body).getD .skip))) _ a w → _ from by assumption) _ _ (wp_seq (votes_in2 HQE3 HV3 HVL hvn HKk hb4 HCH HIN HX hwi hlw ?_ ?_))
       ·exact fun _ _ _ _ _ h => h
       intro z6 z19 z20 z21 z22 z23 z96 z97 z98 z99 z100 z101 z102 z103 z104 z105 z106 z107 z108 z109 z110 z111 z112 z113 z114 z115 z116 z117 z118 z119 z120 z121 z122 z123 z124 z125 z126 z127 z128 z129 z130 z131 z132 z133 z134 z135 z136 z137 z138 z139 z140 z141 z142 z143 z144 z145 z146 z147 z148 z149 z150 z151 z152 z153 z154 z155 z156 z157 z158 z159 z160 z161 z162 z163 z164 z165 z166 z167 z168 z169 z170 z171 w5 hb45
       show Code.wp _ _ _ _ _
       conv in (pth _ _) => simp only [Try.f4, pth, Option.getD_some]
       go_wp2
       go_roundw
       case rel => exact ⟨j + 1, t, _, by go_num, by omega, HL3.out.below (below_then hb4 hb4.size hb45), HAc.out, blk_below HQ73.out (below_then hb4 hb4.size hb45)⟩
       case measure => simp [intOf]; omega
     ·rw [hk] at v0
      have her : errV n = .iface 105 (.int .i64 n) := by rw [errV, if_neg hn]
      rw [her]
      clear hvm hvb her hn hk HEw HCH HER3 HV3 HQE3
      go_wp2
      go_roundw
      case rel => exact ⟨j + 1, t, _, by go_num, by omega, HL3.out.below (Below.refl _ _), HAc.out, blk_below HQ73.out (Below.refl _ _)⟩
      case measure => simp [intOf]; omega
    ·have hk2 := hk
     clear hk
     by_cases hk : e.kind = 3
     ·clear hk2
      by_cases hn : n = 0
      ·rw [hk] at v0
       have HKk := Lib.hid hk
       have her : errV n = .nilIface := by rw [errV, if_pos hn]
       rw [her]
       have hX := hvb hk
       clear hvm hvb her hn hk
       have hwf := HEw.out.2.2.2.2
       obtain ⟨L, hL⟩ : ∃ L, L = slashWho c e.proof := ⟨_, rfl⟩
       have cW := Who_calls W3 c Ac kc e.proof A4 c4 A5 c5 hok hwf.1 hwf.2 HER3.out.f4.2 HER3.out.f5.2 (Lie.any HER3.out.r4) (Lie.any HER3.out.r5)
       rw [← hL] at cW
       have HLe := Lib.hid hL
       rw [HCC.out, ← hL] at hX
       have hin : ∀ (i : Nat) (k : Int), L[i]? = some k → 0 ≤ k ∧ k < s.c.bal.length := fun i k h => by rw [HCC.out]; rw [hL] at h; exact slashWho_at h
       clear hL hwf
       have HIN := Lib.hid hin
       have HX := Lib.hid hX
       clear hin hX
       go_upto_region 14 with (go_at_call 19; refine cW.mono ?_; rintro en4 W4 ⟨Aw, cq, rfl, hwi0, hb4⟩; generalize errV (if L.length = 0 then 11 else 0) = er4)
       have HL4 := Lib.hid (hwi0)
       clear cW hwi0
       obtain ⟨v0, v1, v2, v3, v4, v5, v6, v7, v8, v9, v10, v11, v12, v13, _⟩ := cs28 (blk_below HQE3.out hb4)
       rw [HKk.out] at v0
       have hwi : Hid (Ints (fun _ => True) .i64 W4 Aw L) := Lie.mono HL4.out (fun _ _ _ x => x) (fun _ _ => trivial) (fun _ _ _ => rfl)
       have hlw : L.length ≤ 9223372036854775807 := by
        have h1 : L.length ≤ e.proof.a.who.length := by
         rw [HLe.out]
         unfold slashWho
         split
         ·exact List.length_filter_le _ _
         ·exact Nat.zero_le _
        have h := HER3.out.f4.2
        unfold maxLen at h
        omega
       go_upto_region 16 with fail
       go_cut [17] (fun x w' => x = .int .i64 0 ∧ W4 = w')
       case first =>
        go_wp2
        go_meet
        case rel => exact ⟨rfl, rfl⟩
       case rest =>
        obtain ⟨rfl, rfl⟩ := hcut
        refine (show ∀ (a : Act) (w : World), Code.wp Try.prog (Code.seq (pth [1, 1, 1, 1, 1, 0, 1, 2, 3, 1, 1, 0, 2, 1, 1, 1, 1, 1, 1, 1, 0] ((Try.f4.body).getD .skip)) (pth [1, 1, 1, 1, 1, 0, 1, 2, 3, 1, 1, 0, 2, 1, 1, 1, 1, 1, 1, 1, 1] ((Try.f4.body).getD .skip))) _ a w → _ from by assumption) _ _ (wp_seq (votes_in3 HQE3 HV3 HVL hvn HKk hb4 HCH HIN HX hwi hlw ?_ ?_))
        ·exact fun _ _ _ _ _ h => h
        intro z6 z19 z20 z21 z22 z23 z96 z97 z98 z99 z100 z101 z102 z103 z104 z105 z106 z107 z108 z109 z110 z111 z112 z113 z114 z115 z116 z117 z118 z119 z120 z121 z122 z123 z124 z125 z126 z127 z128 z129 z130 z131 z132 z133 z134 z135 z136 z137 z138 z139 z140 z141 z142 z143 z144 z145 z146 z147 z148 z149 z150 z151 z152 z153 z154 z155 z156 z157 z158 z159 z160 z161 z162 z163 z164 z165 z166 z167 z168 z169 z170 z171 w5 hb45
        show Code.wp _ _ _ _ _
        conv in (pth _ _) => simp only [Try.f4, pth, Option.getD_some]
        go_wp2
        go_roundw
        case rel => exact ⟨j + 1, t, _, by go_num, by omega, HL3.out.below (below_then hb4 hb4.size hb45), HAc.out, blk_below HQ73.out (below_then hb4 hb4.size hb45)⟩
        case measure => simp [intOf]; omega
      ·rw [hk] at v0
       have her : errV n = .iface 105 (.int .i64 n) := by rw [errV, if_neg hn]
       rw [her]
       clear hvm hvb her hn hk HEw HCH HER3 HV3 HQE3
       go_wp2
       go_roundw
       case rel => exact ⟨j + 1, t, _, by go_num, by omega, HL3.out.below (Below.refl _ _), HAc.out, blk_below HQ73.out (Below.refl _ _)⟩
       case measure => simp [intOf]; omega
     ·clear hvm hvb HEw HCH HER3 HV3 HQE3
      by_cases hn : n = 0
      ·have her : errV n = .nilIface := by rw [errV, if_pos hn]
       rw [her]
       clear her hn
       go_wp2
       go_roundw
       case rel => exact ⟨j + 1, t, _, by go_num, by omega, HL3.out.below (Below.refl _ _), HAc.out, blk_below HQ73.out (Below.refl _ _)⟩
       case measure => simp [intOf]; omega
      ·have her : errV n = .iface 105 (.int .i64 n) := by rw [errV, if_neg hn]
       rw [her]
       clear her hn
       go_wp2
       go_roundw
       case rel => exact ⟨j + 1, t, _, by go_num, by omega, HL3.out.below (Below.refl _ _), HAc.out, blk_below HQ73.out (Below.refl _ _)⟩
       case measure => simp [intOf]; omega
  ·obtain ⟨_, _, _, hbw⟩ := hL
   obtain rfl : j = es.length := by omega
   go_wp2
   go_ret
   exact ⟨rfl, hbw⟩
end Go.Proofs.Ytnppimhlfcjghaa
