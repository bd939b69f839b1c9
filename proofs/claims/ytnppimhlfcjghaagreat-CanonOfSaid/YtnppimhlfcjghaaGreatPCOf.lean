import Derived.Test.YtnppimhlfcjghaaGreatPLaw
import Derived.Test.YtnppimhlfcjghaaGreatPFirst
import Derived.Test.YtnppimhlfcjghaaGreatPWant
import Derived.Test.YtnppimhlfcjghaaGreatPOpsK
import Derived.Test.YtnppimhlfcjghaaGreatPOps2
import Derived.BigQuiet
set_option linter.all false
set_option linter.unusedVariables false
set_option linter.unusedSimpArgs false
namespace Go.Proofs.YtnppimhlfcjghaaGreat
open Go.RowKit
set_option maxRecDepth 100000
set_option maxHeartbeats 8000000
theorem str_bne (s : ByteArray) : (s != s) = false := by rw [bne, str_beq_self]; rfl
theorem below_drewX {w : World} : Below w.heap.size w w.drew := (Below.refl _ _).drew
theorem CanonOf_calls (w : World) (A : Option Addr) (kn : Nat) (ns : List Int) (Ab : Option Addr) (kb : Nat) (bs : List Int) (sl : Int) (x : Int) (hn : Ints anyB .u8 w A ns) (hf : Fits ns.length kn) (hnr : ∀ x ∈ ns, 0 ≤ x ∧ x < 256) (hb : Ints anyB .u8 w Ab bs) (hf2 : Fits bs.length kb) (hbr : ∀ x ∈ bs, 0 ≤ x ∧ x < 256) (hsl : (Lit.int .u8 sl).wf = true) (hx0 : (Lit.int .u64 x).wf = true) :
    Calls Tryz.prog 3 #[.slice A ns.length kn, .slice Ab bs.length kb, .int .u8 sl, .int .u64 x] w fun e w' => e = .returned (.bool true) ∧ Below w.heap.size w w' := by
 clear hx0
 have hsl' : 0 ≤ sl ∧ sl < 256 := by simp [Lit.wf, IntKind.min, IntKind.max, IntKind.bits, IntKind.signed] at hsl; omega
 clear hsl
 go_enter Tryz.func3, Tryz.ntmps3
 go_upto_region 3 with (go_at_call 10; refine (awake20_calls _).mono ?_; rintro e w1 ⟨rfl, hb1⟩)
 have cC := Config_calls w1 bs Ab kb sl 40 (hb.below hb1) hbr hf2.2 hsl' (by omega)
 clear hb hf2 hbr
 go_upto_region 4 with (go_at_call 11; refine cC.mono ?_; rintro e w2 ⟨c, Ac, kc, rfl, hok, hcb, hb2⟩)
 have q7 := heap_new w2 (.cells #[.slice Ac c.bal.length kc, .int .i64 c.slots, .int .i64 c.boost] 27)
 have hb3 := below_alloc (Below.refl w2.heap.size w2) (.cells #[.slice Ac c.bal.length kc, .int .i64 c.slots, .int .i64 c.boost] 27)
 have hb13 : Below w.heap.size w (w2.alloc (.cells #[.slice Ac c.bal.length kc, .int .i64 c.slots, .int .i64 c.boost] 27)) := below_trans hb1 (below_trans hb2 hb3)
 have hcb3 : Ints anyB .u64 (w2.alloc (.cells #[.slice Ac c.bal.length kc, .int .i64 c.slots, .int .i64 c.boost] 27)) Ac c.bal := (Lie.any hcb : Ints anyB .u64 w2 Ac c.bal).below hb3
 have cS := SOf_calls (w2.alloc (.cells #[.slice Ac c.bal.length kc, .int .i64 c.slots, .int .i64 c.boost] 27)) c Ac kc hok hcb3
 clear cC hb1 hb2 hb3 hcb
 obtain ⟨y0, y1, y2⟩ := cs3 q7
 go_upto_region 5 with (first
  | (refine wpList_loadB rfl 27 (.tmp 9) rfl w2.heap.size [.slice Ac c.bal.length kc, .int .i64 c.slots, .int .i64 c.boost] q7 rfl _ Tryz.underlying27 rfl iCf ?_)
  | (go_at_call 12; refine cS.mono ?_; rintro e w4 ⟨p, k, vk, rfl, hS, hp, hb4⟩))
 have h4 := below_trans hb13 hb4
 have hpb : ∀ i ∈ p.all, w.heap.size ≤ i := fun i hi => by have := hp i hi; have := hb13.size; omega
 have q7' := blk_below q7 hb4
 have cM := Make_calls w4 c hok Ac kc (hcb3.below hb4) ns A kn (hn.below h4) hnr hf
 obtain ⟨_, _, _, x3, _⟩ := hS.cells
 clear cS y0 y1 y2 hb4 hcb3 hb13 q7 hp hn hf hnr
 obtain ⟨y0, y1, y2⟩ := cs3 q7'
 go_wp2_with (first
  | (refine wpList_loadB rfl 27 (.tmp 9) rfl w2.heap.size [.slice Ac c.bal.length kc, .int .i64 c.slots, .int .i64 c.boost] q7' rfl _ Tryz.underlying27 rfl iCf ?_)
  | (go_at_call 13; refine cM.mono ?_; rintro e w5 ⟨es, Ae, ce, rfl, hew, hel, hev, hb5⟩))
 have hL0 := LawRun.start hok h4 hS hpb hew hev hb5
 generalize hS1 : w4.heap.size = S1 at hL0
 generalize hS2 : w5.heap.size = S2 at hL0
 clear y0 y1 y2 x3 cM hS hpb hS1 hS2 hev hb5 h4 q7' hew
 go_loopw [41] (fun i wr => ∃ (j : Nat) (s : St) (ch : Value), i = .int .i64 j ∧ j ≤ es.length ∧ LawRun w S1 S2 p.sb Ae es s ch wr) (fun i _ => es.length - (intOf i).toNat)
 case atStart => exact ⟨0, St.of c, _, rfl, Nat.zero_le _, hL0⟩
 case round =>
  clear hL0
  obtain ⟨j, s, ch, rfl, hj, hL⟩ := hrel
  by_cases hlt : j < es.length
  ·have hg := List.getElem?_eq_getElem hlt
   generalize es[j] = e at hg
   have hR := hL.1
   obtain ⟨b, o, rfl, hbk, A1, c1, A2, c2, A3, c3, A4, c4, A5, c5, hER, hAT⟩ := hR.row.get hg
   have hew := hR.wf e (List.mem_of_getElem? hg)
   clear hg
   go_upto_region 10 with (first
    | (refine wpList_load_mid rfl 57 _ rfl _ _ rfl [.int .i64 e.kind, .int .i64 e.slot, .int .u64 e.block.root, .int .u64 e.block.parent, .int .i64 e.block.slot, .slice A1 e.block.votes.length c1, .slice A2 e.block.proofs.length c2, .int .i64 e.vote.slot, .int .u64 e.vote.head, .int .i64 e.vote.src.e, .int .u64 e.vote.src.r, .int .i64 e.vote.tgt.e, .int .u64 e.vote.tgt.r, .slice A3 e.vote.who.length c3, .int .i64 e.proof.a.slot, .int .u64 e.proof.a.head, .int .i64 e.proof.a.src.e, .int .u64 e.proof.a.src.r, .int .i64 e.proof.a.tgt.e, .int .u64 e.proof.a.tgt.r, .slice A4 e.proof.a.who.length c4, .int .i64 e.proof.b.slot, .int .u64 e.proof.b.head, .int .i64 e.proof.b.src.e, .int .u64 e.proof.b.src.r, .int .i64 e.proof.b.tgt.e, .int .u64 e.proof.b.tgt.r, .slice A5 e.proof.b.who.length c5] _ hAT Tryz.underlying57 rfl iEv ?_)
    | (refine wpList_box 57 13 _ (.tmp 44) [.int .i64 e.kind, .int .i64 e.slot, .int .u64 e.block.root, .int .u64 e.block.parent, .int .i64 e.block.slot, .slice A1 e.block.votes.length c1, .slice A2 e.block.proofs.length c2, .int .i64 e.vote.slot, .int .u64 e.vote.head, .int .i64 e.vote.src.e, .int .u64 e.vote.src.r, .int .i64 e.vote.tgt.e, .int .u64 e.vote.tgt.r, .slice A3 e.vote.who.length c3, .int .i64 e.proof.a.slot, .int .u64 e.proof.a.head, .int .i64 e.proof.a.src.e, .int .u64 e.proof.a.src.r, .int .i64 e.proof.a.tgt.e, .int .u64 e.proof.a.tgt.r, .slice A4 e.proof.a.who.length c4, .int .i64 e.proof.b.slot, .int .u64 e.proof.b.head, .int .i64 e.proof.b.src.e, .int .u64 e.proof.b.src.r, .int .i64 e.proof.b.tgt.e, .int .u64 e.proof.b.tgt.r, .slice A5 e.proof.b.who.length c5] rfl rfl rfl zEv rfl rfl iEv rfl ?_))
   have hba := below_alloc (Below.refl wr.heap.size wr) (.cells #[.int .i64 e.kind, .int .i64 e.slot, .int .u64 e.block.root, .int .u64 e.block.parent, .int .i64 e.block.slot, .slice A1 e.block.votes.length c1, .slice A2 e.block.proofs.length c2, .int .i64 e.vote.slot, .int .u64 e.vote.head, .int .i64 e.vote.src.e, .int .u64 e.vote.src.r, .int .i64 e.vote.tgt.e, .int .u64 e.vote.tgt.r, .slice A3 e.vote.who.length c3, .int .i64 e.proof.a.slot, .int .u64 e.proof.a.head, .int .i64 e.proof.a.src.e, .int .u64 e.proof.a.src.r, .int .i64 e.proof.a.tgt.e, .int .u64 e.proof.a.tgt.r, .slice A4 e.proof.a.who.length c4, .int .i64 e.proof.b.slot, .int .u64 e.proof.b.head, .int .i64 e.proof.b.src.e, .int .u64 e.proof.b.src.r, .int .i64 e.proof.b.tgt.e, .int .u64 e.proof.b.tgt.r, .slice A5 e.proof.b.who.length c5] 57)
   have qe := heap_new wr (.cells #[.int .i64 e.kind, .int .i64 e.slot, .int .u64 e.block.root, .int .u64 e.block.parent, .int .i64 e.block.slot, .slice A1 e.block.votes.length c1, .slice A2 e.block.proofs.length c2, .int .i64 e.vote.slot, .int .u64 e.vote.head, .int .i64 e.vote.src.e, .int .u64 e.vote.src.r, .int .i64 e.vote.tgt.e, .int .u64 e.vote.tgt.r, .slice A3 e.vote.who.length c3, .int .i64 e.proof.a.slot, .int .u64 e.proof.a.head, .int .i64 e.proof.a.src.e, .int .u64 e.proof.a.src.r, .int .i64 e.proof.a.tgt.e, .int .u64 e.proof.a.tgt.r, .slice A4 e.proof.a.who.length c4, .int .i64 e.proof.b.slot, .int .u64 e.proof.b.head, .int .i64 e.proof.b.src.e, .int .u64 e.proof.b.src.r, .int .i64 e.proof.b.tgt.e, .int .u64 e.proof.b.tgt.r, .slice A5 e.proof.b.who.length c5] 57)
   have hL1 := hL.below hba
   have hER1 := hER.below hba
   have hS2 : S2 ≤ wr.heap.size := hR.b.2.2
   clear hL hR hba hAT hER hbk
   have cA := hL1.1.apply hew hER1
   go_upto_region 11 with (first
    | (refine wpList_loadB rfl 57 (.tmp 13) rfl wr.heap.size [.int .i64 e.kind, .int .i64 e.slot, .int .u64 e.block.root, .int .u64 e.block.parent, .int .i64 e.block.slot, .slice A1 e.block.votes.length c1, .slice A2 e.block.proofs.length c2, .int .i64 e.vote.slot, .int .u64 e.vote.head, .int .i64 e.vote.src.e, .int .u64 e.vote.src.r, .int .i64 e.vote.tgt.e, .int .u64 e.vote.tgt.r, .slice A3 e.vote.who.length c3, .int .i64 e.proof.a.slot, .int .u64 e.proof.a.head, .int .i64 e.proof.a.src.e, .int .u64 e.proof.a.src.r, .int .i64 e.proof.a.tgt.e, .int .u64 e.proof.a.tgt.r, .slice A4 e.proof.a.who.length c4, .int .i64 e.proof.b.slot, .int .u64 e.proof.b.head, .int .i64 e.proof.b.src.e, .int .u64 e.proof.b.src.r, .int .i64 e.proof.b.tgt.e, .int .u64 e.proof.b.tgt.r, .slice A5 e.proof.b.who.length c5] qe rfl _ Tryz.underlying57 rfl iEv ?_)
    | (go_at_call 14; refine cA.mono ?_; rintro en W3 ⟨ch3, rfl, hR3, -, hk3, hx3⟩))
   have hL3 := hL1.step hew hR3 hx3
   clear cA hx3 hk3 hR3 hL1 hER1 qe hew
   generalize (applyS s e).1.1 = t at hL3
   obtain ⟨q, k', vk', hsb, hS3, _⟩ := hL3.1.run
   have hnum := num_ok hL3.1.ok
   have cO := fun (W' : World) (hW : Below W3.heap.size W3 W') => Of_calls (hS3.below hW) hnum x
   have cN := fun (W' : World) (hW : Below W3.heap.size W3 W') => Want_calls (hS3.below hW) hnum x
   rw [hsb] at cO cN
   have HL3 := Lib.hid hL3
   clear hS3 hnum hL3
   generalize bes (canonL t x) = xs at cO cN
   have HST : ∀ (W' : World) (A : Option Addr) (c : Nat), Ints anyB .u8 W' A xs → (convert 22 9 (.slice A xs.length c)).run Tryz.prog W' = .ok (.string (strOfNums xs)) W' := fun W' A c h => run_str h rfl
   generalize strOfNums xs = S1 at HST
   have hs := str_bne S1
   have hs2 := str_beq_self S1
   have HS := Lib.hid HST
   clear HST
   have hD : Below W3.heap.size W3 W3.drew := below_drewX
   skip
   refine wp_region_held_drew (S := fun _ => True) (by kernel_rfl) trivial (fun hHeld => ?_)
   refine tW 0 51 hHeld ?_
   refine tW 1 52 hHeld ?_
   refine tW 4 55 hHeld ?_
   refine tW 5 56 hHeld ?_
   refine wpAnyH_ready (rs := [2]) (by kernel_rfl) (by simp) ?_
   refine AllReadyH.cons rfl (fun K hK => ?_) AllReadyH.nil
   go_simp
   refine (cO _ hD).mono ?_
   rintro en W4 ⟨A4, c4, rfl, hI4, hb4, -⟩
   have hb4' := hD.trans (hb4.mono hD.size)
   have HI4 := Lib.hid hI4
   clear hI4
   have hc4 := fun (W' : World) (hW : Below W4.heap.size W4 W') => HS.out W' A4 c4 (HI4.out.below hW)
   refine hK.out _ _ trivial (fun hHeld => ?_)
   clear hK K
   try simp only [Act.put, sA, sB, sC]
   refine wpAnyH_stronger (S2 := fun w' => (convert 22 9 (.slice A4 xs.length c4)).run Tryz.prog w' = .ok (.string S1) w') (fun _ _ => trivial) _ _ _ _ ?_
   clear hHeld
   have hHeld := hc4 _ (Below.refl _ _)
   refine tW 3 54 hHeld ?_
   refine wpAnyH_ready (rs := [6]) (by kernel_rfl) (by simp) ?_
   refine AllReadyH.cons rfl (fun K hK => ?_) AllReadyH.nil
   go_simp
   refine (cN _ hb4').mono ?_
   rintro en W5 ⟨A5, c5, rfl, hI5, hb5, -⟩
   have hb5' := hb4'.trans (hb5.mono hb4'.size)
   have HI5 := Lib.hid hI5
   clear hI5
   refine hK.out _ _ (hc4 _ hb5) (fun hHeld => ?_)
   clear hK K
   try simp only [Act.put, sA, sB, sC]
   refine wpAnyH_stronger (S2 := fun w' => ((convert 22 9 (.slice A4 xs.length c4)).run Tryz.prog w' = .ok (.string S1) w') ∧ (convert 22 9 (.slice A5 xs.length c5)).run Tryz.prog w' = .ok (.string S1) w') (fun _ h => h.1) _ _ _ _ ?_
   clear hHeld
   have hHeld : ((convert 22 9 (.slice A4 xs.length c4)).run Tryz.prog W5 = .ok (.string S1) W5) ∧ (convert 22 9 (.slice A5 xs.length c5)).run Tryz.prog W5 = .ok (.string S1) W5 := ⟨hc4 _ hb5, HS.out _ A5 c5 HI5.out⟩
   refine tW 7 58 hHeld ?_
   refine tW 8 59 hHeld ?_
   refine wpAnyH_done (by kernel_rfl) ?_ _
   go_wp2
   go_roundw
   case rel => exact ⟨j + 1, t, ch3, by go_num, by omega, HL3.out.below hb5'⟩
   case measure => simp [intOf]; omega
  ·obtain rfl : j = es.length := by omega
   go_upto_region 14 with fail
   have hbw := hL.2.2.2
   obtain ⟨q, k', vk', hsb, hS3, _⟩ := hL.1.run
   have hnum := num_ok hL.1.ok
   have cO := fun (W' : World) (hW : Below wr.heap.size wr W') => Of_calls (hS3.below hW) hnum x
   have cN := fun (W' : World) (hW : Below wr.heap.size wr W') => Want_calls (hS3.below hW) hnum x
   rw [hsb] at cO cN
   have HL3 := Lib.hid hL
   clear hS3 hnum hL
   generalize bes (canonL s x) = xs at cO cN
   have HST : ∀ (W' : World) (A : Option Addr) (c : Nat), Ints anyB .u8 W' A xs → (convert 22 9 (.slice A xs.length c)).run Tryz.prog W' = .ok (.string (strOfNums xs)) W' := fun W' A c h => run_str h rfl
   generalize strOfNums xs = S1 at HST
   have hs := str_bne S1
   have hs2 := str_beq_self S1
   have HS := Lib.hid HST
   clear HST
   have hD : Below wr.heap.size wr wr.drew := below_drewX
   refine wp_region_held_drew (S := fun _ => True) (by kernel_rfl) trivial (fun hHeld => ?_)
   refine tW 0 61 hHeld ?_
   refine tW 1 62 hHeld ?_
   refine tW 4 65 hHeld ?_
   refine tW 5 66 hHeld ?_
   refine wpAnyH_ready (rs := [2]) (by kernel_rfl) (by simp) ?_
   refine AllReadyH.cons rfl (fun K hK => ?_) AllReadyH.nil
   go_simp
   refine (cO _ hD).mono ?_
   rintro en W4 ⟨A4, c4, rfl, hI4, hb4, -⟩
   have hb4' := hD.trans (hb4.mono hD.size)
   have HI4 := Lib.hid hI4
   clear hI4
   have hc4 := fun (W' : World) (hW : Below W4.heap.size W4 W') => HS.out W' A4 c4 (HI4.out.below hW)
   refine hK.out _ _ trivial (fun hHeld => ?_)
   clear hK K
   try simp only [Act.put, sA, sB, sC]
   refine wpAnyH_stronger (S2 := fun w' => (convert 22 9 (.slice A4 xs.length c4)).run Tryz.prog w' = .ok (.string S1) w') (fun _ _ => trivial) _ _ _ _ ?_
   clear hHeld
   have hHeld := hc4 _ (Below.refl _ _)
   refine tW 3 64 hHeld ?_
   refine wpAnyH_ready (rs := [6]) (by kernel_rfl) (by simp) ?_
   refine AllReadyH.cons rfl (fun K hK => ?_) AllReadyH.nil
   go_simp
   refine (cN _ hb4').mono ?_
   rintro en W5 ⟨A5, c5, rfl, hI5, hb5, -⟩
   have hb5' := hb4'.trans (hb5.mono hb4'.size)
   have HI5 := Lib.hid hI5
   clear hI5
   refine hK.out _ _ (hc4 _ hb5) (fun hHeld => ?_)
   clear hK K
   try simp only [Act.put, sA, sB, sC]
   refine wpAnyH_stronger (S2 := fun w' => ((convert 22 9 (.slice A4 xs.length c4)).run Tryz.prog w' = .ok (.string S1) w') ∧ (convert 22 9 (.slice A5 xs.length c5)).run Tryz.prog w' = .ok (.string S1) w') (fun _ h => h.1) _ _ _ _ ?_
   clear hHeld
   have hHeld : ((convert 22 9 (.slice A4 xs.length c4)).run Tryz.prog W5 = .ok (.string S1) W5) ∧ (convert 22 9 (.slice A5 xs.length c5)).run Tryz.prog W5 = .ok (.string S1) W5 := ⟨hc4 _ hb5, HS.out _ A5 c5 HI5.out⟩
   refine tW 7 68 hHeld ?_
   refine tW 8 69 hHeld ?_
   refine tW 9 8 hHeld ?_
   refine wpAnyH_done (by kernel_rfl) ?_ _
   go_wp2
   go_ret
   exact ⟨by first | rfl | simp, below_then hbw hbw.size hb5'⟩
end Go.Proofs.YtnppimhlfcjghaaGreat
