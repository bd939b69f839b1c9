import Derived.Test.YtnppimhlfcjghaaGreatPLaw
import Derived.Test.YtnppimhlfcjghaaGreatPFirst
import Derived.Test.YtnppimhlfcjghaaGreatPOpsK
import Derived.BigQuiet
set_option linter.all false
set_option linter.unusedVariables false
set_option linter.unusedSimpArgs false
namespace Go.Proofs.YtnppimhlfcjghaaGreat
open Go.RowKit
set_option maxRecDepth 100000
set_option maxHeartbeats 8000000
theorem CanonHead_calls (w : World) (A : Option Addr) (kn : Nat) (ns : List Int) (Ab : Option Addr) (kb : Nat) (bs : List Int) (sl : Int) (x y : Int) (hn : Ints anyB .u8 w A ns) (hf : Fits ns.length kn) (hnr : ∀ x ∈ ns, 0 ≤ x ∧ x < 256) (hb : Ints anyB .u8 w Ab bs) (hf2 : Fits bs.length kb) (hbr : ∀ x ∈ bs, 0 ≤ x ∧ x < 256) (hsl : (Lit.int .u8 sl).wf = true) (hx0' : (Lit.int .u64 x).wf = true) (hy0' : (Lit.int .u64 y).wf = true) :
    Calls Tryz.prog 5 #[.slice A ns.length kn, .slice Ab bs.length kb, .int .u8 sl, .int .u64 x, .int .u64 y] w fun e w' => e = .returned (.bool true) ∧ Below w.heap.size w w' := by
 have hx0 : 0 ≤ x ∧ x ≤ 18446744073709551615 := by simp [Lit.wf, IntKind.min, IntKind.max, IntKind.bits, IntKind.signed] at hx0'; omega
 have hy0 : 0 ≤ y ∧ y ≤ 18446744073709551615 := by simp [Lit.wf, IntKind.min, IntKind.max, IntKind.bits, IntKind.signed] at hy0'; omega
 have HX0 := Lib.hid hx0
 have HY0 := Lib.hid hy0
 clear hx0' hy0' hx0 hy0
 have hsl' : 0 ≤ sl ∧ sl < 256 := by simp [Lit.wf, IntKind.min, IntKind.max, IntKind.bits, IntKind.signed] at hsl; omega
 clear hsl
 go_enter Tryz.func5, Tryz.ntmps5
 go_upto_region 3 with (go_at_call 10; refine (awake20_calls _).mono ?_; rintro e w1 ⟨rfl, hb1⟩)
 have cC := Config_calls w1 bs Ab kb sl 40 (hb.below hb1) hbr hf2.2 hsl' (by omega)
 clear hb hf2 hbr
 go_upto_region 4 with (go_at_call 11; refine cC.mono ?_; rintro e w2 ⟨c, Ac, kc, rfl, hok, hcb, hb2⟩)
 have q7 := heap_new w2 (.cells #[.slice Ac c.bal.length kc, .int .i64 c.slots, .int .i64 c.boost] 27)
 have hb3 := below_alloc (Below.refl w2.heap.size w2) (.cells #[.slice Ac c.bal.length kc, .int .i64 c.slots, .int .i64 c.boost] 27)
 have hb13 : Below w.heap.size w (w2.alloc (.cells #[.slice Ac c.bal.length kc, .int .i64 c.slots, .int .i64 c.boost] 27)) := below_trans hb1 (below_trans hb2 hb3)
 have hcb3 : Ints anyB .u64 (w2.alloc (.cells #[.slice Ac c.bal.length kc, .int .i64 c.slots, .int .i64 c.boost] 27)) Ac c.bal := (Lie.any hcb : Ints anyB .u64 w2 Ac c.bal).below hb3
 have cS := SOf_calls (w2.alloc (.cells #[.slice Ac c.bal.length kc, .int .i64 c.slots, .int .i64 c.boost] 27)) c Ac kc hok hcb3
 clear cC hb1 hb2 hb3 hcb
 obtain ⟨y0, y1, y2⟩ := cs3 q7
 go_upto_region 5 with (first
  | (refine wpList_loadB rfl 27 (.tmp 11) rfl w2.heap.size [.slice Ac c.bal.length kc, .int .i64 c.slots, .int .i64 c.boost] q7 rfl _ Tryz.underlying27 rfl iCf ?_)
  | (go_at_call 12; refine cS.mono ?_; rintro e w4 ⟨p, k, vk, rfl, hS, hp, hb4⟩))
 have h4 := below_trans hb13 hb4
 have hpb : ∀ i ∈ p.all, w.heap.size ≤ i := fun i hi => by have := hp i hi; have := hb13.size; omega
 have q7' := blk_below q7 hb4
 have cM := Make_calls w4 c hok Ac kc (hcb3.below hb4) ns A kn (hn.below h4) hnr hf
 obtain ⟨_, _, _, x3, _⟩ := hS.cells
 clear cS y0 y1 y2 hb4 hcb3 hb13 q7 hp hn hf hnr
 obtain ⟨y0, y1, y2⟩ := cs3 q7'
 go_wp2_with (first
  | (refine wpList_loadB rfl 27 (.tmp 11) rfl w2.heap.size [.slice Ac c.bal.length kc, .int .i64 c.slots, .int .i64 c.boost] q7' rfl _ Tryz.underlying27 rfl iCf ?_)
  | (go_at_call 13; refine cM.mono ?_; rintro e w5 ⟨es, Ae, ce, rfl, hew, hel, hev, hb5⟩))
 have hL0 := LawRun.start hok h4 hS hpb hew hev hb5
 generalize hS1 : w4.heap.size = S1 at hL0
 generalize hS2 : w5.heap.size = S2 at hL0
 clear y0 y1 y2 x3 cM hS hpb hS1 hS2 hev hb5 h4 q7' hew
 go_loopw [45] (fun i wr => ∃ (j : Nat) (s : St) (ch : Value), i = .int .i64 j ∧ j ≤ es.length ∧ LawRun w S1 S2 p.sb Ae es s ch wr) (fun i _ => es.length - (intOf i).toNat)
 case atStart => exact ⟨0, St.of c, _, rfl, Nat.zero_le _, hL0⟩
 case round =>
  clear hL0
  obtain ⟨j, s, ch, rfl, hj, hL⟩ := hrel
  by_cases hlt : j < es.length
  ·have hg := List.getElem?_eq_getElem hlt
   generalize es[j] = e at hg
   have hR := hL.1
   obtain ⟨b, o, rfl, hbk, A1, c1, A2, c2, A3, c3, A4, c4, A5, c5, hER, hAT⟩ := hR.row.get hg
   have hew := hR.wf e (List.mem_of_getElem? hg)
   clear hg
   go_upto_region 10 with (first
    | (refine wpList_load_mid rfl 57 _ rfl _ _ rfl [.int .i64 e.kind, .int .i64 e.slot, .int .u64 e.block.root, .int .u64 e.block.parent, .int .i64 e.block.slot, .slice A1 e.block.votes.length c1, .slice A2 e.block.proofs.length c2, .int .i64 e.vote.slot, .int .u64 e.vote.head, .int .i64 e.vote.src.e, .int .u64 e.vote.src.r, .int .i64 e.vote.tgt.e, .int .u64 e.vote.tgt.r, .slice A3 e.vote.who.length c3, .int .i64 e.proof.a.slot, .int .u64 e.proof.a.head, .int .i64 e.proof.a.src.e, .int .u64 e.proof.a.src.r, .int .i64 e.proof.a.tgt.e, .int .u64 e.proof.a.tgt.r, .slice A4 e.proof.a.who.length c4, .int .i64 e.proof.b.slot, .int .u64 e.proof.b.head, .int .i64 e.proof.b.src.e, .int .u64 e.proof.b.src.r, .int .i64 e.proof.b.tgt.e, .int .u64 e.proof.b.tgt.r, .slice A5 e.proof.b.who.length c5] _ hAT Tryz.underlying57 rfl iEv ?_)
    | (refine wpList_box 57 15 _ (.tmp 48) [.int .i64 e.kind, .int .i64 e.slot, .int .u64 e.block.root, .int .u64 e.block.parent, .int .i64 e.block.slot, .slice A1 e.block.votes.length c1, .slice A2 e.block.proofs.length c2, .int .i64 e.vote.slot, .int .u64 e.vote.head, .int .i64 e.vote.src.e, .int .u64 e.vote.src.r, .int .i64 e.vote.tgt.e, .int .u64 e.vote.tgt.r, .slice A3 e.vote.who.length c3, .int .i64 e.proof.a.slot, .int .u64 e.proof.a.head, .int .i64 e.proof.a.src.e, .int .u64 e.proof.a.src.r, .int .i64 e.proof.a.tgt.e, .int .u64 e.proof.a.tgt.r, .slice A4 e.proof.a.who.length c4, .int .i64 e.proof.b.slot, .int .u64 e.proof.b.head, .int .i64 e.proof.b.src.e, .int .u64 e.proof.b.src.r, .int .i64 e.proof.b.tgt.e, .int .u64 e.proof.b.tgt.r, .slice A5 e.proof.b.who.length c5] rfl rfl rfl zEv rfl rfl iEv rfl ?_))
   have hba := below_alloc (Below.refl wr.heap.size wr) (.cells #[.int .i64 e.kind, .int .i64 e.slot, .int .u64 e.block.root, .int .u64 e.block.parent, .int .i64 e.block.slot, .slice A1 e.block.votes.length c1, .slice A2 e.block.proofs.length c2, .int .i64 e.vote.slot, .int .u64 e.vote.head, .int .i64 e.vote.src.e, .int .u64 e.vote.src.r, .int .i64 e.vote.tgt.e, .int .u64 e.vote.tgt.r, .slice A3 e.vote.who.length c3, .int .i64 e.proof.a.slot, .int .u64 e.proof.a.head, .int .i64 e.proof.a.src.e, .int .u64 e.proof.a.src.r, .int .i64 e.proof.a.tgt.e, .int .u64 e.proof.a.tgt.r, .slice A4 e.proof.a.who.length c4, .int .i64 e.proof.b.slot, .int .u64 e.proof.b.head, .int .i64 e.proof.b.src.e, .int .u64 e.proof.b.src.r, .int .i64 e.proof.b.tgt.e, .int .u64 e.proof.b.tgt.r, .slice A5 e.proof.b.who.length c5] 57)
   have qe := heap_new wr (.cells #[.int .i64 e.kind, .int .i64 e.slot, .int .u64 e.block.root, .int .u64 e.block.parent, .int .i64 e.block.slot, .slice A1 e.block.votes.length c1, .slice A2 e.block.proofs.length c2, .int .i64 e.vote.slot, .int .u64 e.vote.head, .int .i64 e.vote.src.e, .int .u64 e.vote.src.r, .int .i64 e.vote.tgt.e, .int .u64 e.vote.tgt.r, .slice A3 e.vote.who.length c3, .int .i64 e.proof.a.slot, .int .u64 e.proof.a.head, .int .i64 e.proof.a.src.e, .int .u64 e.proof.a.src.r, .int .i64 e.proof.a.tgt.e, .int .u64 e.proof.a.tgt.r, .slice A4 e.proof.a.who.length c4, .int .i64 e.proof.b.slot, .int .u64 e.proof.b.head, .int .i64 e.proof.b.src.e, .int .u64 e.proof.b.src.r, .int .i64 e.proof.b.tgt.e, .int .u64 e.proof.b.tgt.r, .slice A5 e.proof.b.who.length c5] 57)
   have hL1 := hL.below hba
   have hER1 := hER.below hba
   have hS2 : S2 ≤ wr.heap.size := hR.b.2.2
   clear hL hR hba hAT hER hbk
   have cA := hL1.1.apply hew hER1
   go_upto_region 11 with (first
    | (refine wpList_loadB rfl 57 (.tmp 15) rfl wr.heap.size [.int .i64 e.kind, .int .i64 e.slot, .int .u64 e.block.root, .int .u64 e.block.parent, .int .i64 e.block.slot, .slice A1 e.block.votes.length c1, .slice A2 e.block.proofs.length c2, .int .i64 e.vote.slot, .int .u64 e.vote.head, .int .i64 e.vote.src.e, .int .u64 e.vote.src.r, .int .i64 e.vote.tgt.e, .int .u64 e.vote.tgt.r, .slice A3 e.vote.who.length c3, .int .i64 e.proof.a.slot, .int .u64 e.proof.a.head, .int .i64 e.proof.a.src.e, .int .u64 e.proof.a.src.r, .int .i64 e.proof.a.tgt.e, .int .u64 e.proof.a.tgt.r, .slice A4 e.proof.a.who.length c4, .int .i64 e.proof.b.slot, .int .u64 e.proof.b.head, .int .i64 e.proof.b.src.e, .int .u64 e.proof.b.src.r, .int .i64 e.proof.b.tgt.e, .int .u64 e.proof.b.tgt.r, .slice A5 e.proof.b.who.length c5] qe rfl _ Tryz.underlying57 rfl iEv ?_)
    | (go_at_call 14; refine cA.mono ?_; rintro en W3 ⟨ch3, rfl, hR3, -, hk3, hx3⟩))
   have hL3 := hL1.step hew hR3 hx3
   clear cA hx3 hk3 hR3 hL1 hER1 qe hew
   generalize (applyS s e).1.1 = t at hL3
   go_wp2
   go_roundw
   case rel => exact ⟨j + 1, t, ch3, by go_num, by omega, hL3⟩
   case measure => simp [intOf]; omega
  ·obtain ⟨hR, _, _, hbw⟩ := hL
   obtain rfl : j = es.length := by omega
   have hok3 := hR.ok
   obtain ⟨q, k', vk', hsb, hS3, _⟩ := hR.run
   have cO := fun (W : World) (hW : Below wr.heap.size wr W) (h : Int) => Of_calls (hS3.below hW) (num_ok hok3) h
   rw [hsb] at cO
   have hl8 : ∀ h, (bes (canonL s h)).length = 8 * (8 + 3 * s.tree.nodes.length + 1 + 4 * s.votes.length) := fun h => by rw [bes_length, canonL_length]
   have hl1 := hok3.t.len
   have hl2 := hok3.c.l2
   have hl3 := hok3.vl
   have HD := Lib.hid (fun hne => head_diff HX0.out HY0.out hne s)
   have HT := Lib.hid (fun h => canonT_drop s h)
   have hlt8 : ∀ h, (canonT s).length = (bes (canonL s h)).length - 8 := fun h => by rw [← canonT_drop s h, List.length_drop]
   have HL8 := Lib.hid hl8
   have HLT := Lib.hid hlt8
   have HL3 := Lib.hid hl3
   clear hR hS3 hok3 hl8 hlt8 hl3
   go_wp2_with fail
   refine (cO _ (Below.refl _ _) x).mono ?_
   rintro en W4 ⟨A4, c4, rfl, hI4, hb4, hf4⟩
   go_wp2_with fail
   refine (cO _ hb4 y).mono ?_
   rintro en W5 ⟨A5, c5, rfl, hI5, hb5, hf5⟩
   have hI4' := hI4.below hb5
   have hbw5 := below_then hbw hbw.size (below_then hb4 hb4.size hb5)
   clear cO hI4
   by_cases hxy : x = y
   ·subst hxy
    have fx := run_str (c := c4) hI4' rfl
    have fy := run_str (c := c5) hI5 rfl
    generalize strOfNums (bes (canonL s x)) = S1 at fx fy
    have hs := str_beq_self S1
    clear hI4' hI5 HD HT hf4 hf5
    go_wp2
    go_ret
    exact ⟨rfl, hbw5⟩
   ·have hb0 : (x == y) = false := by simp [hxy]
    have hd := HD.out hxy
    have hbx := cb_bytes (canonL s x)
    have hl8 := HL8.out
    have hlt8 := HLT.out
    have hl3 := HL3.out
    have cD := Differ_calls W5 A4 c4 (bes (canonL s x)) A5 c5 (bes (canonL s y)) hI4' hI5 hf4 (by rw [hl8]; unfold maxLen; omega) hbx
    rw [hd] at cD
    have hpx : 0 < (bes (canonL s x)).length := by rw [hl8]; omega
    have hpy : 0 < (bes (canonL s y)).length := by rw [hl8]; omega
    obtain ⟨b4, o4, rfl, -, -⟩ := hI4'.get hpx
    obtain ⟨b5, o5, rfl, -, -⟩ := hI5.get hpy
    have jx := hI4'.drop (m := 8) hpx
    have jy := hI5.drop (m := 8) hpy
    rw [HT.out] at jx jy
    have ex := hlt8 x
    have ey := hlt8 y
    have gx := hl8 x
    have gy := hl8 y
    have hm1 := hf4.1
    have hm2 := hf5.1
    generalize bes (canonL s x) = xs at *
    generalize bes (canonL s y) = ys at *
    generalize canonT s = ts at *
    have hcx : ∀ W, Below W5.heap.size W5 W → (convert 22 9 (.slice (some ⟨b4, o4 + 8, none⟩) (xs.length - 8) (c4 - 8))).run Tryz.prog W = .ok (.string (strOfNums ts)) W := fun W h => run_str (jx.below h) ex
    have hcy : ∀ W, Below W5.heap.size W5 W → (convert 22 9 (.slice (some ⟨b5, o5 + 8, none⟩) (ys.length - 8) (c5 - 8))).run Tryz.prog W = .ok (.string (strOfNums ts)) W := fun W h => run_str (jy.below h) ey
    generalize strOfNums ts = S1 at hcx hcy
    have g1 : decide (8 < (xs.length : Int)) = true := by simp; omega
    have g2 : decide (8 < (ys.length : Int)) = true := by simp; omega
    have hx8 : (8 : Int) ≤ (xs.length : Int) := by omega
    have hy8 : (8 : Int) ≤ (ys.length : Int) := by omega
    have k4 : ¬ c4 = 8 := by omega
    have k5 : ¬ c5 = 8 := by omega
    have hd5 : Below W5.heap.size W5 W5.drew := (Below.refl _ _).drew
    have hs := str_beq_self S1
    have cD' : Calls Tryz.prog 19 #[.slice (some ⟨b4, o4, none⟩) xs.length c4, .slice (some ⟨b5, o5, none⟩) ys.length c5] W5.drew fun e w' => e = .returned (.string ⟨#[104, 101, 97, 100]⟩) ∧ Below W5.drew.heap.size W5.drew w' := by
     have := Differ_calls W5.drew (some ⟨b4, o4, none⟩) c4 xs (some ⟨b5, o5, none⟩) c5 ys (hI4'.below hd5) (hI5.below hd5) hf4 (by rw [gy]; unfold maxLen; omega) hbx
     rw [hd] at this
     exact this
    clear cD hd HD HT hl8 hlt8 jx jy hI4' hI5 hbx hl1 hl2 hl3 ex ey gx gy hf4 hf5 hb4 hb5
    go_upto_region 15 with fail
    refine wp_region_held_drew (S := fun w' => (convert 22 9 (.slice (some ⟨b4, o4 + 8, none⟩) (xs.length - 8) (c4 - 8))).run Tryz.prog w' = .ok (.string S1) w' ∧ (convert 22 9 (.slice (some ⟨b5, o5 + 8, none⟩) (ys.length - 8) (c5 - 8))).run Tryz.prog w' = .ok (.string S1) w') (by kernel_rfl) (⟨hcx _ hd5, hcy _ hd5⟩) (fun hHeld => ?_)
    refine tW 0 70 hHeld ?_
    refine tW 1 71 hHeld ?_
    refine tW 2 72 hHeld ?_
    refine tW 3 73 hHeld ?_
    refine tW 4 74 hHeld ?_
    refine tW 5 75 hHeld ?_
    refine tW 6 76 hHeld ?_
    refine tW 7 77 hHeld ?_
    refine tW 8 78 hHeld ?_
    refine tW 9 79 hHeld ?_
    refine tW 10 80 hHeld ?_
    refine wpAnyH_ready (rs := [11]) (by kernel_rfl) (by simp) ?_
    refine AllReadyH.cons rfl (fun K hK => ?_) AllReadyH.nil
    go_simp
    refine cD'.mono ?_
    rintro en W6 ⟨rfl, hb6⟩
    have hb6' := hd5.trans (hb6.mono hd5.size)
    refine hK.out _ _ (⟨hcx _ hb6', hcy _ hb6'⟩) (fun hHeld => ?_)
    clear hK K
    try simp only [Act.put, sA, sB, sC]
    refine tW 12 82 hHeld ?_
    refine tW 13 83 hHeld ?_
    refine tW 14 84 hHeld ?_
    refine tW 15 85 hHeld ?_
    refine tW 16 86 hHeld ?_
    refine tW 17 87 hHeld ?_
    refine tW 18 88 hHeld ?_
    refine tW 19 89 hHeld ?_
    refine tW 20 90 hHeld ?_
    refine tW 21 91 hHeld ?_
    refine tW 22 92 hHeld ?_
    refine tW 23 10 hHeld ?_
    refine wpAnyH_done (by kernel_rfl) ?_ _
    go_wp2
    go_ret
    exact ⟨by first | rfl | simp, below_then hbw5 hbw5.size hb6'⟩
end Go.Proofs.YtnppimhlfcjghaaGreat
