import Derived.Test.YtnppimhlfcjghaaGreatPSortNil
set_option linter.all false
set_option linter.unusedVariables false
set_option linter.unusedSimpArgs false
namespace Go.Proofs.YtnppimhlfcjghaaGreat
open Go.RowKit
set_option maxRecDepth 100000
set_option maxHeartbeats 8000000
theorem whoOk_len {n : Int} {who : List Int} (h : whoOk n who = true) : (who.length : Int) ≤ max 0 n := by
 have h1 : ∀ k, k < who.length → (k : Int) ≤ who.getD k 0 := by
  intro k
  induction k with
  | zero => intro hk; exact (whoOk_get h hk).1
  | succ k ih =>
   intro hk
   have a := ih (by omega)
   have b := (whoOk_get h hk).2.2 (by omega)
   rw [Nat.add_sub_cancel] at b
   omega
 rcases Nat.eq_zero_or_pos who.length with e | e
 ·omega
 ·have a := h1 (who.length - 1) (by omega)
  have b := (whoOk_get h (k := who.length - 1) (by omega)).2.1
  omega
theorem Who_calls (w : World) (c : Cf) (A : Option Addr) (k : Nat) (p : Pf) (A1 : Option Addr) (k1 : Nat) (A2 : Option Addr) (k2 : Nat) (hok : c.ok) (wa : p.a.wf) (wb : p.b.wf) (la : p.a.who.length ≤ maxLen) (lb : p.b.who.length ≤ maxLen) (ha : Ints anyB .i64 w A1 p.a.who) (hb : Ints anyB .i64 w A2 p.b.who) :
    Calls Tryz.prog 67 #[cfC c A k, .agg #[.int .i64 p.a.slot, .int .u64 p.a.head, .int .i64 p.a.src.e, .int .u64 p.a.src.r, .int .i64 p.a.tgt.e, .int .u64 p.a.tgt.r, .slice A1 p.a.who.length k1, .int .i64 p.b.slot, .int .u64 p.b.head, .int .i64 p.b.src.e, .int .u64 p.b.src.r, .int .i64 p.b.tgt.e, .int .u64 p.b.tgt.r, .slice A2 p.b.who.length k2]] w (RetWho (slashWho c p) w.heap.size w) := by
 obtain ⟨q0, q1, hbw, hsz⟩ := alloc2 w (.cells #[.slice A c.bal.length k, .int .i64 c.slots, .int .i64 c.boost] 27) (.cells #[.int .i64 p.a.slot, .int .u64 p.a.head, .int .i64 p.a.src.e, .int .u64 p.a.src.r, .int .i64 p.a.tgt.e, .int .u64 p.a.tgt.r, .slice A1 p.a.who.length k1, .int .i64 p.b.slot, .int .u64 p.b.head, .int .i64 p.b.src.e, .int .u64 p.b.src.r, .int .i64 p.b.tgt.e, .int .u64 p.b.tgt.r, .slice A2 p.b.who.length k2] 55)
 have ha1 := ha.below hbw
 have hb1 := hb.below hbw
 clear ha hb
 go_enter Tryz.func67, Tryz.ntmps67
 go_upto_region 1 with fail
 generalize World.alloc (World.alloc w _) _ = W0 at q0 q1 hbw hsz ha1 hb1 ⊢
 generalize hB : w.heap.size = B at q0 q1 hbw hsz ⊢
 have HB := Lib.hid hB
 have hBs : B ≤ W0.heap.size := by omega
 clear hB
 have cA : ∀ W, Below W0.heap.size W0 W → Calls Tryz.prog 63 #[.agg #[.slice A c.bal.length k, .int .i64 c.slots, .int .i64 c.boost], .agg #[.int .i64 p.a.slot, .int .u64 p.a.head, .int .i64 p.a.src.e, .int .u64 p.a.src.r, .int .i64 p.a.tgt.e, .int .u64 p.a.tgt.r, .slice A1 p.a.who.length k1]] W fun e w' => e = .returned (.bool (rightB c p.a)) ∧ Below W.heap.size W w' := fun W hW => Right_calls W c A k p.a A1 k1 hok wa la (ha1.below hW)
 have cB : ∀ W, Below W0.heap.size W0 W → Calls Tryz.prog 63 #[.agg #[.slice A c.bal.length k, .int .i64 c.slots, .int .i64 c.boost], .agg #[.int .i64 p.b.slot, .int .u64 p.b.head, .int .i64 p.b.src.e, .int .u64 p.b.src.r, .int .i64 p.b.tgt.e, .int .u64 p.b.tgt.r, .slice A2 p.b.who.length k2]] W fun e w' => e = .returned (.bool (rightB c p.b)) ∧ Below W.heap.size W w' := fun W hW => Right_calls W c A k p.b A2 k2 hok wb lb (hb1.below hW)
 have cD : ∀ W, Below W0.heap.size W0 W → Calls Tryz.prog 81 #[.agg #[.int .i64 p.a.slot, .int .u64 p.a.head, .int .i64 p.a.src.e, .int .u64 p.a.src.r, .int .i64 p.a.tgt.e, .int .u64 p.a.tgt.r, .slice A1 p.a.who.length k1], .agg #[.int .i64 p.b.slot, .int .u64 p.b.head, .int .i64 p.b.src.e, .int .u64 p.b.src.r, .int .i64 p.b.tgt.e, .int .u64 p.b.tgt.r, .slice A2 p.b.who.length k2]] W fun e w' => e = .returned (.bool (badB p.a p.b)) ∧ Below W.heap.size W w' := fun W _ => Bad_calls W p.a p.b A1 k1 A2 k2
 have l2 := hok.l2
 have cE : rightB c p.a = true → rightB c p.b = true → ∀ W, Below W0.heap.size W0 W → Calls Tryz.prog 82 #[.agg #[.int .i64 p.a.slot, .int .u64 p.a.head, .int .i64 p.a.src.e, .int .u64 p.a.src.r, .int .i64 p.a.tgt.e, .int .u64 p.a.tgt.r, .slice A1 p.a.who.length k1], .agg #[.int .i64 p.b.slot, .int .u64 p.b.head, .int .i64 p.b.src.e, .int .u64 p.b.src.r, .int .i64 p.b.tgt.e, .int .u64 p.b.tgt.r, .slice A2 p.b.who.length k2]] W (RetInts .i64 (bothL p.a p.b) W.heap.size W) := fun h1 h2 W hW =>
  Both_calls W p.a p.b A1 k1 A2 k2 (ha1.below hW) (hb1.below hW) (by have := whoOk_len (rightB_who h1); omega) (by have := whoOk_len (rightB_who h2); omega) (whoOk_sorted (rightB_who h1))
 have HS : Hid (slashWho c p = if rightB c p.a && rightB c p.b && badB p.a p.b then bothL p.a p.b else []) := rfl
 have h00 : Below W0.heap.size W0 W0 := Below.refl _ _
 have ec0 := blk_cell (blk_below q0 h00) 0
 have ec1 := blk_cell (blk_below q0 h00) 1
 have ec2 := blk_cell (blk_below q0 h00) 2
 have ep0 := blk_cell (blk_below q1 h00) 0
 have ep1 := blk_cell (blk_below q1 h00) 1
 have ep2 := blk_cell (blk_below q1 h00) 2
 have ep3 := blk_cell (blk_below q1 h00) 3
 have ep4 := blk_cell (blk_below q1 h00) 4
 have ep5 := blk_cell (blk_below q1 h00) 5
 have ep6 := blk_cell (blk_below q1 h00) 6
 have ep7 := blk_cell (blk_below q1 h00) 7
 have ep8 := blk_cell (blk_below q1 h00) 8
 have ep9 := blk_cell (blk_below q1 h00) 9
 have ep10 := blk_cell (blk_below q1 h00) 10
 have ep11 := blk_cell (blk_below q1 h00) 11
 have ep12 := blk_cell (blk_below q1 h00) 12
 have ep13 := blk_cell (blk_below q1 h00) 13
 clear ha1 hb1 la lb
 cases hra : rightB c p.a with
 | false =>
  rw [hra] at cA HS
  clear cE
  go_wp2_with (go_at_call 63; (with_reducible refine (cA _ (by assumption)).mono ?_); rintro e w1 ⟨rfl, hx⟩; have hw1 := below_trans (b := _) (by assumption) hx; clear hx; have fc0 := blk_cell (blk_below q0 hw1) 0; have fc1 := blk_cell (blk_below q0 hw1) 1; have fc2 := blk_cell (blk_below q0 hw1) 2; have fp0 := blk_cell (blk_below q1 hw1) 0; have fp1 := blk_cell (blk_below q1 hw1) 1; have fp2 := blk_cell (blk_below q1 hw1) 2; have fp3 := blk_cell (blk_below q1 hw1) 3; have fp4 := blk_cell (blk_below q1 hw1) 4; have fp5 := blk_cell (blk_below q1 hw1) 5; have fp6 := blk_cell (blk_below q1 hw1) 6; have fp7 := blk_cell (blk_below q1 hw1) 7; have fp8 := blk_cell (blk_below q1 hw1) 8; have fp9 := blk_cell (blk_below q1 hw1) 9; have fp10 := blk_cell (blk_below q1 hw1) 10; have fp11 := blk_cell (blk_below q1 hw1) 11; have fp12 := blk_cell (blk_below q1 hw1) 12; have fp13 := blk_cell (blk_below q1 hw1) 13)
  go_ret2
  rw [HB.out]
  exact retWho_nil HS.out (hbw.trans (hw1.mono hBs))
 | true =>
  rw [hra] at cA HS
  cases hrb : rightB c p.b with
  | false =>
   rw [hrb] at cB HS
   clear cE
   go_wp2_with (first | (go_at_call 63; (with_reducible refine (cA _ (by assumption)).mono ?_); rintro e w1 ⟨rfl, hx⟩; have hw1 := below_trans (b := _) (by assumption) hx; clear hx; have fc0 := blk_cell (blk_below q0 hw1) 0; have fc1 := blk_cell (blk_below q0 hw1) 1; have fc2 := blk_cell (blk_below q0 hw1) 2; have fp0 := blk_cell (blk_below q1 hw1) 0; have fp1 := blk_cell (blk_below q1 hw1) 1; have fp2 := blk_cell (blk_below q1 hw1) 2; have fp3 := blk_cell (blk_below q1 hw1) 3; have fp4 := blk_cell (blk_below q1 hw1) 4; have fp5 := blk_cell (blk_below q1 hw1) 5; have fp6 := blk_cell (blk_below q1 hw1) 6; have fp7 := blk_cell (blk_below q1 hw1) 7; have fp8 := blk_cell (blk_below q1 hw1) 8; have fp9 := blk_cell (blk_below q1 hw1) 9; have fp10 := blk_cell (blk_below q1 hw1) 10; have fp11 := blk_cell (blk_below q1 hw1) 11; have fp12 := blk_cell (blk_below q1 hw1) 12; have fp13 := blk_cell (blk_below q1 hw1) 13) | (go_at_call 63; (with_reducible refine (cB _ (by assumption)).mono ?_); rintro e w2 ⟨rfl, hx⟩; have hw2 := below_trans (b := _) (by assumption) hx; clear hx; have gc0 := blk_cell (blk_below q0 hw2) 0; have gc1 := blk_cell (blk_below q0 hw2) 1; have gc2 := blk_cell (blk_below q0 hw2) 2; have gp0 := blk_cell (blk_below q1 hw2) 0; have gp1 := blk_cell (blk_below q1 hw2) 1; have gp2 := blk_cell (blk_below q1 hw2) 2; have gp3 := blk_cell (blk_below q1 hw2) 3; have gp4 := blk_cell (blk_below q1 hw2) 4; have gp5 := blk_cell (blk_below q1 hw2) 5; have gp6 := blk_cell (blk_below q1 hw2) 6; have gp7 := blk_cell (blk_below q1 hw2) 7; have gp8 := blk_cell (blk_below q1 hw2) 8; have gp9 := blk_cell (blk_below q1 hw2) 9; have gp10 := blk_cell (blk_below q1 hw2) 10; have gp11 := blk_cell (blk_below q1 hw2) 11; have gp12 := blk_cell (blk_below q1 hw2) 12; have gp13 := blk_cell (blk_below q1 hw2) 13))
   go_ret2
   rw [HB.out]
   exact retWho_nil HS.out (hbw.trans (hw2.mono hBs))
  | true =>
   rw [hrb] at cB HS
   cases hbd : badB p.a p.b with
   | false =>
    rw [hbd] at cD HS
    clear cE
    go_wp2_with (first | (go_at_call 63; (with_reducible refine (cA _ (by assumption)).mono ?_); rintro e w1 ⟨rfl, hx⟩; have hw1 := below_trans (b := _) (by assumption) hx; clear hx; have fc0 := blk_cell (blk_below q0 hw1) 0; have fc1 := blk_cell (blk_below q0 hw1) 1; have fc2 := blk_cell (blk_below q0 hw1) 2; have fp0 := blk_cell (blk_below q1 hw1) 0; have fp1 := blk_cell (blk_below q1 hw1) 1; have fp2 := blk_cell (blk_below q1 hw1) 2; have fp3 := blk_cell (blk_below q1 hw1) 3; have fp4 := blk_cell (blk_below q1 hw1) 4; have fp5 := blk_cell (blk_below q1 hw1) 5; have fp6 := blk_cell (blk_below q1 hw1) 6; have fp7 := blk_cell (blk_below q1 hw1) 7; have fp8 := blk_cell (blk_below q1 hw1) 8; have fp9 := blk_cell (blk_below q1 hw1) 9; have fp10 := blk_cell (blk_below q1 hw1) 10; have fp11 := blk_cell (blk_below q1 hw1) 11; have fp12 := blk_cell (blk_below q1 hw1) 12; have fp13 := blk_cell (blk_below q1 hw1) 13) | (go_at_call 63; (with_reducible refine (cB _ (by assumption)).mono ?_); rintro e w2 ⟨rfl, hx⟩; have hw2 := below_trans (b := _) (by assumption) hx; clear hx; have gc0 := blk_cell (blk_below q0 hw2) 0; have gc1 := blk_cell (blk_below q0 hw2) 1; have gc2 := blk_cell (blk_below q0 hw2) 2; have gp0 := blk_cell (blk_below q1 hw2) 0; have gp1 := blk_cell (blk_below q1 hw2) 1; have gp2 := blk_cell (blk_below q1 hw2) 2; have gp3 := blk_cell (blk_below q1 hw2) 3; have gp4 := blk_cell (blk_below q1 hw2) 4; have gp5 := blk_cell (blk_below q1 hw2) 5; have gp6 := blk_cell (blk_below q1 hw2) 6; have gp7 := blk_cell (blk_below q1 hw2) 7; have gp8 := blk_cell (blk_below q1 hw2) 8; have gp9 := blk_cell (blk_below q1 hw2) 9; have gp10 := blk_cell (blk_below q1 hw2) 10; have gp11 := blk_cell (blk_below q1 hw2) 11; have gp12 := blk_cell (blk_below q1 hw2) 12; have gp13 := blk_cell (blk_below q1 hw2) 13) | (go_at_call 81; (with_reducible refine (cD _ (by assumption)).mono ?_); rintro e w3 ⟨rfl, hx⟩; have hw3 := below_trans (b := _) (by assumption) hx; clear hx; have hc0 := blk_cell (blk_below q0 hw3) 0; have hc1 := blk_cell (blk_below q0 hw3) 1; have hc2 := blk_cell (blk_below q0 hw3) 2; have hp0 := blk_cell (blk_below q1 hw3) 0; have hp1 := blk_cell (blk_below q1 hw3) 1; have hp2 := blk_cell (blk_below q1 hw3) 2; have hp3 := blk_cell (blk_below q1 hw3) 3; have hp4 := blk_cell (blk_below q1 hw3) 4; have hp5 := blk_cell (blk_below q1 hw3) 5; have hp6 := blk_cell (blk_below q1 hw3) 6; have hp7 := blk_cell (blk_below q1 hw3) 7; have hp8 := blk_cell (blk_below q1 hw3) 8; have hp9 := blk_cell (blk_below q1 hw3) 9; have hp10 := blk_cell (blk_below q1 hw3) 10; have hp11 := blk_cell (blk_below q1 hw3) 11; have hp12 := blk_cell (blk_below q1 hw3) 12; have hp13 := blk_cell (blk_below q1 hw3) 13))
    go_ret2
    rw [HB.out]
    exact retWho_nil HS.out (hbw.trans (hw3.mono hBs))
   | true =>
    rw [hbd] at cD HS
    have cE' := cE hra hrb
    clear cE
    cases hL : bothL p.a p.b with
    | nil =>
     rw [hL] at cE' HS
     go_wp2_with (first | (go_at_call 63; (with_reducible refine (cA _ (by assumption)).mono ?_); rintro e w1 ⟨rfl, hx⟩; have hw1 := below_trans (b := _) (by assumption) hx; clear hx; have fc0 := blk_cell (blk_below q0 hw1) 0; have fc1 := blk_cell (blk_below q0 hw1) 1; have fc2 := blk_cell (blk_below q0 hw1) 2; have fp0 := blk_cell (blk_below q1 hw1) 0; have fp1 := blk_cell (blk_below q1 hw1) 1; have fp2 := blk_cell (blk_below q1 hw1) 2; have fp3 := blk_cell (blk_below q1 hw1) 3; have fp4 := blk_cell (blk_below q1 hw1) 4; have fp5 := blk_cell (blk_below q1 hw1) 5; have fp6 := blk_cell (blk_below q1 hw1) 6; have fp7 := blk_cell (blk_below q1 hw1) 7; have fp8 := blk_cell (blk_below q1 hw1) 8; have fp9 := blk_cell (blk_below q1 hw1) 9; have fp10 := blk_cell (blk_below q1 hw1) 10; have fp11 := blk_cell (blk_below q1 hw1) 11; have fp12 := blk_cell (blk_below q1 hw1) 12; have fp13 := blk_cell (blk_below q1 hw1) 13) | (go_at_call 63; (with_reducible refine (cB _ (by assumption)).mono ?_); rintro e w2 ⟨rfl, hx⟩; have hw2 := below_trans (b := _) (by assumption) hx; clear hx; have gc0 := blk_cell (blk_below q0 hw2) 0; have gc1 := blk_cell (blk_below q0 hw2) 1; have gc2 := blk_cell (blk_below q0 hw2) 2; have gp0 := blk_cell (blk_below q1 hw2) 0; have gp1 := blk_cell (blk_below q1 hw2) 1; have gp2 := blk_cell (blk_below q1 hw2) 2; have gp3 := blk_cell (blk_below q1 hw2) 3; have gp4 := blk_cell (blk_below q1 hw2) 4; have gp5 := blk_cell (blk_below q1 hw2) 5; have gp6 := blk_cell (blk_below q1 hw2) 6; have gp7 := blk_cell (blk_below q1 hw2) 7; have gp8 := blk_cell (blk_below q1 hw2) 8; have gp9 := blk_cell (blk_below q1 hw2) 9; have gp10 := blk_cell (blk_below q1 hw2) 10; have gp11 := blk_cell (blk_below q1 hw2) 11; have gp12 := blk_cell (blk_below q1 hw2) 12; have gp13 := blk_cell (blk_below q1 hw2) 13) | (go_at_call 81; (with_reducible refine (cD _ (by assumption)).mono ?_); rintro e w3 ⟨rfl, hx⟩; have hw3 := below_trans (b := _) (by assumption) hx; clear hx; have hc0 := blk_cell (blk_below q0 hw3) 0; have hc1 := blk_cell (blk_below q0 hw3) 1; have hc2 := blk_cell (blk_below q0 hw3) 2; have hp0 := blk_cell (blk_below q1 hw3) 0; have hp1 := blk_cell (blk_below q1 hw3) 1; have hp2 := blk_cell (blk_below q1 hw3) 2; have hp3 := blk_cell (blk_below q1 hw3) 3; have hp4 := blk_cell (blk_below q1 hw3) 4; have hp5 := blk_cell (blk_below q1 hw3) 5; have hp6 := blk_cell (blk_below q1 hw3) 6; have hp7 := blk_cell (blk_below q1 hw3) 7; have hp8 := blk_cell (blk_below q1 hw3) 8; have hp9 := blk_cell (blk_below q1 hw3) 9; have hp10 := blk_cell (blk_below q1 hw3) 10; have hp11 := blk_cell (blk_below q1 hw3) 11; have hp12 := blk_cell (blk_below q1 hw3) 12; have hp13 := blk_cell (blk_below q1 hw3) 13) | (go_at_call 82; (with_reducible refine (cE' _ (by assumption)).mono ?_); rintro e w4 ⟨A4, c4, rfl, hi, hx⟩; have hw4 := below_trans (b := _) (by assumption) hx; clear hx))
     go_ret2
     rw [HB.out]
     exact retWho_nil HS.out (hbw.trans (hw4.mono hBs))
    | cons x t =>
     rw [hL] at cE' HS
     obtain ⟨n, hn⟩ : ∃ n, n = (x :: t).length := ⟨_, rfl⟩
     have hn0 : ¬ (n : Int) = 0 := by rw [hn]; simp only [List.length_cons]; omega
     have HN := Lib.hid hn
     go_wp2_with (first | (go_at_call 63; (with_reducible refine (cA _ (by assumption)).mono ?_); rintro e w1 ⟨rfl, hx⟩; have hw1 := below_trans (b := _) (by assumption) hx; clear hx; have fc0 := blk_cell (blk_below q0 hw1) 0; have fc1 := blk_cell (blk_below q0 hw1) 1; have fc2 := blk_cell (blk_below q0 hw1) 2; have fp0 := blk_cell (blk_below q1 hw1) 0; have fp1 := blk_cell (blk_below q1 hw1) 1; have fp2 := blk_cell (blk_below q1 hw1) 2; have fp3 := blk_cell (blk_below q1 hw1) 3; have fp4 := blk_cell (blk_below q1 hw1) 4; have fp5 := blk_cell (blk_below q1 hw1) 5; have fp6 := blk_cell (blk_below q1 hw1) 6; have fp7 := blk_cell (blk_below q1 hw1) 7; have fp8 := blk_cell (blk_below q1 hw1) 8; have fp9 := blk_cell (blk_below q1 hw1) 9; have fp10 := blk_cell (blk_below q1 hw1) 10; have fp11 := blk_cell (blk_below q1 hw1) 11; have fp12 := blk_cell (blk_below q1 hw1) 12; have fp13 := blk_cell (blk_below q1 hw1) 13) | (go_at_call 63; (with_reducible refine (cB _ (by assumption)).mono ?_); rintro e w2 ⟨rfl, hx⟩; have hw2 := below_trans (b := _) (by assumption) hx; clear hx; have gc0 := blk_cell (blk_below q0 hw2) 0; have gc1 := blk_cell (blk_below q0 hw2) 1; have gc2 := blk_cell (blk_below q0 hw2) 2; have gp0 := blk_cell (blk_below q1 hw2) 0; have gp1 := blk_cell (blk_below q1 hw2) 1; have gp2 := blk_cell (blk_below q1 hw2) 2; have gp3 := blk_cell (blk_below q1 hw2) 3; have gp4 := blk_cell (blk_below q1 hw2) 4; have gp5 := blk_cell (blk_below q1 hw2) 5; have gp6 := blk_cell (blk_below q1 hw2) 6; have gp7 := blk_cell (blk_below q1 hw2) 7; have gp8 := blk_cell (blk_below q1 hw2) 8; have gp9 := blk_cell (blk_below q1 hw2) 9; have gp10 := blk_cell (blk_below q1 hw2) 10; have gp11 := blk_cell (blk_below q1 hw2) 11; have gp12 := blk_cell (blk_below q1 hw2) 12; have gp13 := blk_cell (blk_below q1 hw2) 13) | (go_at_call 81; (with_reducible refine (cD _ (by assumption)).mono ?_); rintro e w3 ⟨rfl, hx⟩; have hw3 := below_trans (b := _) (by assumption) hx; clear hx; have hc0 := blk_cell (blk_below q0 hw3) 0; have hc1 := blk_cell (blk_below q0 hw3) 1; have hc2 := blk_cell (blk_below q0 hw3) 2; have hp0 := blk_cell (blk_below q1 hw3) 0; have hp1 := blk_cell (blk_below q1 hw3) 1; have hp2 := blk_cell (blk_below q1 hw3) 2; have hp3 := blk_cell (blk_below q1 hw3) 3; have hp4 := blk_cell (blk_below q1 hw3) 4; have hp5 := blk_cell (blk_below q1 hw3) 5; have hp6 := blk_cell (blk_below q1 hw3) 6; have hp7 := blk_cell (blk_below q1 hw3) 7; have hp8 := blk_cell (blk_below q1 hw3) 8; have hp9 := blk_cell (blk_below q1 hw3) 9; have hp10 := blk_cell (blk_below q1 hw3) 10; have hp11 := blk_cell (blk_below q1 hw3) 11; have hp12 := blk_cell (blk_below q1 hw3) 12; have hp13 := blk_cell (blk_below q1 hw3) 13) | ((go_at_call 82; (with_reducible refine (cE' _ (by assumption)).mono ?_); rintro e w4 ⟨A4, c4, rfl, hi, hx⟩; have hw4 := below_trans (b := _) (by assumption) hx; clear hx); rw [← hn]; clear hn))
     go_ret2
     rw [HB.out]
     refine ⟨A4, c4, ?_, ?_, hbw.trans (hw4.mono hBs)⟩
     ·rw [HS.out]
      show _ = Ending.returned (.tuple #[.slice A4 (x :: t).length c4, .nilIface])
      rw [← HN.out]
      rfl
     ·rw [HS.out]
      exact hi.mono (fun g hg => by have := hw3.size; omega)
end Go.Proofs.YtnppimhlfcjghaaGreat
