import Derived.Test.YtnppimhlfcjghaaGreatPLeaf
import Derived.Laws.StructEq
set_option linter.all false
set_option linter.unusedVariables false
set_option linter.unusedSimpArgs false
namespace Go.Proofs.YtnppimhlfcjghaaGreat
open Go.RowKit
set_option maxRecDepth 100000
set_option maxHeartbeats 4000000
theorem eqPt (w : World) (a b : Int) (c d : Int) : (binOp .eql 38 (.agg #[.int .i64 a, .int .u64 b]) (.agg #[.int .i64 c, .int .u64 d])).run Tryz.prog w = .ok (.bool (a == c && b == d)) w := by
 have u3 := Tryz.underlying3
 have u28 := Tryz.underlying23
 have a3 := Tryz.isAgg3
 have z3 := Tryz.sizeOf3
 have a28 := Tryz.isAgg23
 have z28 := Tryz.sizeOf23
 have hS : Tryz.prog.underlying 38 = some (.struct (Tryz.prog.fieldsOf 38)) := by kernel_rfl
 have hp : Tryz.prog.stoodInHeld 38 = false := by kernel_rfl
 rw [run_eql_struct, show (10000 : Nat) = 9999 + 1 from rfl, run_equalIn_struct w 9999 38 _ _ hS hp]
 simp only [Program.fieldsOf, Tryz.underlying38]
 go_simp
 by_cases h1 : a = c <;> by_cases h2 : b = d <;> simp [h1, h2]
theorem guardPt (w : World) (op : BinOp) (x y : Operand) (xs ys : Array Value) : (eqGuard op 38 x y (.agg xs) (.agg ys)).run Tryz.prog w = .ok () w := run_eqGuard_agg w op _ x y xs ys (by kernel_rfl)
theorem ptEq (p q : Pt) : (p == q) = (p.e == q.e && p.r == q.r) := by
 cases p; cases q
 rw [Bool.eq_iff_iff]
 simp
theorem Same_calls (w : World) (a b : Vt) (A1 : Option Addr) (k1 : Nat) (A2 : Option Addr) (k2 : Nat) :
    Calls Tryz.prog 95 #[.agg #[.int .i64 a.slot, .int .u64 a.head, .int .i64 a.src.e, .int .u64 a.src.r, .int .i64 a.tgt.e, .int .u64 a.tgt.r, .slice A1 a.who.length k1], .agg #[.int .i64 b.slot, .int .u64 b.head, .int .i64 b.src.e, .int .u64 b.src.r, .int .i64 b.tgt.e, .int .u64 b.tgt.r, .slice A2 b.who.length k2]] w fun e w' => e = .returned (.bool (sameB a b)) ∧ Below w.heap.size w w' := by
 have hg := guardPt
 have he := eqPt
 go_enter Tryz.func95, Tryz.ntmps95
 go_wp2
 all_goals
  go_ret
  refine ⟨ret_bool ?_, below_alloc (below_alloc (Below.refl _ _) _) _⟩
  show _ = sameB a b
  simp only [sameB]
  first
   | simp_all [ptEq]
theorem two_boxes (w : World) (a b : Vt) (A1 : Option Addr) (k1 : Nat) (A2 : Option Addr) (k2 : Nat) :
    (((w.alloc (.cells #[.int .i64 a.slot, .int .u64 a.head, .int .i64 a.src.e, .int .u64 a.src.r, .int .i64 a.tgt.e, .int .u64 a.tgt.r, .slice A1 a.who.length k1] 53)).alloc (.cells #[.int .i64 b.slot, .int .u64 b.head, .int .i64 b.src.e, .int .u64 b.src.r, .int .i64 b.tgt.e, .int .u64 b.tgt.r, .slice A2 b.who.length k2] 53)).heap[w.heap.size]? = some (.cells #[.int .i64 a.slot, .int .u64 a.head, .int .i64 a.src.e, .int .u64 a.src.r, .int .i64 a.tgt.e, .int .u64 a.tgt.r, .slice A1 a.who.length k1] 53 (0, 0))) ∧
    (((w.alloc (.cells #[.int .i64 a.slot, .int .u64 a.head, .int .i64 a.src.e, .int .u64 a.src.r, .int .i64 a.tgt.e, .int .u64 a.tgt.r, .slice A1 a.who.length k1] 53)).alloc (.cells #[.int .i64 b.slot, .int .u64 b.head, .int .i64 b.src.e, .int .u64 b.src.r, .int .i64 b.tgt.e, .int .u64 b.tgt.r, .slice A2 b.who.length k2] 53)).heap[w.heap.size + 1]? = some (.cells #[.int .i64 b.slot, .int .u64 b.head, .int .i64 b.src.e, .int .u64 b.src.r, .int .i64 b.tgt.e, .int .u64 b.tgt.r, .slice A2 b.who.length k2] 53 (0, 0))) ∧
    Below w.heap.size w ((w.alloc (.cells #[.int .i64 a.slot, .int .u64 a.head, .int .i64 a.src.e, .int .u64 a.src.r, .int .i64 a.tgt.e, .int .u64 a.tgt.r, .slice A1 a.who.length k1] 53)).alloc (.cells #[.int .i64 b.slot, .int .u64 b.head, .int .i64 b.src.e, .int .u64 b.src.r, .int .i64 b.tgt.e, .int .u64 b.tgt.r, .slice A2 b.who.length k2] 53)) ∧
    ((w.alloc (.cells #[.int .i64 a.slot, .int .u64 a.head, .int .i64 a.src.e, .int .u64 a.src.r, .int .i64 a.tgt.e, .int .u64 a.tgt.r, .slice A1 a.who.length k1] 53)).alloc (.cells #[.int .i64 b.slot, .int .u64 b.head, .int .i64 b.src.e, .int .u64 b.src.r, .int .i64 b.tgt.e, .int .u64 b.tgt.r, .slice A2 b.who.length k2] 53)).heap.size = w.heap.size + 2 :=
 ⟨blk_below (heap_new w _) (below_alloc (Below.refl _ _) _), heap_new1 w _ _, below_alloc (below_alloc (Below.refl _ _) _) _, by simp⟩
theorem vt7' {w : World} {P : Nat} {v : Vt} {A : Option Addr} {c : Nat} {T : TypeId} {f : Nat × Nat} (h : w.heap[P]? = some (.cells #[.int .i64 v.slot, .int .u64 v.head, .int .i64 v.src.e, .int .u64 v.src.r, .int .i64 v.tgt.e, .int .u64 v.tgt.r, .slice A v.who.length c] T f)) : w.cell? ⟨P, 0, none⟩ = some (.int .i64 v.slot) ∧ w.cell? ⟨P, 1, none⟩ = some (.int .u64 v.head) ∧ w.cell? ⟨P, 2, none⟩ = some (.int .i64 v.src.e) ∧ w.cell? ⟨P, 3, none⟩ = some (.int .u64 v.src.r) ∧
    w.cell? ⟨P, 4, none⟩ = some (.int .i64 v.tgt.e) ∧ w.cell? ⟨P, 5, none⟩ = some (.int .u64 v.tgt.r) ∧ w.cell? ⟨P, 6, none⟩ = some (.slice A v.who.length c) :=
 ⟨blk_cell h 0, blk_cell h 1, blk_cell h 2, blk_cell h 3, blk_cell h 4, blk_cell h 5, blk_cell h 6⟩
theorem Double_calls (w : World) (a b : Vt) (A1 : Option Addr) (k1 : Nat) (A2 : Option Addr) (k2 : Nat) :
    Calls Tryz.prog 88 #[.agg #[.int .i64 a.slot, .int .u64 a.head, .int .i64 a.src.e, .int .u64 a.src.r, .int .i64 a.tgt.e, .int .u64 a.tgt.r, .slice A1 a.who.length k1], .agg #[.int .i64 b.slot, .int .u64 b.head, .int .i64 b.src.e, .int .u64 b.src.r, .int .i64 b.tgt.e, .int .u64 b.tgt.r, .slice A2 b.who.length k2]] w fun e w' => e = .returned (.bool (doubleB a b)) ∧ Below w.heap.size w w' := by
 obtain ⟨h1, h2, h3, h4⟩ := two_boxes w a b A1 k1 A2 k2
 cases he : (a.tgt.e == b.tgt.e) with
 | false =>
  have HE : Hid (doubleB a b = false) := by show _ = _; rw [doubleB, he]; rfl
  go_enter Tryz.func88, Tryz.ntmps88
  go_wp2_with (go_at_call 95; refine (Same_calls _ a b A1 k1 A2 k2).mono ?_; rintro e w1 ⟨rfl, hb1⟩)
  go_ret
  exact ⟨by rw [HE.out]; rfl, h3⟩
 | true =>
  have HE : Hid (doubleB a b = !sameB a b) := by show _ = _; rw [doubleB, he]; rfl
  go_enter Tryz.func88, Tryz.ntmps88
  go_wp2_with (go_at_call 95; refine (Same_calls _ a b A1 k1 A2 k2).mono ?_; rintro e w1 ⟨rfl, hb1⟩)
  go_ret
  exact ⟨by rw [HE.out]; rfl, below_then h3 (by omega) hb1⟩
theorem Around_calls (w : World) (a b : Vt) (A1 : Option Addr) (k1 : Nat) (A2 : Option Addr) (k2 : Nat) :
    Calls Tryz.prog 89 #[.agg #[.int .i64 a.slot, .int .u64 a.head, .int .i64 a.src.e, .int .u64 a.src.r, .int .i64 a.tgt.e, .int .u64 a.tgt.r, .slice A1 a.who.length k1], .agg #[.int .i64 b.slot, .int .u64 b.head, .int .i64 b.src.e, .int .u64 b.src.r, .int .i64 b.tgt.e, .int .u64 b.tgt.r, .slice A2 b.who.length k2]] w fun e w' => e = .returned (.bool (aroundB a b)) ∧ Below w.heap.size w w' := by
 go_enter Tryz.func89, Tryz.ntmps89
 go_wp2
 all_goals
  go_ret
  refine ⟨ret_bool ?_, below_alloc (below_alloc (Below.refl _ _) _) _⟩
  show _ = aroundB a b
  simp only [aroundB]
  first
   | (rw [show decide (a.src.e < b.src.e) = true from by simp; omega]; rfl)
   | (rw [show decide (a.src.e < b.src.e) = false from by simp; omega]; rfl)
theorem Bad_calls (w : World) (a b : Vt) (A1 : Option Addr) (k1 : Nat) (A2 : Option Addr) (k2 : Nat) :
    Calls Tryz.prog 81 #[.agg #[.int .i64 a.slot, .int .u64 a.head, .int .i64 a.src.e, .int .u64 a.src.r, .int .i64 a.tgt.e, .int .u64 a.tgt.r, .slice A1 a.who.length k1], .agg #[.int .i64 b.slot, .int .u64 b.head, .int .i64 b.src.e, .int .u64 b.src.r, .int .i64 b.tgt.e, .int .u64 b.tgt.r, .slice A2 b.who.length k2]] w fun e w' => e = .returned (.bool (badB a b)) ∧ Below w.heap.size w w' := by
 obtain ⟨h1, h2, h3, h4⟩ := two_boxes w a b A1 k1 A2 k2
 have cD := fun W => Double_calls W a b A1 k1 A2 k2
 have cA := fun W => Around_calls W a b A1 k1 A2 k2
 have cB := fun W => Around_calls W b a A2 k2 A1 k1
 cases hd : doubleB a b with
 | true =>
  rw [hd] at cD
  have HE : Hid (badB a b = true) := by show _ = _; rw [badB, hd]; rfl
  go_enter Tryz.func81, Tryz.ntmps81
  go_wp2_with (go_at_call 88; refine (cD _).mono ?_; rintro e w1 ⟨rfl, hb1⟩)
  go_ret
  exact ⟨by rw [HE.out]; rfl, below_then h3 (by omega) hb1⟩
 | false =>
  rw [hd] at cD
  cases ha : aroundB a b with
  | true =>
   rw [ha] at cA
   have HE : Hid (badB a b = true) := by show _ = _; rw [badB, hd, ha]; rfl
   go_enter Tryz.func81, Tryz.ntmps81
   go_wp2_with (first
    | (go_at_call 88; refine (cD _).mono ?_; rintro e w1 ⟨rfl, hb1⟩; obtain ⟨x0, x1, x2, x3, x4, x5, x6⟩ := vt7' (blk_below h1 hb1); obtain ⟨y0, y1, y2, y3, y4, y5, y6⟩ := vt7' (blk_below h2 hb1))
    | (go_at_call 89; refine (cA _).mono ?_; rintro e w2 ⟨rfl, hb2⟩))
   go_ret
   exact ⟨by rw [HE.out]; rfl, below_then h3 (by omega) (below_trans hb1 hb2)⟩
  | false =>
   rw [ha] at cA
   have HE : Hid (badB a b = aroundB b a) := by show _ = _; rw [badB, hd, ha]; rfl
   have tok : True := trivial
   go_enter Tryz.func81, Tryz.ntmps81
   go_wp2_with (first
    | (go_at_call 88; refine (cD _).mono ?_; rintro e w1 ⟨rfl, hb1⟩; obtain ⟨x0, x1, x2, x3, x4, x5, x6⟩ := vt7' (blk_below h1 hb1); obtain ⟨y0, y1, y2, y3, y4, y5, y6⟩ := vt7' (blk_below h2 hb1))
    | (go_at_call 89; have _t := tok; refine (cA _).mono ?_; rintro e w2 ⟨rfl, hb2⟩; obtain ⟨u0, u1, u2, u3, u4, u5, u6⟩ := vt7' (blk_below (blk_below h1 hb1) hb2); obtain ⟨v0, v1, v2, v3, v4, v5, v6⟩ := vt7' (blk_below (blk_below h2 hb1) hb2); clear _t tok)
    | (go_at_call 89; refine (cB _).mono ?_; rintro e w3 ⟨rfl, hb3⟩))
   go_ret
   exact ⟨by rw [HE.out]; rfl, below_then h3 (by omega) (below_trans (below_trans hb1 hb2) hb3)⟩
end Go.Proofs.YtnppimhlfcjghaaGreat
namespace Go.Proofs.YtnppimhlfcjghaaGreat
open Go.RowKit
set_option maxRecDepth 100000
set_option maxHeartbeats 4000000
theorem whoBad_iff (n : Int) (who : List Int) (k : Nat) : whoBad n who k = true ↔ who.getD k 0 < 0 ∨ n ≤ who.getD k 0 ∨ (0 < k ∧ who.getD k 0 ≤ who.getD (k - 1) 0) := by
 simp only [whoBad, Bool.or_eq_true, Bool.and_eq_true, decide_eq_true_eq, or_assoc]
theorem whoOk_no {n : Int} {who : List Int} {k : Nat} (hk : k < who.length) (h : whoBad n who k = true) : whoOk n who = false := by
 unfold whoOk
 rw [List.all_eq_false]
 exact ⟨k, by simpa using hk, by simp [h]⟩
theorem whoOk_yes {n : Int} {who : List Int} (h : ∀ k, k < who.length → whoBad n who k = false) : whoOk n who = true := by
 unfold whoOk
 rw [List.all_eq_true]
 intro k hk
 simp [h k (by simpa using hk)]
theorem Right_calls (w : World) (c : Cf) (A : Option Addr) (k : Nat) (v : Vt) (A2 : Option Addr) (k2 : Nat) (hok : c.ok) (hwf : v.wf) (hl : v.who.length ≤ maxLen) (hw : Ints anyB .i64 w A2 v.who) :
    Calls Tryz.prog 63 #[cfC c A k, .agg #[.int .i64 v.slot, .int .u64 v.head, .int .i64 v.src.e, .int .u64 v.src.r, .int .i64 v.tgt.e, .int .u64 v.tgt.r, .slice A2 v.who.length k2]] w fun e w' => e = .returned (.bool (rightB c v)) ∧ Below w.heap.size w w' := by
 have hbw := below_alloc (below_alloc (Below.refl w.heap.size w) (.cells #[.slice A c.bal.length k, .int .i64 c.slots, .int .i64 c.boost] 27)) (.cells #[.int .i64 v.slot, .int .u64 v.head, .int .i64 v.src.e, .int .u64 v.src.r, .int .i64 v.tgt.e, .int .u64 v.tgt.r, .slice A2 v.who.length k2] 53)
 have hw2 := hw.below hbw
 have hq1 := blk_below (heap_new w (.cells #[.slice A c.bal.length k, .int .i64 c.slots, .int .i64 c.boost] 27)) (below_alloc (Below.refl _ _) (.cells #[.int .i64 v.slot, .int .u64 v.head, .int .i64 v.src.e, .int .u64 v.src.r, .int .i64 v.tgt.e, .int .u64 v.tgt.r, .slice A2 v.who.length k2] 53))
 have hq2 := heap_new1 w (.cells #[.slice A c.bal.length k, .int .i64 c.slots, .int .i64 c.boost] 27) (.cells #[.int .i64 v.slot, .int .u64 v.head, .int .i64 v.src.e, .int .u64 v.src.r, .int .i64 v.tgt.e, .int .u64 v.tgt.r, .slice A2 v.who.length k2] 53)
 obtain ⟨hs, _, hse, hte, hwi⟩ := hwf
 have hse := hse.1
 have hte := hte.1
 have hcs : inI c.slots := by have := hok.s1; have := hok.s2; unfold inI; omega
 have hn := hok.l2
 unfold maxLen at hl
 have HH := Lib.hid hbw
 have HI := Lib.hid hw2
 have HWI := Lib.hid hwi
 have cE := fun W => EpochOf_q W v.slot c.slots hs hcs
 have HX : Hid (rightB c v = (!(v.who.length == 0) && decide (0 ≤ v.slot) && decide (0 ≤ v.src.e) && decide (v.src.e ≤ v.tgt.e) && (v.tgt.e == epochOf v.slot c.slots) && whoOk c.bal.length v.who)) := rfl
 clear hbw hw2 hw hwi hok
 unfold inI at hs hse hte hcs
 generalize hW : World.alloc (World.alloc w _) _ = W0 at HH HI hq1 hq2
 have HW := Lib.hid hW
 clear hW
 have q0 := blk_cell hq2 0
 have q2 := blk_cell hq2 2
 have q4 := blk_cell hq2 4
 have q6 := blk_cell hq2 6
 have p0 := blk_cell hq1 0
 have p1 := blk_cell hq1 1
 generalize epochOf v.slot c.slots = E at cE HX
 have enter : True := trivial
 by_cases t0 : ((v.who.length : Int) == 0) = true
 ·have HF : Hid (rightB c v = false) := by
     show _ = _
     rw [HX.out, Bool.eq_false_iff]
     intro h
     simp only [Bool.and_eq_true, decide_eq_true_eq, Bool.not_eq_true', beq_eq_false_iff_ne, beq_iff_eq, ne_eq] at h
     obtain ⟨⟨⟨⟨⟨h0, h1⟩, h2⟩, h3⟩, h4⟩, h5⟩ := h
     simp only [beq_iff_eq] at t0; omega
  go_enter Tryz.func63, Tryz.ntmps63
  go_wp2
  rw [HW.out]
  go_quiet (first | (go_at_call 53; exact Calls.quiet_of_same (cE _)))
  go_wp2
  go_ret
  exact ⟨by rw [HF.out]; rfl, below_drewN HH.out nq⟩
 ·have z0 : ((v.who.length : Int) == 0) = false := by simpa using t0
  clear t0
  by_cases t1 : v.slot < 0
  ·have HF : Hid (rightB c v = false) := by
      show _ = _
      rw [HX.out, Bool.eq_false_iff]
      intro h
      simp only [Bool.and_eq_true, decide_eq_true_eq, Bool.not_eq_true', beq_eq_false_iff_ne, beq_iff_eq, ne_eq] at h
      obtain ⟨⟨⟨⟨⟨h0, h1⟩, h2⟩, h3⟩, h4⟩, h5⟩ := h
      omega
   go_enter Tryz.func63, Tryz.ntmps63
   go_wp2
   rw [HW.out]
   go_quiet (first | (go_at_call 53; exact Calls.quiet_of_same (cE _)))
   go_wp2
   go_ret
   exact ⟨by rw [HF.out]; rfl, below_drewN HH.out nq⟩
  ·have z1 : decide (v.slot < 0) = false := by simpa using t1
   have y1 : ¬ (v.slot < 0) := t1
   have Y1 := Lib.hid y1
   clear t1 y1
   by_cases t2 : v.src.e < 0
   ·have HF : Hid (rightB c v = false) := by
       show _ = _
       rw [HX.out, Bool.eq_false_iff]
       intro h
       simp only [Bool.and_eq_true, decide_eq_true_eq, Bool.not_eq_true', beq_eq_false_iff_ne, beq_iff_eq, ne_eq] at h
       obtain ⟨⟨⟨⟨⟨h0, h1⟩, h2⟩, h3⟩, h4⟩, h5⟩ := h
       omega
    go_enter Tryz.func63, Tryz.ntmps63
    go_wp2
    rw [HW.out]
    go_quiet (first | (go_at_call 53; exact Calls.quiet_of_same (cE _)))
    go_wp2
    go_ret
    exact ⟨by rw [HF.out]; rfl, below_drewN HH.out nq⟩
   ·have z2 : decide (v.src.e < 0) = false := by simpa using t2
    have y2 : ¬ (v.src.e < 0) := t2
    have Y2 := Lib.hid y2
    clear t2 y2
    by_cases t3 : v.tgt.e < v.src.e
    ·have HF : Hid (rightB c v = false) := by
        show _ = _
        rw [HX.out, Bool.eq_false_iff]
        intro h
        simp only [Bool.and_eq_true, decide_eq_true_eq, Bool.not_eq_true', beq_eq_false_iff_ne, beq_iff_eq, ne_eq] at h
        obtain ⟨⟨⟨⟨⟨h0, h1⟩, h2⟩, h3⟩, h4⟩, h5⟩ := h
        omega
     go_enter Tryz.func63, Tryz.ntmps63
     go_wp2
     rw [HW.out]
     go_quiet (first | (go_at_call 53; exact Calls.quiet_of_same (cE _)))
     go_wp2
     go_ret
     exact ⟨by rw [HF.out]; rfl, below_drewN HH.out nq⟩
    ·have z3 : decide (v.tgt.e < v.src.e) = false := by simpa using t3
     have y3 : ¬ (v.tgt.e < v.src.e) := t3
     have Y3 := Lib.hid y3
     clear t3 y3
     by_cases t4 : v.tgt.e = E
     ·have HR : Hid (rightB c v = whoOk c.bal.length v.who) := by
         show _ = _
         rw [HX.out]
         have e0 : (v.who.length == 0) = false := by simp only [beq_eq_false_iff_ne, ne_eq] at z0 ⊢; omega
         have e1 : decide (0 ≤ v.slot) = true := by have := Y1.out; simp; omega
         have e2 : decide (0 ≤ v.src.e) = true := by have := Y2.out; simp; omega
         have e3 : decide (v.src.e ≤ v.tgt.e) = true := by have := Y3.out; simp; omega
         have e4 : (v.tgt.e == E) = true := by simp [t4]
         simp only [e0, e1, e2, e3, e4, Bool.not_false, Bool.true_and]
      have hne : (v.tgt.e != E) = false := by simp [t4]
      clear t4
      go_enter Tryz.func63, Tryz.ntmps63
      go_wp2
      rw [HW.out]
      go_quiet (first | (go_at_call 53; exact Calls.quiet_of_same (cE _)))
      go_wp2
      have hI : Ints anyB .i64 (W0.drewN nq) A2 v.who := HI.out.below (below_drewN (Below.refl _ _) nq)
      have hB : Below w.heap.size w (W0.drewN nq) := below_drewN HH.out nq
      have p0 : (W0.drewN nq).cell? ⟨w.heap.size, 0, none⟩ = some (.slice A c.bal.length k) := p0
      have q6 : (W0.drewN nq).cell? ⟨w.heap.size + 1, 6, none⟩ = some (.slice A2 v.who.length k2) := q6
      have HI := Lib.hid hI
      have HB := Lib.hid hB
      clear hI hB
      generalize W0.drewN nq = W1 at HI HB p0 q6 ⊢
      go_loop [5, 6, 45] (fun _ _ i => ∃ j : Nat, j ≤ v.who.length ∧ i = .int .i64 j ∧ Hid (∀ m, m < j → whoBad c.bal.length v.who m = false)) (fun _ _ i => v.who.length - (intOf i).toNat)
      case atStart => exact ⟨0, Nat.zero_le _, rfl, fun m hm => by omega⟩
      case round =>
       obtain ⟨j, hj, rfl, HM⟩ := hrel
       by_cases hlt : j < v.who.length
       ·obtain ⟨b2, o2, rfl, _, hc2⟩ := HI.out.get (j := j) hlt
        have HWB := Lib.hid (whoBad_iff c.bal.length v.who j)
        have hx : inI (v.who.getD j 0) := by
         rw [List.getD_eq_getElem?_getD, List.getElem?_eq_getElem hlt]
         exact HWI.out _ (List.getElem_mem hlt)
        unfold inI at hx
        have nxt : whoBad c.bal.length v.who j = false → Hid (∀ m, m < j + 1 → whoBad c.bal.length v.who m = false) := fun h m hm => by
         rcases Nat.lt_or_ge m j with h1 | h1
         ·exact HM.out m h1
         ·obtain rfl : m = j := by omega
          exact h
        have NX := Lib.hid nxt
        have out : whoBad c.bal.length v.who j = true → rightB c v = false := fun h => by rw [HR.out]; exact whoOk_no hlt h
        have OUT := Lib.hid out
        clear nxt out
        rcases Nat.eq_zero_or_pos j with h0 | h0
        ·have hz : ¬ (0 : Int) < j := by omega
         have h0' : j ≤ 0 := by omega
         clear h0
         generalize v.who.getD j 0 = x at hc2 hx HWB
         go_wp2
         all_goals first
          | (go_round
             case rel =>
              refine ⟨j + 1, by omega, by go_num, NX.out ?_⟩
              rw [Bool.eq_false_iff]
              intro h
              have := HWB.out.1 h
              omega
             case measure => simp [intOf]; omega)
          | (go_ret
             refine ⟨?_, HB.out⟩
             rw [OUT.out (HWB.out.2 (by omega))]
             rfl)
        ·obtain ⟨b3, o3, he, _, hc3⟩ := HI.out.get (j := j - 1) (by omega)
         cases he
         have hj1 : ((j : Int) - 1).toNat = j - 1 := by omega
         have hz : (0 : Int) < j := by omega
         generalize v.who.getD j 0 = x at hc2 hx HWB
         generalize v.who.getD (j - 1) 0 = y at hc3 HWB
         go_wp2
         all_goals first
          | (go_round
             case rel =>
              refine ⟨j + 1, by omega, by go_num, NX.out ?_⟩
              rw [Bool.eq_false_iff]
              intro h
              have := HWB.out.1 h
              omega
             case measure => simp [intOf]; omega)
          | (go_ret
             refine ⟨?_, HB.out⟩
             rw [OUT.out (HWB.out.2 (by omega))]
             rfl)
       ·obtain rfl : j = v.who.length := by omega
        have HF : Hid (rightB c v = true) := by
         show _ = _
         rw [HR.out]
         exact whoOk_yes (fun m hm => HM.out m hm)
        go_wp2
        go_ret
        exact ⟨by rw [HF.out]; rfl, HB.out⟩
     ·have hne : (v.tgt.e != E) = true := by simp [t4]
      have HF : Hid (rightB c v = false) := by
       show _ = _
       rw [HX.out, Bool.eq_false_iff]
       intro h
       simp only [Bool.and_eq_true, decide_eq_true_eq, Bool.not_eq_true', beq_eq_false_iff_ne, beq_iff_eq, ne_eq] at h
       obtain ⟨⟨⟨⟨⟨h0, h1⟩, h2⟩, h3⟩, h4⟩, h5⟩ := h
       exact t4 h4
      go_enter Tryz.func63, Tryz.ntmps63
      go_wp2
      rw [HW.out]
      go_quiet (first | (go_at_call 53; exact Calls.quiet_of_same (cE _)))
      go_wp2
      go_ret
      exact ⟨by rw [HF.out]; rfl, below_drewN HH.out nq⟩
end Go.Proofs.YtnppimhlfcjghaaGreat
