import Derived.Test.YtnppimhlfcjghaaGreatPOpsK
import Derived.Test.YtnppimhlfcjghaaGreatPTick
set_option linter.all false
set_option linter.unusedVariables false
set_option linter.unusedSimpArgs false
namespace Go.Proofs.YtnppimhlfcjghaaGreat
open Go.RowKit
set_option maxRecDepth 100000
set_option maxHeartbeats 8000000
theorem takeV_length (v : List En) (k e r : Int) : (takeV v k e r).length = v.length := by
 unfold takeV; split <;> simp
theorem moveOne_bd (e r : Int) (x : SC) (k : Int) : (moveOne e r x k).2.length ≤ x.2.length + 1 ∧ (moveOne e r x k).1.c = x.1.c ∧ (moveOne e r x k).1.votes.length = x.1.votes.length := by
 unfold moveOne
 split
 ·exact ⟨by simp, rfl, takeV_length _ _ _ _⟩
 ·exact ⟨by omega, rfl, rfl⟩
theorem moveAll_bd (e r : Int) (who : List Int) : ∀ (x : SC), (who.foldl (moveOne e r) x).2.length ≤ x.2.length + who.length ∧ (who.foldl (moveOne e r) x).1.c = x.1.c ∧ (who.foldl (moveOne e r) x).1.votes.length = x.1.votes.length := by
 induction who with
 | nil => intro x; exact ⟨Nat.le_refl _, rfl, rfl⟩
 | cons k l ih =>
  intro x
  obtain ⟨a1, a2, a3⟩ := ih (moveOne e r x k)
  obtain ⟨b1, b2, b3⟩ := moveOne_bd e r x k
  refine ⟨?_, a2.trans b2, a3.trans b3⟩
  simp only [List.foldl_cons, List.length_cons]
  omega
theorem grown_keep {w w' : World} {row : Option Nat} {B : Nat} {o : Obj} (hg : w.grownBy w' row) (h : w.heap[B]? = some o) (hne : some B ≠ row) : w'.heap[B]? = some o := (hg.block B (blk_lt h) hne).trans h
theorem attest_calls {w : World} {base : Nat} {p : Places} {x : SC} {k vk : Nat} {ch : Value} (h : ApAt w base p x k vk ch) (hs : x.1.ok) (hn : x.2.length ≤ 1000000) (v : Vt) (A3 : Option Addr) (k3 : Nat) (hwf : v.wf) (hvl : v.who.length ≤ maxLen) (hvw : Ints (p.free base) .i64 w A3 v.who) (inside : Bool) :
    Calls Tryz.prog 38 #[.pointer (some ⟨p.sb, 0, none⟩), .agg #[.int .i64 v.slot, .int .u64 v.head, .int .i64 v.src.e, .int .u64 v.src.r, .int .i64 v.tgt.e, .int .u64 v.tgt.r, .slice A3 v.who.length k3], .bool inside] w fun e w' => e = .returned (errV (attestE x.1 v inside)) ∧ (∃ ch', ApAt w' base p (attestS x v inside) k vk ch') ∧ Ext (p.foot base) w w' := by
 have hch : ∀ b, ch.ownBlock = some b → b < w.heap.size := fun b hb => own_lt h.chs b hb
 have q0 := heap_new w (.cells #[.int .i64 v.slot, .int .u64 v.head, .int .i64 v.src.e, .int .u64 v.src.r, .int .i64 v.tgt.e, .int .u64 v.tgt.r, .slice A3 v.who.length k3] 53)
 have hb0 : Below w.heap.size w (w.alloc (.cells #[.int .i64 v.slot, .int .u64 v.head, .int .i64 v.src.e, .int .u64 v.src.r, .int .i64 v.tgt.e, .int .u64 v.tgt.r, .slice A3 v.who.length k3] 53)) := below_alloc (Below.refl _ _) _
 have hRet : Hid (∀ (n : Int) (W : World), attestE x.1 v inside = n → n ≠ 0 → Below w.heap.size w W → Ending.returned (errV n) = .returned (errV (attestE x.1 v inside)) ∧ (∃ ch', ApAt W base p (attestS x v inside) k vk ch') ∧ Ext (p.foot base) w W) := fun n W hE hne hb => by
  refine ⟨by rw [hE], ⟨ch, ?_⟩, Ext.of_below hb⟩
  rw [attestS, if_neg (by rw [hE]; exact hne)]
  exact h.below hb
 have hBb : base ≤ w.heap.size := h.hb
 have hI0 := hvw.below hb0
 have h0 := h.below hb0
 have HH := Lib.hid h
 clear hvw h
 go_enter Tryz.func38, Tryz.ntmps38
 go_upto_region 1 with fail
 obtain ⟨W0, hW0⟩ : ∃ W0, W0 = w.alloc (.cells #[.int .i64 v.slot, .int .u64 v.head, .int .i64 v.src.e, .int .u64 v.src.r, .int .i64 v.tgt.e, .int .u64 v.tgt.r, .slice A3 v.who.length k3] 53) := ⟨_, rfl⟩
 rw [← hW0] at q0 hb0 h0 hI0
 change Code.wp _ _ _ _ (w.alloc (.cells #[.int .i64 v.slot, .int .u64 v.head, .int .i64 v.src.e, .int .u64 v.src.r, .int .i64 v.tgt.e, .int .u64 v.tgt.r, .slice A3 v.who.length k3] 53))
 rw [← hW0]
 have hsz0 : W0.heap.size = w.heap.size + 1 := by rw [hW0]; simp
 generalize hB : w.heap.size = B at q0 hb0 hsz0 hBb ⊢
 have HB := Lib.hid hB
 clear hW0 hB
 obtain ⟨hw1, hw2, ⟨hw3, hw3'⟩, ⟨hw4, hw4'⟩, hw5⟩ := hwf
 have HW5 := Lib.hid hw5
 unfold inI at hw1 hw3 hw4
 have KJ : ∀ W, Below W0.heap.size W0 W → (W.cell? ⟨p.sb, 0, none⟩ = some (.slice (some ⟨p.bb, 0, none⟩) x.1.c.bal.length k) ∧ W.cell? ⟨p.sb, 1, none⟩ = some (.int .i64 x.1.c.slots) ∧ W.cell? ⟨p.sb, 2, none⟩ = some (.int .i64 x.1.c.boost) ∧ W.cell? ⟨p.sb, 3, none⟩ = some (.pointer (some ⟨p.tb, 0, none⟩)) ∧ W.cell? ⟨p.sb, 4, none⟩ = some (.slice (some ⟨p.vb, 0, none⟩) x.1.votes.length vk) ∧ W.cell? ⟨p.sb, 5, none⟩ = some (.int .i64 x.1.slot)) ∧ (W.cell? ⟨B, 0, none⟩ = some (.int .i64 v.slot) ∧ W.cell? ⟨B, 1, none⟩ = some (.int .u64 v.head) ∧ W.cell? ⟨B, 2, none⟩ = some (.int .i64 v.src.e) ∧ W.cell? ⟨B, 3, none⟩ = some (.int .u64 v.src.r) ∧ W.cell? ⟨B, 4, none⟩ = some (.int .i64 v.tgt.e) ∧ W.cell? ⟨B, 5, none⟩ = some (.int .u64 v.tgt.r) ∧ W.cell? ⟨B, 6, none⟩ = some (.slice A3 v.who.length k3)) := fun W hW => by
  obtain ⟨c0, c1, c2, c3, c4, c5, _⟩ := (h0.st.below hW).cells
  exact ⟨⟨c0, c1, c2, c3, c4, c5⟩, cs7 (blk_below q0 hW)⟩
 have cG := fun (W : World) (hW : Below W0.heap.size W0 W) => Get_calls (h0.st.tree.below hW) v.head
 have cE := fun W => EpochOf_calls W x.1.slot x.1.c.slots (by have := hs.sl0; have := hs.sl1; unfold inI; omega) (by have := hs.c.s1; have := hs.c.s2; unfold inI; omega)
 have cR : ∀ W, Below W0.heap.size W0 W → Calls Tryz.prog 63 #[cfC x.1.c (some ⟨p.bb, 0, none⟩) k, .agg #[.int .i64 v.slot, .int .u64 v.head, .int .i64 v.src.e, .int .u64 v.src.r, .int .i64 v.tgt.e, .int .u64 v.tgt.r, .slice A3 v.who.length k3]] W fun e w' => e = .returned (.bool (rightB x.1.c v)) ∧ Below W.heap.size W w' := fun (W : World) (hW : Below W0.heap.size W0 W) => Right_calls W x.1.c (some ⟨p.bb, 0, none⟩) k v A3 k3 hs.c ⟨hw1, hw2, ⟨hw3, hw3'⟩, ⟨hw4, hw4'⟩, HW5.out⟩ hvl (Lie.any (hI0.below hW))
 have hD : Below W0.heap.size W0 W0.drew := (Below.refl _ _).drew
 go_region_held3 (fun w' => (w'.cell? ⟨p.sb, 0, none⟩ = some (.slice (some ⟨p.bb, 0, none⟩) x.1.c.bal.length k) ∧ w'.cell? ⟨p.sb, 1, none⟩ = some (.int .i64 x.1.c.slots) ∧ w'.cell? ⟨p.sb, 2, none⟩ = some (.int .i64 x.1.c.boost) ∧ w'.cell? ⟨p.sb, 3, none⟩ = some (.pointer (some ⟨p.tb, 0, none⟩)) ∧ w'.cell? ⟨p.sb, 4, none⟩ = some (.slice (some ⟨p.vb, 0, none⟩) x.1.votes.length vk) ∧ w'.cell? ⟨p.sb, 5, none⟩ = some (.int .i64 x.1.slot)) ∧ (w'.cell? ⟨B, 0, none⟩ = some (.int .i64 v.slot) ∧ w'.cell? ⟨B, 1, none⟩ = some (.int .u64 v.head) ∧ w'.cell? ⟨B, 2, none⟩ = some (.int .i64 v.src.e) ∧ w'.cell? ⟨B, 3, none⟩ = some (.int .u64 v.src.r) ∧ w'.cell? ⟨B, 4, none⟩ = some (.int .i64 v.tgt.e) ∧ w'.cell? ⟨B, 5, none⟩ = some (.int .u64 v.tgt.r) ∧ w'.cell? ⟨B, 6, none⟩ = some (.slice A3 v.who.length k3)))
  (first | (with_reducible exact KJ _ hD) | (with_reducible exact KJ _ (by assumption)))
  (first | (go_at_call 42; refine (cG _ hD).mono ?_; rintro e w1 ⟨rfl, hb1'⟩; have hb1 := hD.trans (hb1'.mono hD.size)))
 go_upto_region 2 with fail
 have hD1 := hb1.drew
 go_region_held3 (fun w' => (w'.cell? ⟨p.sb, 0, none⟩ = some (.slice (some ⟨p.bb, 0, none⟩) x.1.c.bal.length k) ∧ w'.cell? ⟨p.sb, 1, none⟩ = some (.int .i64 x.1.c.slots) ∧ w'.cell? ⟨p.sb, 2, none⟩ = some (.int .i64 x.1.c.boost) ∧ w'.cell? ⟨p.sb, 3, none⟩ = some (.pointer (some ⟨p.tb, 0, none⟩)) ∧ w'.cell? ⟨p.sb, 4, none⟩ = some (.slice (some ⟨p.vb, 0, none⟩) x.1.votes.length vk) ∧ w'.cell? ⟨p.sb, 5, none⟩ = some (.int .i64 x.1.slot)) ∧ (w'.cell? ⟨B, 0, none⟩ = some (.int .i64 v.slot) ∧ w'.cell? ⟨B, 1, none⟩ = some (.int .u64 v.head) ∧ w'.cell? ⟨B, 2, none⟩ = some (.int .i64 v.src.e) ∧ w'.cell? ⟨B, 3, none⟩ = some (.int .u64 v.src.r) ∧ w'.cell? ⟨B, 4, none⟩ = some (.int .i64 v.tgt.e) ∧ w'.cell? ⟨B, 5, none⟩ = some (.int .u64 v.tgt.r) ∧ w'.cell? ⟨B, 6, none⟩ = some (.slice A3 v.who.length k3)))
  (first | (with_reducible exact KJ _ hD1))
  (first | (go_at_call 53; refine (cE _).mono ?_; rintro e w2 ⟨rfl, rfl⟩))
 go_upto_region 3 with fail
 have hb3' := hD1.drew
 have hHB : ∀ W, Below W0.heap.size W0 W → Below w.heap.size w W := fun W hW => by
  rw [HB.out]
  exact hb0.trans (hW.mono (by omega))
 have HHB := Lib.hid hHB
 clear hHB
 cases hR : rightB x.1.c v with
 | false =>
  have HE : Hid (attestE x.1 v inside = 9) := by show _ = _; rw [attestE, hR]; rfl
  rw [hR] at cR
  have HR := Lib.hid hR
  clear hR
  go_region_held3 (fun w' => (w'.cell? ⟨p.sb, 0, none⟩ = some (.slice (some ⟨p.bb, 0, none⟩) x.1.c.bal.length k) ∧ w'.cell? ⟨p.sb, 1, none⟩ = some (.int .i64 x.1.c.slots) ∧ w'.cell? ⟨p.sb, 2, none⟩ = some (.int .i64 x.1.c.boost) ∧ w'.cell? ⟨p.sb, 3, none⟩ = some (.pointer (some ⟨p.tb, 0, none⟩)) ∧ w'.cell? ⟨p.sb, 4, none⟩ = some (.slice (some ⟨p.vb, 0, none⟩) x.1.votes.length vk) ∧ w'.cell? ⟨p.sb, 5, none⟩ = some (.int .i64 x.1.slot)) ∧ (w'.cell? ⟨B, 0, none⟩ = some (.int .i64 v.slot) ∧ w'.cell? ⟨B, 1, none⟩ = some (.int .u64 v.head) ∧ w'.cell? ⟨B, 2, none⟩ = some (.int .i64 v.src.e) ∧ w'.cell? ⟨B, 3, none⟩ = some (.int .u64 v.src.r) ∧ w'.cell? ⟨B, 4, none⟩ = some (.int .i64 v.tgt.e) ∧ w'.cell? ⟨B, 5, none⟩ = some (.int .u64 v.tgt.r) ∧ w'.cell? ⟨B, 6, none⟩ = some (.slice A3 v.who.length k3)))
   (first | (with_reducible exact KJ _ hb3') | (with_reducible exact KJ _ (by assumption)))
   (first | (go_at_call 63; refine (cR _ hb3').mono ?_; rintro e w4 ⟨rfl, hb4'⟩; have hb4 := hb3'.trans (hb4'.mono hb3'.size)))
  go_wp2
  go_ret
  exact hRet.out 9 _ HE.out (by decide) (HHB.out _ hb4)
 | true =>
  have HR := Lib.hid hR
  have hte : v.tgt.e = epochOf v.slot x.1.c.slots ∧ 0 ≤ v.slot ∧ 0 ≤ v.tgt.e := by
   unfold rightB at hR
   simp only [Bool.and_eq_true, decide_eq_true_eq, beq_iff_eq] at hR
   obtain ⟨⟨⟨⟨⟨_, a⟩, b⟩, d⟩, e⟩, _⟩ := hR
   exact ⟨e, a, by omega⟩
  rw [hR] at cR
  have HTe := Lib.hid hte
  clear hte
  go_region_held3 (fun w' => (w'.cell? ⟨p.sb, 0, none⟩ = some (.slice (some ⟨p.bb, 0, none⟩) x.1.c.bal.length k) ∧ w'.cell? ⟨p.sb, 1, none⟩ = some (.int .i64 x.1.c.slots) ∧ w'.cell? ⟨p.sb, 2, none⟩ = some (.int .i64 x.1.c.boost) ∧ w'.cell? ⟨p.sb, 3, none⟩ = some (.pointer (some ⟨p.tb, 0, none⟩)) ∧ w'.cell? ⟨p.sb, 4, none⟩ = some (.slice (some ⟨p.vb, 0, none⟩) x.1.votes.length vk) ∧ w'.cell? ⟨p.sb, 5, none⟩ = some (.int .i64 x.1.slot)) ∧ (w'.cell? ⟨B, 0, none⟩ = some (.int .i64 v.slot) ∧ w'.cell? ⟨B, 1, none⟩ = some (.int .u64 v.head) ∧ w'.cell? ⟨B, 2, none⟩ = some (.int .i64 v.src.e) ∧ w'.cell? ⟨B, 3, none⟩ = some (.int .u64 v.src.r) ∧ w'.cell? ⟨B, 4, none⟩ = some (.int .i64 v.tgt.e) ∧ w'.cell? ⟨B, 5, none⟩ = some (.int .u64 v.tgt.r) ∧ w'.cell? ⟨B, 6, none⟩ = some (.slice A3 v.who.length k3)))
   (first | (with_reducible exact KJ _ hb3') | (with_reducible exact KJ _ (by assumption)))
   (first | (go_at_call 63; refine (cR _ hb3').mono ?_; rintro e w4 ⟨rfl, hb4'⟩; have hb4 := hb3'.trans (hb4'.mono hb3'.size)))
  go_upto_region 5 with fail
  have HE1 : Hid (attestE x.1 v inside = if x.1.slot < v.slot ∨ (inside = false ∧ v.slot = x.1.slot) then 4 else if inside = false ∧ v.tgt.e + 1 < epochOf x.1.slot x.1.c.slots then 3 else if x.1.tree.has v.head = false ∨ v.slot < (x.1.tree.nd v.head).slot then 10
      else if x.1.tree.at_ v.head (epochStart v.tgt.e x.1.c.slots) ≠ v.tgt.r then 9 else 0) := by
   show _ = _
   rw [attestE, HR.out]; rfl
  obtain ⟨⟨c0, c1, c2, c3, c4, c5⟩, d0, d1, d2, d3, d4, d5, d6⟩ := KJ _ hb4
  clear hR cR cG cE hb3' hD hb1 hD1 hb1' hb4'
  have hsl1 := hs.sl1
  have hsl0 := hs.sl0
  obtain ⟨E5, hE5⟩ : ∃ E5, E5 = decide (x.1.slot < v.slot ∨ (inside = false ∧ v.slot = x.1.slot)) := ⟨_, rfl⟩
  have HE5 := Lib.hid hE5
  clear hE5
  go_cut [47] (fun b w' => b = .bool E5 ∧ Below W0.heap.size W0 w')
  case first =>
   by_cases hgt : x.1.slot < v.slot
   ·have hgd : decide (x.1.slot < v.slot) = true := by simp [hgt]
    go_quiet (fail)
    go_wp2
    go_meet
    case rel => exact ⟨by rw [HE5.out]; simp [hgt], below_drewN hb4 _⟩
   ·have hgd : decide (x.1.slot < v.slot) = false := by simp [hgt]
    cases inside with
    | false =>
     go_quiet (fail)
     go_wp2
     go_meet
     case rel => exact ⟨by rw [HE5.out]; congr 1; rw [Bool.eq_iff_iff]; simp; omega, below_drewN hb4 _⟩
    | true =>
     go_quiet (fail)
     go_wp2
     go_meet
     case rel => exact ⟨by rw [HE5.out]; simp [hgt], below_drewN hb4 _⟩
  case rest =>
   obtain ⟨rfl, hb5⟩ := hcut
   obtain ⟨W5, rfl⟩ : ∃ W5 : World, W5 = wc := ⟨_, rfl⟩
   obtain ⟨⟨c0, c1, c2, c3, c4, c5⟩, d0, d1, d2, d3, d4, d5, d6⟩ := KJ _ hb5
   cases E5 with
   | true =>
    have HE : Hid (attestE x.1 v inside = 4) := by
     show _ = _
     have := HE5.out
     rw [HE1.out, if_pos (by simpa using this.symm)]
    go_wp2
    go_ret
    exact hRet.out 4 _ HE.out (by decide) (HHB.out _ hb5)
   | false =>
    have hns : ¬ x.1.slot < v.slot := fun hh => by
     have := HE5.out
     simp [hh] at this
    have HE2 : Hid (attestE x.1 v inside = if inside = false ∧ v.tgt.e + 1 < epochOf x.1.slot x.1.c.slots then 3 else if x.1.tree.has v.head = false ∨ v.slot < (x.1.tree.nd v.head).slot then 10
        else if x.1.tree.at_ v.head (epochStart v.tgt.e x.1.c.slots) ≠ v.tgt.r then 9 else 0) := by
     show _ = _
     have := HE5.out
     rw [HE1.out, if_neg (by simpa using this.symm)]
    have hte2 : 0 ≤ v.tgt.e ∧ v.tgt.e ≤ 1099511627776 := by
     have a := HTe.out
     have b := epochOf_le v.slot x.1.c.slots a.2.1
     omega
    obtain ⟨hte0, hte1⟩ := hte2
    have hwr : IntKind.i64.wrap (v.tgt.e + 1) = v.tgt.e + 1 := IntWalk.i64_in _ (by omega)
    clear hns hb4
    obtain ⟨E7, hE7⟩ : ∃ E7, E7 = decide (inside = false ∧ v.tgt.e + 1 < epochOf x.1.slot x.1.c.slots) := ⟨_, rfl⟩
    have HE7 := Lib.hid hE7
    clear hE7
    generalize hNW : epochOf x.1.slot x.1.c.slots = nw at HE7 HE2
    have HNW := Lib.hid hNW
    clear hNW
    go_upto_region 7 with fail
    go_cut [69] (fun b w' => b = .bool E7 ∧ w' = W5)
    case first =>
     cases inside with
     | false =>
      go_wp2
      go_meet
      case rel => exact ⟨by rw [HE7.out]; simp [HNW.out], rfl⟩
     | true =>
      go_wp2
      go_meet
      case rel => exact ⟨by rw [HE7.out]; simp, rfl⟩
    case rest =>
     obtain ⟨rfl, rfl⟩ := hcut
     cases E7 with
     | true =>
      have HE : Hid (attestE x.1 v inside = 3) := by
       show _ = _
       have := HE7.out
       rw [HE2.out, if_pos (by simpa using this.symm)]
      go_wp2
      go_ret
      exact hRet.out 3 _ HE.out (by decide) (HHB.out _ hb5)
     | false =>
      have HE3 : Hid (attestE x.1 v inside = if x.1.tree.has v.head = false ∨ v.slot < (x.1.tree.nd v.head).slot then 10
          else if x.1.tree.at_ v.head (epochStart v.tgt.e x.1.c.slots) ≠ v.tgt.r then 9 else 0) := by
       show _ = _
       have := HE7.out
       rw [HE2.out, if_neg (by simpa using this.symm)]
      clear HE1 HE2
      go_upto_region 9 with fail
      cases hh : x.1.tree.has v.head with
      | false =>
       have HE : Hid (attestE x.1 v inside = 10) := by show _ = _; rw [HE3.out, if_pos (.inl hh)]
       go_wp2
       go_ret
       exact hRet.out 10 _ HE.out (by decide) (HHB.out _ hb5)
      | true =>
       by_cases hsl : v.slot < (x.1.tree.nd v.head).slot
       ·have HE : Hid (attestE x.1 v inside = 10) := by show _ = _; rw [HE3.out, if_pos (.inr hsl)]
        go_wp2
        go_ret
        exact hRet.out 10 _ HE.out (by decide) (HHB.out _ hb5)
       ·have HE4 : Hid (attestE x.1 v inside = if x.1.tree.at_ v.head (epochStart v.tgt.e x.1.c.slots) ≠ v.tgt.r then 9 else 0) := by
           show _ = _
           rw [HE3.out, if_neg (by rintro (h1 | h1); · rw [hh] at h1; cases h1
                                   ·exact hsl h1)]
        have HHh := Lib.hid hh
        clear hh HE3
        go_upto_region 11 with fail
        have hD5 := hb5.drew
        have cS := fun W => EpochStart_calls W v.tgt.e x.1.c.slots (by unfold inI; omega) hs.c.s2 hte1
        have cA := fun (W : World) (hW : Below W0.heap.size W0 W) => At_calls (h0.st.tree.below hW) hs.t v.head (epochStart v.tgt.e x.1.c.slots)
        generalize epochStart v.tgt.e x.1.c.slots = es at cS cA HE4
        generalize x.1.tree.at_ v.head es = av at cA HE4
        go_region_held3 (fun w' => (w'.cell? ⟨p.sb, 0, none⟩ = some (.slice (some ⟨p.bb, 0, none⟩) x.1.c.bal.length k) ∧ w'.cell? ⟨p.sb, 1, none⟩ = some (.int .i64 x.1.c.slots) ∧ w'.cell? ⟨p.sb, 2, none⟩ = some (.int .i64 x.1.c.boost) ∧ w'.cell? ⟨p.sb, 3, none⟩ = some (.pointer (some ⟨p.tb, 0, none⟩)) ∧ w'.cell? ⟨p.sb, 4, none⟩ = some (.slice (some ⟨p.vb, 0, none⟩) x.1.votes.length vk) ∧ w'.cell? ⟨p.sb, 5, none⟩ = some (.int .i64 x.1.slot)) ∧ (w'.cell? ⟨B, 0, none⟩ = some (.int .i64 v.slot) ∧ w'.cell? ⟨B, 1, none⟩ = some (.int .u64 v.head) ∧ w'.cell? ⟨B, 2, none⟩ = some (.int .i64 v.src.e) ∧ w'.cell? ⟨B, 3, none⟩ = some (.int .u64 v.src.r) ∧ w'.cell? ⟨B, 4, none⟩ = some (.int .i64 v.tgt.e) ∧ w'.cell? ⟨B, 5, none⟩ = some (.int .u64 v.tgt.r) ∧ w'.cell? ⟨B, 6, none⟩ = some (.slice A3 v.who.length k3)))
         (first | (with_reducible exact KJ _ hD5) | (with_reducible exact KJ _ (by assumption)))
         (first
           | (go_at_call 64; refine (cS _).mono ?_; rintro e w6 ⟨rfl, rfl⟩)
           | (go_at_call 49; refine (cA _ hD5).mono ?_; rintro e w7 ⟨rfl, hb7'⟩; have hb7 := hD5.trans (hb7'.mono hD5.size)))
        by_cases hav : av = v.tgt.r
        ·have hav1 : (av != v.tgt.r) = false := by simp [hav]
         have HE : Hid (attestE x.1 v inside = 0) := by show _ = _; rw [HE4.out, if_neg (by simp [hav])]
         clear hav HE4 hsl
         simp only [hav1]
         go_upto_region 13 with fail
         have HS : Hid (attestS x v inside = v.who.foldl (moveOne v.tgt.e v.head) x) := by show _ = _; rw [attestS, if_pos HE.out]
         have h7 := h0.below hb7
         have hI7 := Lib.hid (hI0.below hb7)
         have hq7 := Lib.hid (blk_below q0 hb7)
         have hbw7 := Lib.hid (HHB.out _ hb7)
         have HWk := Lib.hid (rightB_who HR.out)
         have hwl : v.who.length ≤ 4096 := by have := whoOk_len HWk.out; have := hs.c.l2; omega
         have hB7 : B + 1 ≤ w7.heap.size := by have := hb7.size; omega
         obtain ⟨_, d0, d1, d2, d3, d4, d5, d6⟩ := KJ _ hb7
         have hOff : OffB ch B (B + 1) := fun b hb hc => by have := hch b hb; rw [HB.out] at this; omega
         clear cS cA hD5 hb5 KJ hb7 hb7' q0 c0 c1 c2 c3 c4 c5 hav1
         go_wp2
         go_loopw [116] (fun i wr => ∃ (j : Nat) (chj : Value), j ≤ v.who.length ∧ i = .int .i64 j ∧ Hid (ApAt wr base p ((v.who.take j).foldl (moveOne v.tgt.e v.head) x) k vk chj) ∧ Hid (OffB chj B (B + 1)) ∧ Hid (Ext (p.foot2 base B (B + 1)) w7 wr)) (fun i _ => v.who.length - (intOf i).toNat)
         case atStart => exact ⟨0, ch, Nat.zero_le _, rfl, h7, hOff, Ext.refl _ _⟩
         case round =>
          clear d0 d1 d2 d3 d4 d5 d6
          obtain ⟨j, chj, hj, rfl, HA, HC, HX⟩ := hrel
          by_cases hlt : j < v.who.length
          ·obtain ⟨b, o, rfl, hbk, hc⟩ := (hI7.out.keep HX.out (fun i hi hf => hi hf.1)).get hlt
           have HT : Hid ((v.who.take (j + 1)).foldl (moveOne v.tgt.e v.head) x = moveOne v.tgt.e v.head ((v.who.take j).foldl (moveOne v.tgt.e v.head) x) (v.who.getD j 0)) := by
            show _ = _
            rw [foldl_snoc _ _ _ _ hlt, List.getD_eq_getElem?_getD, List.getElem?_eq_getElem hlt]; rfl
           have hkk := whoOk_get HWk.out hlt
           have hkk : 0 ≤ v.who.getD j 0 ∧ v.who.getD j 0 < x.1.c.bal.length := ⟨hkk.1, hkk.2.1⟩
           obtain ⟨g1, g2, g3⟩ := moveAll_bd v.tgt.e v.head (v.who.take j) x
           rw [List.length_take] at g1
           generalize (v.who.take j).foldl (moveOne v.tgt.e v.head) x = X at HA HT g1 g2 g3
           generalize v.who.getD j 0 = kk at hc HT hkk
           have hvl' : X.1.votes.length ≤ 4096 := by rw [g3, hs.vl]; exact hs.c.l2
           have hki : inI kk := by have := hs.c.l2; unfold inI; omega
           have hti : inI v.tgt.e := by unfold inI; omega
           obtain ⟨_, _, _, _, c4, _, _, _, _, _, _, _, _, c13⟩ := HA.out.st.cells
           have hBq : wr.heap[B]? = some (.cells #[.int .i64 v.slot, .int .u64 v.head, .int .i64 v.src.e, .int .u64 v.src.r, .int .i64 v.tgt.e, .int .u64 v.tgt.r, .slice (some ⟨b, o, none⟩) v.who.length k3] 53 (0, 0)) := blk_ext hq7.out HX.out (fun hf => hf.2 ⟨Nat.le_refl _, Nat.lt_succ_self _⟩)
           have HBq := Lib.hid hBq
           obtain ⟨d0, d1, d2, d3, d4, d5, d6⟩ := cs7 hBq
           have cG := VGet_calls HA.out.st.votes vk kk hki hvl'
           have hAd := HA.out.below (Below.refl _ wr).drew
           have cB := VTake_calls hAd.st.votes vk kk v.tgt.e v.head hki hti hvl'
           have hsbv : p.sb ≠ p.vb := HA.out.st.ne.1.2.2.1
           have hvb : Hid (p.foot2 base B (B + 1) p.vb) := foot2_has (by simp [Places.has]) (HH.out.hi _ (by simp [Places.old])) hBb
           have hxl : X.2.length ≤ 1010000 := by omega
           have hBv : B ≠ p.vb := by have := HH.out.hi p.vb (by simp [Places.old]); omega
           have KT : ∀ W, Ext (fun i => i = p.vb) wr.drew W → W.cell? ⟨p.sb, 4, none⟩ = some (.slice (some ⟨p.vb, 0, none⟩) X.1.votes.length vk) ∧ (W.cell? ⟨B, 0, none⟩ = some (.int .i64 v.slot) ∧ W.cell? ⟨B, 1, none⟩ = some (.int .u64 v.head) ∧ W.cell? ⟨B, 2, none⟩ = some (.int .i64 v.src.e) ∧ W.cell? ⟨B, 3, none⟩ = some (.int .u64 v.src.r) ∧ W.cell? ⟨B, 4, none⟩ = some (.int .i64 v.tgt.e) ∧ W.cell? ⟨B, 5, none⟩ = some (.int .u64 v.tgt.r) ∧ W.cell? ⟨B, 6, none⟩ = some (.slice (some ⟨b, o, none⟩) v.who.length k3)) := fun W hW => ⟨cell_ext (w := wr.drew) (F := fun i => i = p.vb) c4 hW hsbv, cs7 (blk_ext (w := wr.drew) hBq hW hBv)⟩
           clear g1 g2 g3 hkk hBq
           cases hban : takes X.1.votes kk v.tgt.e with
           | false =>
            rw [hban] at cB
            have HBn := Lib.hid hban
            go_upto_region 17 with (go_at_call 65; refine cG.mono ?_; rintro e w4 ⟨rfl, rfl⟩)
            go_region_held3 (fun w' => w'.cell? ⟨p.sb, 4, none⟩ = some (.slice (some ⟨p.vb, 0, none⟩) X.1.votes.length vk) ∧ (w'.cell? ⟨B, 0, none⟩ = some (.int .i64 v.slot) ∧ w'.cell? ⟨B, 1, none⟩ = some (.int .u64 v.head) ∧ w'.cell? ⟨B, 2, none⟩ = some (.int .i64 v.src.e) ∧ w'.cell? ⟨B, 3, none⟩ = some (.int .u64 v.src.r) ∧ w'.cell? ⟨B, 4, none⟩ = some (.int .i64 v.tgt.e) ∧ w'.cell? ⟨B, 5, none⟩ = some (.int .u64 v.tgt.r) ∧ w'.cell? ⟨B, 6, none⟩ = some (.slice (some ⟨b, o, none⟩) v.who.length k3))) (first | exact KT _ (Ext.refl _ _) | exact KT _ (by assumption)) (first | (go_at_call 66; refine cB.mono ?_; rintro e w5 ⟨rfl, hv5, hx5⟩))
            go_wp2
            go_roundw
            case rel =>
             have e : takeV X.1.votes kk v.tgt.e v.head = X.1.votes := by rw [takeV, HBn.out]; rfl
             rw [e] at hv5
             refine ⟨j + 1, chj, by omega, by go_num, ?_, HC, HX.out.drew.trans hx5 (fun i _ hi => by have e : i = p.vb := hi; subst e; exact hvb.out)⟩
             show ApAt _ _ _ _ _ _ _
             rw [HT.out, moveOne, HBn.out]
             exact hAd.vote hx5 hv5 rfl
            case measure => simp [intOf]; omega
           | true =>
            rw [hban] at cB
            have HBn := Lib.hid hban
            go_upto_region 17 with (go_at_call 65; refine cG.mono ?_; rintro e w4 ⟨rfl, rfl⟩)
            go_region_held3 (fun w' => w'.cell? ⟨p.sb, 4, none⟩ = some (.slice (some ⟨p.vb, 0, none⟩) X.1.votes.length vk) ∧ (w'.cell? ⟨B, 0, none⟩ = some (.int .i64 v.slot) ∧ w'.cell? ⟨B, 1, none⟩ = some (.int .u64 v.head) ∧ w'.cell? ⟨B, 2, none⟩ = some (.int .i64 v.src.e) ∧ w'.cell? ⟨B, 3, none⟩ = some (.int .u64 v.src.r) ∧ w'.cell? ⟨B, 4, none⟩ = some (.int .i64 v.tgt.e) ∧ w'.cell? ⟨B, 5, none⟩ = some (.int .u64 v.tgt.r) ∧ w'.cell? ⟨B, 6, none⟩ = some (.slice (some ⟨b, o, none⟩) v.who.length k3))) (first | exact KT _ (Ext.refl _ _) | exact KT _ (by assumption)) (first | (go_at_call 66; refine cB.mono ?_; rintro e w5 ⟨rfl, hv5, hx5⟩))
            go_upto_region 18 with fail
            obtain ⟨cc, hcc⟩ : ∃ cc : Chg, cc = ⟨1, v.head, 0, kk, (getV X.1.votes kk).1, (getV X.1.votes kk).2⟩ := ⟨_, rfl⟩
            have hA5' := (hAd.vote hx5 hv5 (takeV_length _ _ _ _)).below (Below.refl _ w5).drew
            have hX5' := Lib.hid ((HX.out.drew.trans hx5 (fun i _ hi => by have e : i = p.vb := hi; subst e; exact hvb.out)).drew)
            have hq5' : w5.drew.heap[B]? = some (.cells #[.int .i64 v.slot, .int .u64 v.head, .int .i64 v.src.e, .int .u64 v.src.r, .int .i64 v.tgt.e, .int .u64 v.tgt.r, .slice (some ⟨b, o, none⟩) v.who.length k3] 53 (0, 0)) := blk_below (blk_ext (w := wr.drew) (F := fun i => i = p.vb) HBq.out hx5 hBv) (Below.refl _ w5).drew
            have HCC := Lib.hid hcc
            generalize hW5 : w5.drew = w6 at hA5' hX5' hq5'
            have hA6 := hA5'.below (below_alloc (Below.refl _ _) (.cells (chgC cc).toArray 140))
            obtain ⟨_, _, _, _, _, _, _, _, _, _, _, _, _, d13⟩ := hA5'.st.cells
            have K5 : w6.cell? ⟨p.sb, 13, none⟩ = some chj ∧ (w6.cell? ⟨B, 0, none⟩ = some (.int .i64 v.slot) ∧ w6.cell? ⟨B, 1, none⟩ = some (.int .u64 v.head) ∧ w6.cell? ⟨B, 2, none⟩ = some (.int .i64 v.src.e) ∧ w6.cell? ⟨B, 3, none⟩ = some (.int .u64 v.src.r) ∧ w6.cell? ⟨B, 4, none⟩ = some (.int .i64 v.tgt.e) ∧ w6.cell? ⟨B, 5, none⟩ = some (.int .u64 v.tgt.r) ∧ w6.cell? ⟨B, 6, none⟩ = some (.slice (some ⟨b, o, none⟩) v.who.length k3)) := ⟨d13, cs7 hq5'⟩
            have K6 : (w6.alloc (.cells (chgC cc).toArray 140)).cell? ⟨p.sb, 13, none⟩ = some chj ∧ ((w6.alloc (.cells (chgC cc).toArray 140)).cell? ⟨B, 0, none⟩ = some (.int .i64 v.slot) ∧ (w6.alloc (.cells (chgC cc).toArray 140)).cell? ⟨B, 1, none⟩ = some (.int .u64 v.head) ∧ (w6.alloc (.cells (chgC cc).toArray 140)).cell? ⟨B, 2, none⟩ = some (.int .i64 v.src.e) ∧ (w6.alloc (.cells (chgC cc).toArray 140)).cell? ⟨B, 3, none⟩ = some (.int .u64 v.src.r) ∧ (w6.alloc (.cells (chgC cc).toArray 140)).cell? ⟨B, 4, none⟩ = some (.int .i64 v.tgt.e) ∧ (w6.alloc (.cells (chgC cc).toArray 140)).cell? ⟨B, 5, none⟩ = some (.int .u64 v.tgt.r) ∧ (w6.alloc (.cells (chgC cc).toArray 140)).cell? ⟨B, 6, none⟩ = some (.slice (some ⟨b, o, none⟩) v.who.length k3)) := by
             obtain ⟨_, _, _, _, _, _, _, _, _, _, _, _, _, d13'⟩ := hA6.st.cells
             exact ⟨d13', cs7 (blk_below hq5' (below_alloc (Below.refl _ _) _))⟩
            have K7 : ∀ w7, (w6.alloc (.cells (chgC cc).toArray 140)).grownBy w7 chj.ownBlock → w7.cell? ⟨p.sb, 13, none⟩ = some chj → w7.cell? ⟨p.sb, 13, none⟩ = some chj ∧ (w7.cell? ⟨B, 0, none⟩ = some (.int .i64 v.slot) ∧ w7.cell? ⟨B, 1, none⟩ = some (.int .u64 v.head) ∧ w7.cell? ⟨B, 2, none⟩ = some (.int .i64 v.src.e) ∧ w7.cell? ⟨B, 3, none⟩ = some (.int .u64 v.src.r) ∧ w7.cell? ⟨B, 4, none⟩ = some (.int .i64 v.tgt.e) ∧ w7.cell? ⟨B, 5, none⟩ = some (.int .u64 v.tgt.r) ∧ w7.cell? ⟨B, 6, none⟩ = some (.slice (some ⟨b, o, none⟩) v.who.length k3)) := fun w7 hg e13 => by
             have hq6 := blk_below hq5' (below_alloc (Below.refl _ _) (.cells (chgC cc).toArray 140))
             have hq8 := grown_keep hg hq6 (fun e => HC.out B e.symm ⟨Nat.le_refl _, Nat.lt_succ_self _⟩)
             exact ⟨e13, cs7 hq8⟩
            have hfl := flat_new w6 (chgC cc) 140
            have hbnd : (X.2.length + 1) * 48 ≤ 140737488355328 := by omega
            have hbnd2 : X.2.length + 1 ≤ 140737488355328 := by omega
            have HOw := Lib.hid hA6.chs
            have hb6 := hA6.hb
            have hsz6 : (w6.alloc (.cells (chgC cc).toArray 140)).heap.size = w6.heap.size + 1 := by simp
            clear hx5 hv5 c4 c13 cG cB KT hti hki
            rw [hcc] at hfl HOw hb6 hsz6 K6
            simp only [chgC] at hfl hb6 hsz6 K6
            refine beginK (fun w' => w'.cell? ⟨p.sb, 13, none⟩ = some chj ∧ (w'.cell? ⟨B, 0, none⟩ = some (.int .i64 v.slot) ∧ w'.cell? ⟨B, 1, none⟩ = some (.int .u64 v.head) ∧ w'.cell? ⟨B, 2, none⟩ = some (.int .i64 v.src.e) ∧ w'.cell? ⟨B, 3, none⟩ = some (.int .u64 v.src.r) ∧ w'.cell? ⟨B, 4, none⟩ = some (.int .i64 v.tgt.e) ∧ w'.cell? ⟨B, 5, none⟩ = some (.int .u64 v.tgt.r) ∧ w'.cell? ⟨B, 6, none⟩ = some (.slice (some ⟨b, o, none⟩) v.who.length k3))) 15 (by rfl) ?_
            rw [hW5]
            have hHeld := K5
            refine kW 0 140 hHeld ?_
            refine kW 1 141 hHeld ?_
            refine kW 2 142 hHeld ?_
            refine kW 3 143 hHeld ?_
            refine kW 4 144 hHeld ?_
            refine kW 5 145 hHeld ?_
            refine kW 6 146 hHeld ?_
            refine kW 7 147 hHeld ?_
            refine kW 8 148 hHeld ?_
            refine kW 9 149 hHeld ?_
            refine kW 10 150 hHeld ?_
            refine readyK (rs := [11]) (by kernel_rfl) (by simp) ?_
            refine AllReadyK.cons rfl (fun K hK => ?_) AllReadyK.nil
            go_simp
            refine hK.out _ _ (fun _ => K6) ?_
            have hHeld := K6
            clear hK K
            try simp only [Act.put, sA, sB, sC]
            refine readyK (rs := [12]) (by kernel_rfl) (by simp) ?_
            refine AllReadyK.cons rfl (fun K hK => ?_) AllReadyK.nil
            refine step_app base (by rfl) (.tmp 144) (.tmp 151) 41 140 (.agg #[.int .i64 0, .int .u64 0, .int .u64 0, .int .i64 0, .int .u64 0, .bool false]) 6 48 rfl Tryz.underlying41 infoChg rfl (by decide) chj X.2.length _ (by rfl) HOw.out (some ⟨w6.heap.size, 0, none⟩) 1 1 _ (by rfl) rfl hfl (chgC_one ⟨1, v.head, 0, kk, (getV X.1.votes kk).1, (getV X.1.votes kk).2⟩) hbnd hbnd2 hb6 ?_
            intro A7 k7 w7 hown hg hnew
            have hA7 := (hA6.grown (by rw [HCC.out]; exact hg)).1
            obtain ⟨_, _, _, _, _, _, _, _, _, _, _, _, _, e13⟩ := hA7.cells
            have ez := blk_frozen hA7.blk 13
            have hH7 := K7 _ (by rw [HCC.out]; exact hg) e13
            refine hK.out _ _ (fun _ => hH7) ?_
            have hHeld := hH7
            clear hK K
            try simp only [Act.put, sA, sB, sC]
            refine kW 13 153 hHeld ?_
            refine kW 14 154 hHeld ?_
            refine readyK (rs := [15]) (by kernel_rfl) (by simp) ?_
            refine AllReadyK.cons rfl (fun K hK => ?_) AllReadyK.nil
            go_simp
            refine hK.out _ _ (fun h => absurd rfl h) ?_
            clear hK K
            try simp only [Act.put, sA, sB, sC]
            refine doneK (by kernel_rfl) ?_ _
            go_wp2
            go_roundw
            case rel =>
             obtain ⟨r1, r2, r3⟩ := push_all (w6 := w6.alloc (.cells (chgC cc).toArray 140)) hX5'.out hBb hB7 HC.out hA5' rfl (by rw [HCC.out]; exact hg) (by rw [HCC.out]; exact hown) (by rw [HCC.out]; exact hnew)
             refine ⟨j + 1, _, by omega, by go_num, ?_, r2, r3⟩
             show ApAt _ _ _ _ _ _ _
             rw [HT.out, moveOne, HBn.out]
             rw [HCC.out] at r1
             exact r1
            case measure => simp [intOf]; omega
          ·obtain rfl : j = v.who.length := by omega
           rw [List.take_length] at HA
           go_wp2
           go_ret
           exact ⟨by rw [HE.out]; rfl, ⟨chj, by rw [HS.out]; exact HA.out⟩, (Ext.of_below hbw7.out).trans HX.out (fun i _ hi => hi.1)⟩
        ·have hav1 : (av != v.tgt.r) = true := by simp [hav]
         have HE : Hid (attestE x.1 v inside = 9) := by show _ = _; rw [HE4.out, if_pos hav]
         go_wp2
         go_ret
         exact hRet.out 9 _ HE.out (by decide) (HHB.out _ hb7)
end Go.Proofs.YtnppimhlfcjghaaGreat
