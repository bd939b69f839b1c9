import Derived.Test.YtnppimhlfcjghaaGreatPPropTail
set_option linter.all false
set_option linter.unusedVariables false
set_option linter.unusedSimpArgs false
namespace Go.Proofs.YtnppimhlfcjghaaGreat
open Go.RowKit
set_option maxRecDepth 100000
set_option maxHeartbeats 40000000
theorem propose_calls {w : World} {base : Nat} {p : Places} {s : St} {k vk : Nat} {ch : Value} (h : ApAt w base p (s, []) k vk ch) (hs : s.ok) (b : Bk) (A1 : Option Addr) (k1 : Nat) (A2 : Option Addr) (k2 : Nat) (hwb : b.wf) (hf1 : Fits b.votes.length k1) (hf2 : Fits b.proofs.length k2) (hV : Vts (p.free base) w A1 b.votes) (hP : Pfs (p.free base) w A2 b.proofs) :
    Calls Tryz.prog 37 #[.pointer (some ⟨p.sb, 0, none⟩), .agg #[.int .u64 b.root, .int .u64 b.parent, .int .i64 b.slot, .slice A1 b.votes.length k1, .slice A2 b.proofs.length k2]] w fun e w' => e = .returned (errV (proposeE s b)) ∧ (∃ nb', p.NbOk base nb' ∧ ∃ ch', ApAt w' base { p with nb := nb' } (propR s b) k vk ch') ∧ Ext (p.foot base) w w' := by
  have hch : ∀ b, ch.ownBlock = some b → b < w.heap.size := fun b hb => own_lt h.chs b hb
  have q0 := heap_new w (.cells #[.int .u64 b.root, .int .u64 b.parent, .int .i64 b.slot, .slice A1 b.votes.length k1, .slice A2 b.proofs.length k2] 50)
  have hb0 : Below w.heap.size w (w.alloc (.cells #[.int .u64 b.root, .int .u64 b.parent, .int .i64 b.slot, .slice A1 b.votes.length k1, .slice A2 b.proofs.length k2] 50)) := below_alloc (Below.refl _ _) _
  have hRet : Hid (∀ (n : Int) (W : World), proposeE s b = n → n ≠ 0 → Below w.heap.size w W → Ending.returned (errV n) = .returned (errV (proposeE s b)) ∧ (∃ nb', p.NbOk base nb' ∧ ∃ ch', ApAt W base { p with nb := nb' } (propR s b) k vk ch') ∧ Ext (p.foot base) w W) := fun n W hE hne hb => by
    refine ⟨by rw [hE], ⟨p.nb, .inl rfl, ch, ?_⟩, Ext.of_below hb⟩
    rw [propR, if_neg (by rw [hE]; exact hne)]
    exact h.below hb
  have hBb : base ≤ w.heap.size := h.hb
  have h0 := h.below hb0
  have hV0 := hV.mono (w' := w.alloc (.cells #[.int .u64 b.root, .int .u64 b.parent, .int .i64 b.slot, .slice A1 b.votes.length k1, .slice A2 b.proofs.length k2] 50)) (fun _ h => h) (fun b _ => hb0.block b)
  have hP0 := hP.mono (w' := w.alloc (.cells #[.int .u64 b.root, .int .u64 b.parent, .int .i64 b.slot, .slice A1 b.votes.length k1, .slice A2 b.proofs.length k2] 50)) (fun _ h => h) (fun b _ => hb0.block b)
  have HH := Lib.hid h
  clear h hV hP
  go_enter Tryz.func37, Tryz.ntmps37
  go_upto_region 1 with fail
  obtain ⟨W0, hW0⟩ : ∃ W0, W0 = w.alloc (.cells #[.int .u64 b.root, .int .u64 b.parent, .int .i64 b.slot, .slice A1 b.votes.length k1, .slice A2 b.proofs.length k2] 50) := ⟨_, rfl⟩
  rw [← hW0] at q0 hb0 h0 hV0 hP0
  change Code.wp _ _ _ _ (w.alloc (.cells #[.int .u64 b.root, .int .u64 b.parent, .int .i64 b.slot, .slice A1 b.votes.length k1, .slice A2 b.proofs.length k2] 50))
  rw [← hW0]
  have hsz0 : W0.heap.size = w.heap.size + 1 := by rw [hW0]; simp
  generalize hB : w.heap.size = B at q0 hb0 hsz0 hBb ⊢
  have HB := Lib.hid hB
  clear hW0 hB
  obtain ⟨⟨hw1, hw1'⟩, hw2, hw3, hw4, hw5⟩ := hwb
  have HW4 := Lib.hid hw4
  have HW5 := Lib.hid hw5
  have hHB : ∀ W, Below W0.heap.size W0 W → Below w.heap.size w W := fun W hW => by
    rw [HB.out]
    exact hb0.trans (hW.mono (by omega))
  have HHB := Lib.hid hHB
  clear hHB hw4 hw5
  have KJ : ∀ W', Below W0.heap.size W0 W' → (W'.cell? ⟨p.sb, 0, none⟩ = some (.slice (some ⟨p.bb, 0, none⟩) s.c.bal.length k) ∧ W'.cell? ⟨p.sb, 1, none⟩ = some (.int .i64 s.c.slots) ∧ W'.cell? ⟨p.sb, 2, none⟩ = some (.int .i64 s.c.boost) ∧ W'.cell? ⟨p.sb, 3, none⟩ = some (.pointer (some ⟨p.tb, 0, none⟩)) ∧ W'.cell? ⟨p.sb, 4, none⟩ = some (.slice (some ⟨p.vb, 0, none⟩) s.votes.length vk) ∧ W'.cell? ⟨p.sb, 5, none⟩ = some (.int .i64 s.slot) ∧ W'.cell? ⟨p.sb, 6, none⟩ = some (.int .u64 s.boosted) ∧ W'.cell? ⟨p.sb, 7, none⟩ = some (.int .i64 s.just.e) ∧ W'.cell? ⟨p.sb, 8, none⟩ = some (.int .u64 s.just.r) ∧ W'.cell? ⟨p.sb, 9, none⟩ = some (.int .i64 s.fin.e) ∧ W'.cell? ⟨p.sb, 10, none⟩ = some (.int .u64 s.fin.r) ∧ W'.cell? ⟨p.sb, 11, none⟩ = some (.map (some p.lb)) ∧ W'.cell? ⟨p.sb, 12, none⟩ = some (.map (some p.gb)) ∧ W'.cell? ⟨p.sb, 13, none⟩ = some (ch)) ∧ (W'.cell? ⟨B, 0, none⟩ = some (.int .u64 b.root) ∧ W'.cell? ⟨B, 1, none⟩ = some (.int .u64 b.parent) ∧ W'.cell? ⟨B, 2, none⟩ = some (.int .i64 b.slot) ∧ W'.cell? ⟨B, 3, none⟩ = some (.slice A1 b.votes.length k1) ∧ W'.cell? ⟨B, 4, none⟩ = some (.slice A2 b.proofs.length k2)) := fun W' hW => ⟨(h0.st.below hW).cells, cs5 (blk_below q0 hW)⟩
  obtain ⟨E1, hE1⟩ : ∃ E1, E1 = decide (s.slot < b.slot) := ⟨_, rfl⟩
  have HE1 := Lib.hid hE1
  clear hE1
  go_cut [15] (fun b w' => b = .bool E1 ∧ Below W0.heap.size W0 w')
  case first =>
    obtain ⟨⟨c0, c1, c2, c3, c4, c5, c6, c7, c8, c9, c10, c11, c12, c13⟩, d0, d1, d2, d3, d4⟩ := KJ _ (Below.refl _ _)
    go_quiet (fail)
    go_wp2
    go_meet
    case rel => exact ⟨by rw [HE1.out], below_drewN (Below.refl _ _) _⟩
  case rest =>
    obtain ⟨rfl, hb1⟩ := hcut
    obtain ⟨W1, rfl⟩ : ∃ W1 : World, W1 = wc := ⟨_, rfl⟩
    obtain ⟨-, d0, d1, d2, d3, d4⟩ := KJ _ hb1
    cases E1 with
    | true =>
      have HE : Hid (proposeE s b = 4) := by
        show _ = _
        have := HE1.out
        rw [proposeE, if_pos (by simpa using this.symm)]
      go_wp2
      go_ret
      exact hRet.out 4 _ HE.out (by decide) (HHB.out _ hb1)
    | false =>
      have hsl : b.slot ≤ s.slot := by
        have := HE1.out
        simp at this
        omega
      have HP1 : Hid (proposeE s b = if b.root = 0 then 13 else if 16 < b.votes.length ∨ 16 < b.proofs.length then 12 else if (lk s.gone b.root).getD false = true then 6 else s.tree.addE b.root b.parent b.slot) := by
        show _ = _
        rw [proposeE, if_neg (by omega)]
      go_upto_region 3 with fail
      by_cases e2 : b.root = 0
      · have HE : Hid (proposeE s b = 13) := by show _ = _; rw [HP1.out, if_pos e2]
        clear HP1
        go_wp2
        go_ret
        exact hRet.out 13 _ HE.out (by decide) (HHB.out _ hb1)
      · have HP2 : Hid (proposeE s b = if 16 < b.votes.length ∨ 16 < b.proofs.length then 12 else if (lk s.gone b.root).getD false = true then 6 else s.tree.addE b.root b.parent b.slot) := by
          show _ = _
          rw [HP1.out, if_neg e2]
        clear HP1
        go_upto_region 5 with fail
        have HE2 := Lib.hid e2
        clear e2
        have hm1 := hf1.2
        have hm2 := hf2.2
        have hmx : maxLen = 9223372036854775807 := rfl
        by_cases e3 : 16 < b.votes.length
        · have HE : Hid (proposeE s b = 12) := by show _ = _; rw [HP2.out, if_pos (.inl e3)]
          clear HP2
          go_wp2
          go_ret
          exact hRet.out 12 _ HE.out (by decide) (HHB.out _ hb1)
        · by_cases e4 : 16 < b.proofs.length
          · have HE : Hid (proposeE s b = 12) := by show _ = _; rw [HP2.out, if_pos (.inr e4)]
            clear HP2
            go_wp2
            go_ret
            exact hRet.out 12 _ HE.out (by decide) (HHB.out _ hb1)
          · have HP3 : Hid (proposeE s b = if (lk s.gone b.root).getD false = true then 6 else s.tree.addE b.root b.parent b.slot) := by
              show _ = _
              rw [HP2.out, if_neg (by omega)]
            clear HP2
            obtain ⟨G, hG⟩ : ∃ G, G = (lk s.gone b.root).getD false := ⟨_, rfl⟩
            have K7 : ∀ W', Below W0.heap.size W0 W' → (W'.cell? ⟨p.sb, 0, none⟩ = some (.slice (some ⟨p.bb, 0, none⟩) s.c.bal.length k) ∧ W'.cell? ⟨p.sb, 1, none⟩ = some (.int .i64 s.c.slots) ∧ W'.cell? ⟨p.sb, 2, none⟩ = some (.int .i64 s.c.boost) ∧ W'.cell? ⟨p.sb, 3, none⟩ = some (.pointer (some ⟨p.tb, 0, none⟩)) ∧ W'.cell? ⟨p.sb, 4, none⟩ = some (.slice (some ⟨p.vb, 0, none⟩) s.votes.length vk) ∧ W'.cell? ⟨p.sb, 5, none⟩ = some (.int .i64 s.slot) ∧ W'.cell? ⟨p.sb, 6, none⟩ = some (.int .u64 s.boosted) ∧ W'.cell? ⟨p.sb, 7, none⟩ = some (.int .i64 s.just.e) ∧ W'.cell? ⟨p.sb, 8, none⟩ = some (.int .u64 s.just.r) ∧ W'.cell? ⟨p.sb, 9, none⟩ = some (.int .i64 s.fin.e) ∧ W'.cell? ⟨p.sb, 10, none⟩ = some (.int .u64 s.fin.r) ∧ W'.cell? ⟨p.sb, 11, none⟩ = some (.map (some p.lb)) ∧ W'.cell? ⟨p.sb, 12, none⟩ = some (.map (some p.gb)) ∧ W'.cell? ⟨p.sb, 13, none⟩ = some (ch)) ∧ (W'.cell? ⟨B, 0, none⟩ = some (.int .u64 b.root) ∧ W'.cell? ⟨B, 1, none⟩ = some (.int .u64 b.parent) ∧ W'.cell? ⟨B, 2, none⟩ = some (.int .i64 b.slot) ∧ W'.cell? ⟨B, 3, none⟩ = some (.slice A1 b.votes.length k1) ∧ W'.cell? ⟨B, 4, none⟩ = some (.slice A2 b.proofs.length k2)) ∧ (Instr.lookup 40 (.map (some p.gb)) (.int .u64 b.root) false).run Tryz.prog W' = .ok (.bool G) W' := fun W' hW => ⟨(KJ W' hW).1, (KJ W' hW).2, by rw [hG]; exact look_gone (h0.st.below hW) b.root⟩
            have HG := Lib.hid hG
            clear hG
            have hD1 := hb1.drew
            go_upto_region 7 with fail
            have hdec : (decide (16 < (b.votes.length : Int)) || decide (16 < (b.proofs.length : Int))) = false := by simp; omega
            simp only [hdec]
            go_cut [41] (fun b w' => b = .bool G ∧ Below W0.heap.size W0 w')
            case first =>
              refine wp_region_held_drew (S := fun w' => (w'.cell? ⟨p.sb, 0, none⟩ = some (.slice (some ⟨p.bb, 0, none⟩) s.c.bal.length k) ∧ w'.cell? ⟨p.sb, 1, none⟩ = some (.int .i64 s.c.slots) ∧ w'.cell? ⟨p.sb, 2, none⟩ = some (.int .i64 s.c.boost) ∧ w'.cell? ⟨p.sb, 3, none⟩ = some (.pointer (some ⟨p.tb, 0, none⟩)) ∧ w'.cell? ⟨p.sb, 4, none⟩ = some (.slice (some ⟨p.vb, 0, none⟩) s.votes.length vk) ∧ w'.cell? ⟨p.sb, 5, none⟩ = some (.int .i64 s.slot) ∧ w'.cell? ⟨p.sb, 6, none⟩ = some (.int .u64 s.boosted) ∧ w'.cell? ⟨p.sb, 7, none⟩ = some (.int .i64 s.just.e) ∧ w'.cell? ⟨p.sb, 8, none⟩ = some (.int .u64 s.just.r) ∧ w'.cell? ⟨p.sb, 9, none⟩ = some (.int .i64 s.fin.e) ∧ w'.cell? ⟨p.sb, 10, none⟩ = some (.int .u64 s.fin.r) ∧ w'.cell? ⟨p.sb, 11, none⟩ = some (.map (some p.lb)) ∧ w'.cell? ⟨p.sb, 12, none⟩ = some (.map (some p.gb)) ∧ w'.cell? ⟨p.sb, 13, none⟩ = some (ch)) ∧ (w'.cell? ⟨B, 0, none⟩ = some (.int .u64 b.root) ∧ w'.cell? ⟨B, 1, none⟩ = some (.int .u64 b.parent) ∧ w'.cell? ⟨B, 2, none⟩ = some (.int .i64 b.slot) ∧ w'.cell? ⟨B, 3, none⟩ = some (.slice A1 b.votes.length k1) ∧ w'.cell? ⟨B, 4, none⟩ = some (.slice A2 b.proofs.length k2)) ∧ (Instr.lookup 40 (.map (some p.gb)) (.int .u64 b.root) false).run Tryz.prog w' = .ok (.bool G) w') (by kernel_rfl) (K7 _ hD1) (fun hHeld => ?_)
              refine tW 0 42 hHeld ?_
              refine tW 1 43 hHeld ?_
              refine tW 2 44 hHeld ?_
              refine tW 3 45 hHeld ?_
              refine tW 4 46 hHeld ?_
              refine tW 5 47 hHeld ?_
              refine tW 6 48 hHeld ?_
              refine tW 7 41 hHeld ?_
              refine wpAnyH_done (by kernel_rfl) ?_ _
              go_wp2
              go_meet
              case rel => exact ⟨rfl, hD1⟩
            case rest =>
              obtain ⟨rfl, hb7⟩ := hcut
              obtain ⟨W7, rfl⟩ : ∃ W7 : World, W7 = wc := ⟨_, rfl⟩
              clear K7 hD1 d0 d1 d2 d3 d4 hb1
              cases G with
              | true =>
                have HE : Hid (proposeE s b = 6) := by show _ = _; rw [HP3.out, if_pos HG.out.symm]
                clear HP3
                go_wp2
                go_ret
                exact hRet.out 6 _ HE.out (by decide) (HHB.out _ hb7)
              | false =>
                have HE : Hid (proposeE s b = s.tree.addE b.root b.parent b.slot) := by
                  show _ = _
                  rw [HP3.out, if_neg (by rw [← HG.out]; decide)]
                clear HP3
                have hD7 := hb7.drew
                go_upto_region 9 with fail
                by_cases e6 : s.tree.addE b.root b.parent b.slot = 0
                · have cA := Add_ok (h0.st.tree.below hD7) hs.t b.root b.parent b.slot e6
                  have HE0 : Hid (proposeE s b = 0) := by show _ = _; rw [HE.out]; exact e6
                  clear HE e6
                  have hnl : p.nb < w.heap.size := HH.out.st.tree.map.lt
                  rw [HB.out] at hnl
                  have hsn : p.sb ≠ p.nb := HH.out.st.ne.1.2.1
                  have KA : ∀ W', Ext (fun i => i = p.nb) W7.drew W' → (W'.cell? ⟨p.sb, 0, none⟩ = some (.slice (some ⟨p.bb, 0, none⟩) s.c.bal.length k) ∧ W'.cell? ⟨p.sb, 1, none⟩ = some (.int .i64 s.c.slots) ∧ W'.cell? ⟨p.sb, 2, none⟩ = some (.int .i64 s.c.boost) ∧ W'.cell? ⟨p.sb, 3, none⟩ = some (.pointer (some ⟨p.tb, 0, none⟩)) ∧ W'.cell? ⟨p.sb, 4, none⟩ = some (.slice (some ⟨p.vb, 0, none⟩) s.votes.length vk) ∧ W'.cell? ⟨p.sb, 5, none⟩ = some (.int .i64 s.slot) ∧ W'.cell? ⟨p.sb, 6, none⟩ = some (.int .u64 s.boosted) ∧ W'.cell? ⟨p.sb, 7, none⟩ = some (.int .i64 s.just.e) ∧ W'.cell? ⟨p.sb, 8, none⟩ = some (.int .u64 s.just.r) ∧ W'.cell? ⟨p.sb, 9, none⟩ = some (.int .i64 s.fin.e) ∧ W'.cell? ⟨p.sb, 10, none⟩ = some (.int .u64 s.fin.r) ∧ W'.cell? ⟨p.sb, 11, none⟩ = some (.map (some p.lb)) ∧ W'.cell? ⟨p.sb, 12, none⟩ = some (.map (some p.gb)) ∧ W'.cell? ⟨p.sb, 13, none⟩ = some (ch)) ∧ (W'.cell? ⟨B, 0, none⟩ = some (.int .u64 b.root) ∧ W'.cell? ⟨B, 1, none⟩ = some (.int .u64 b.parent) ∧ W'.cell? ⟨B, 2, none⟩ = some (.int .i64 b.slot) ∧ W'.cell? ⟨B, 3, none⟩ = some (.slice A1 b.votes.length k1) ∧ W'.cell? ⟨B, 4, none⟩ = some (.slice A2 b.proofs.length k2)) := fun W' hW => ⟨StoreAt.cells_ext (h0.st.below hD7) hW hsn, cs5 (blk_ext (w := W7.drew) (F := fun i => i = p.nb) (blk_below q0 hD7) hW (fun e => by have e' : B = p.nb := e; omega))⟩
                  go_region_held3 (fun w' => (w'.cell? ⟨p.sb, 0, none⟩ = some (.slice (some ⟨p.bb, 0, none⟩) s.c.bal.length k) ∧ w'.cell? ⟨p.sb, 1, none⟩ = some (.int .i64 s.c.slots) ∧ w'.cell? ⟨p.sb, 2, none⟩ = some (.int .i64 s.c.boost) ∧ w'.cell? ⟨p.sb, 3, none⟩ = some (.pointer (some ⟨p.tb, 0, none⟩)) ∧ w'.cell? ⟨p.sb, 4, none⟩ = some (.slice (some ⟨p.vb, 0, none⟩) s.votes.length vk) ∧ w'.cell? ⟨p.sb, 5, none⟩ = some (.int .i64 s.slot) ∧ w'.cell? ⟨p.sb, 6, none⟩ = some (.int .u64 s.boosted) ∧ w'.cell? ⟨p.sb, 7, none⟩ = some (.int .i64 s.just.e) ∧ w'.cell? ⟨p.sb, 8, none⟩ = some (.int .u64 s.just.r) ∧ w'.cell? ⟨p.sb, 9, none⟩ = some (.int .i64 s.fin.e) ∧ w'.cell? ⟨p.sb, 10, none⟩ = some (.int .u64 s.fin.r) ∧ w'.cell? ⟨p.sb, 11, none⟩ = some (.map (some p.lb)) ∧ w'.cell? ⟨p.sb, 12, none⟩ = some (.map (some p.gb)) ∧ w'.cell? ⟨p.sb, 13, none⟩ = some (ch)) ∧ (w'.cell? ⟨B, 0, none⟩ = some (.int .u64 b.root) ∧ w'.cell? ⟨B, 1, none⟩ = some (.int .u64 b.parent) ∧ w'.cell? ⟨B, 2, none⟩ = some (.int .i64 b.slot) ∧ w'.cell? ⟨B, 3, none⟩ = some (.slice A1 b.votes.length k1) ∧ w'.cell? ⟨B, 4, none⟩ = some (.slice A2 b.proofs.length k2))) (first | exact KJ _ hD7 | exact KA _ (by assumption)) (first | (go_at_call 59; refine cA.mono ?_; rintro e W9 ⟨rfl, hT9, hx9⟩))
                  have h9 := (h0.below hD7).addT hx9 hT9
                  have hX9 : Ext (p.foot2 base B (B + 1)) W0 W9 := (Ext.of_below hD7).trans hx9 (fun i _ e => by
                    have e' : i = p.nb := e
                    subst e'
                    exact ⟨.inl (by simp [Places.has]), fun hh => by omega⟩)
                  have q9 := blk_ext (w := W7.drew) (F := fun i => i = p.nb) (blk_below q0 hD7) hx9 (fun e => by have e' : B = p.nb := e; omega)
                  have hokT := addT_ok hs ⟨⟨hw1, hw1'⟩, hw2, hw3, HW4.out, HW5.out⟩ HE0.out
                  obtain ⟨hL0, hU0, L0, hlk⟩ := advP_ok hs ⟨⟨hw1, hw1'⟩, hw2, hw3, HW4.out, HW5.out⟩ HE0.out
                  obtain ⟨f, hf⟩ : ∃ f : Int → Int, f = (s.tree.add b.root b.parent b.slot).at_ b.root := ⟨_, rfl⟩
                  have hLP : ledgerP s b = b.votes.foldl (countL s.c f) (advanceL s.c ((lk s.ledgers b.parent).getD Ls.zero) b.slot f) := by rw [hf]; rfl
                  rw [hlk] at hLP hL0 hU0
                  have hLP2 : ledgerP s b = b.votes.foldl (countL s.c f) (advanceL s.c L0 b.slot f) := hLP
                  have hL02 : LsOk s.c.bal.length L0 := hL0
                  have hbs0 : 0 ≤ b.slot := by
                    have a := (Tr.addE_ok (proposeE_ok HE0.out).2.2.2.2.2).2.2.1
                    have a2 := (Tr.nd_rng hs.t b.parent).2.1.1
                    omega
                  have hbs1 : b.slot ≤ 1099511627776 := by have := hs.sl1; omega
                  have hfU : ∀ q, inU (f q) := fun q => by rw [hf]; exact atT_inU hokT b.root q
                  have hadv : LsOk s.c.bal.length (advanceL s.c L0 b.slot f) := (advance_ok hs.c hfU hL02 hU0 hbs1).1
                  obtain ⟨sA, hsA⟩ : ∃ sA : St, sA = { s with tree := s.tree.add b.root b.parent b.slot } := ⟨_, rfl⟩
                  obtain ⟨cl, hcl⟩ : ∃ cl : List Chg, cl = [] := ⟨_, rfl⟩
                  have h9' : ApAt W9 base p (sA, cl) k vk ch := by rw [hsA, hcl]; exact h9
                  have hcA : sA.c = s.c := by rw [hsA]
                  have hokA : sA.tree.ok := by rw [hsA]; exact hokT
                  have hfA : f = sA.tree.at_ b.root := by rw [hsA]; exact hf
                  have hlkA : lk sA.ledgers b.parent = some L0 := by rw [hsA]; exact hlk
                  have HLP : Hid (ledgerP s b = b.votes.foldl (countL sA.c f) (advanceL sA.c L0 b.slot f)) := by show _ = _; rw [hcA]; exact hLP2
                  have HL0 : Hid (LsOk sA.c.bal.length L0) := by rw [hcA]; exact hL02
                  have HAdv : Hid (LsOk sA.c.bal.length (advanceL sA.c L0 b.slot f)) := by rw [hcA]; exact hadv
                  have HOkA : Hid sA.c.ok := by rw [hcA]; exact hs.c
                  have HSA := Lib.hid hsA
                  have HFA := Lib.hid hfA
                  have HCA := Lib.hid hcA
                  have HTA := Lib.hid hokA
                  have hX9h := Lib.hid hX9
                  have hcl0 : cl.length = 0 := by rw [hcl]; rfl
                  have HCL := Lib.hid hcl
                  clear hcl hsA hfA hcA hokA hLP hLP2 hadv hokT hlk hL0 hL02 hU0 hf hT9 hx9 cA KA KJ h9 hD7 hb7 hX9
                  go_upto_region 12 with fail
                  obtain ⟨C1, hC1⟩ : ∃ C1 : List Chg, C1 = [⟨0, b.root, b.parent, 0, 0, false⟩] := ⟨_, rfl⟩
                  have HC1 := Lib.hid hC1
                  clear hC1
                  go_cut [] (fun w' => ∃ ch12, ApAt w' base p (sA, C1) k vk ch12 ∧ Ext (p.foot2 base B (B + 1)) W0 w')
                  case first =>
                    obtain ⟨cc, hcc⟩ : ∃ cc : Chg, cc = ⟨0, b.root, b.parent, 0, 0, false⟩ := ⟨_, rfl⟩
                    have HCC := Lib.hid hcc
                    have hA5' := h9'.below (Below.refl _ W9).drew
                    have hX5' := Lib.hid hX9h.out.drew
                    have hq5' : W9.drew.heap[B]? = some (.cells #[.int .u64 b.root, .int .u64 b.parent, .int .i64 b.slot, .slice A1 b.votes.length k1, .slice A2 b.proofs.length k2] 50 (0, 0)) := q9
                    have hOff : OffB ch B (B + 1) := fun b hb hc => by have := hch b hb; rw [HB.out] at this; omega
                    generalize hW5 : W9.drew = w6 at hA5' hX5' hq5'
                    have hA6 := hA5'.below (below_alloc (Below.refl _ _) (.cells (chgC cc).toArray 140))
                    obtain ⟨_, _, _, _, _, _, _, _, _, _, _, _, _, d13⟩ := hA5'.st.cells
                    have K5 : w6.cell? ⟨p.sb, 13, none⟩ = some ch ∧ (w6.cell? ⟨B, 0, none⟩ = some (.int .u64 b.root) ∧ w6.cell? ⟨B, 1, none⟩ = some (.int .u64 b.parent) ∧ w6.cell? ⟨B, 2, none⟩ = some (.int .i64 b.slot) ∧ w6.cell? ⟨B, 3, none⟩ = some (.slice A1 b.votes.length k1) ∧ w6.cell? ⟨B, 4, none⟩ = some (.slice A2 b.proofs.length k2)) := ⟨d13, cs5 hq5'⟩
                    have K6 : (w6.alloc (.cells (chgC cc).toArray 140)).cell? ⟨p.sb, 13, none⟩ = some ch ∧ ((w6.alloc (.cells (chgC cc).toArray 140)).cell? ⟨B, 0, none⟩ = some (.int .u64 b.root) ∧ (w6.alloc (.cells (chgC cc).toArray 140)).cell? ⟨B, 1, none⟩ = some (.int .u64 b.parent) ∧ (w6.alloc (.cells (chgC cc).toArray 140)).cell? ⟨B, 2, none⟩ = some (.int .i64 b.slot) ∧ (w6.alloc (.cells (chgC cc).toArray 140)).cell? ⟨B, 3, none⟩ = some (.slice A1 b.votes.length k1) ∧ (w6.alloc (.cells (chgC cc).toArray 140)).cell? ⟨B, 4, none⟩ = some (.slice A2 b.proofs.length k2)) := by
                      obtain ⟨_, _, _, _, _, _, _, _, _, _, _, _, _, d13'⟩ := hA6.st.cells
                      exact ⟨d13', cs5 (blk_below hq5' (below_alloc (Below.refl _ _) _))⟩
                    have K7 : ∀ w7, (w6.alloc (.cells (chgC cc).toArray 140)).grownBy w7 ch.ownBlock → w7.cell? ⟨p.sb, 13, none⟩ = some ch → w7.cell? ⟨p.sb, 13, none⟩ = some ch ∧ (w7.cell? ⟨B, 0, none⟩ = some (.int .u64 b.root) ∧ w7.cell? ⟨B, 1, none⟩ = some (.int .u64 b.parent) ∧ w7.cell? ⟨B, 2, none⟩ = some (.int .i64 b.slot) ∧ w7.cell? ⟨B, 3, none⟩ = some (.slice A1 b.votes.length k1) ∧ w7.cell? ⟨B, 4, none⟩ = some (.slice A2 b.proofs.length k2)) := fun w7 hg e13 => by
                      have hq6 := blk_below hq5' (below_alloc (Below.refl _ _) (.cells (chgC cc).toArray 140))
                      have hq8 := grown_keep hg hq6 (fun e => hOff B e.symm ⟨Nat.le_refl _, Nat.lt_succ_self _⟩)
                      exact ⟨e13, cs5 hq8⟩
                    have hfl := flat_new w6 (chgC cc) 140
                    have hbnd : (cl.length + 1) * 48 ≤ 140737488355328 := by omega
                    have hbnd2 : cl.length + 1 ≤ 140737488355328 := by omega
                    have HOw := Lib.hid hA6.chs
                    have hb6 := hA6.hb
                    have hsz6 : (w6.alloc (.cells (chgC cc).toArray 140)).heap.size = w6.heap.size + 1 := by simp
                    have HCL0 := Lib.hid hcl0
                    clear h9' q9 hcl0
                    rw [hcc] at hfl HOw hb6 hsz6 K6
                    simp only [chgC] at hfl hb6 hsz6 K6
                    refine beginK (fun w' => w'.cell? ⟨p.sb, 13, none⟩ = some ch ∧ (w'.cell? ⟨B, 0, none⟩ = some (.int .u64 b.root) ∧ w'.cell? ⟨B, 1, none⟩ = some (.int .u64 b.parent) ∧ w'.cell? ⟨B, 2, none⟩ = some (.int .i64 b.slot) ∧ w'.cell? ⟨B, 3, none⟩ = some (.slice A1 b.votes.length k1) ∧ w'.cell? ⟨B, 4, none⟩ = some (.slice A2 b.proofs.length k2))) 14 (by rfl) ?_
                    rw [hW5]
                    have hHeld := K5
                    refine kW 0 64 hHeld ?_
                    refine kW 1 65 hHeld ?_
                    refine kW 2 66 hHeld ?_
                    refine kW 3 67 hHeld ?_
                    refine kW 4 68 hHeld ?_
                    refine kW 5 69 hHeld ?_
                    refine kW 6 70 hHeld ?_
                    refine kW 7 71 hHeld ?_
                    refine kW 8 72 hHeld ?_
                    refine kW 9 73 hHeld ?_
                    refine readyK (rs := [10]) (by kernel_rfl) (by simp) ?_
                    refine AllReadyK.cons rfl (fun K hK => ?_) AllReadyK.nil
                    go_simp
                    refine hK.out _ _ (fun _ => K6) ?_
                    have hHeld := K6
                    clear hK K
                    try simp only [Act.put, List.setIfInBounds_toArray, List.set_cons_zero, List.set_cons_succ]
                    refine readyK (rs := [11]) (by kernel_rfl) (by simp) ?_
                    refine AllReadyK.cons rfl (fun K hK => ?_) AllReadyK.nil
                    refine step_app base (by rfl) (.tmp 68) (.tmp 74) 41 140 (.agg #[.int .i64 0, .int .u64 0, .int .u64 0, .int .i64 0, .int .u64 0, .bool false]) 6 48 rfl Tryz.underlying41 infoChg rfl (by decide) ch cl.length _ (by rfl) HOw.out (some ⟨w6.heap.size, 0, none⟩) 1 1 _ (by rfl) rfl hfl (chgC_one ⟨0, b.root, b.parent, 0, 0, false⟩) hbnd hbnd2 hb6 ?_
                    intro A7 k7 w7 hown hg hnew
                    have hA7 := (hA6.grown (by rw [HCC.out]; exact hg)).1
                    obtain ⟨_, _, _, _, _, _, _, _, _, _, _, _, _, e13⟩ := hA7.cells
                    have ez := blk_frozen hA7.blk 13
                    have hH7 := K7 _ (by rw [HCC.out]; exact hg) e13
                    refine hK.out _ _ (fun _ => hH7) ?_
                    have hHeld := hH7
                    clear hK K
                    try simp only [Act.put, List.setIfInBounds_toArray, List.set_cons_zero, List.set_cons_succ]
                    refine kW 12 76 hHeld ?_
                    refine kW 13 77 hHeld ?_
                    refine readyK (rs := [14]) (by kernel_rfl) (by simp) ?_
                    refine AllReadyK.cons rfl (fun K hK => ?_) AllReadyK.nil
                    go_simp
                    refine hK.out _ _ (fun h => absurd rfl h) ?_
                    clear hK K
                    try simp only [Act.put, List.setIfInBounds_toArray, List.set_cons_zero, List.set_cons_succ]
                    refine doneK (by kernel_rfl) ?_ _
                    obtain ⟨r1, r2, r3⟩ := push_all (w6 := w6.alloc (.cells (chgC cc).toArray 140)) hX5'.out hBb (by omega) hOff hA5' rfl (by rw [HCC.out]; exact hg) (by rw [HCC.out]; exact hown) (by rw [HCC.out]; exact hnew)
                    obtain ⟨W12, hW12⟩ : ∃ W12, W12 = w7.setCell ⟨p.sb, 13, none⟩ (.slice A7 (cl.length + 1) k7) := ⟨_, rfl⟩
                    go_wp2
                    go_meet
                    case rel =>
                      rw [← hW12]
                      refine ⟨.slice A7 (cl.length + 1) k7, ?_, ?_⟩
                      · have e : C1 = cl ++ [cc] := by rw [HC1.out, HCL.out, HCC.out]; rfl
                        rw [e, hW12]; exact r1
                      · rw [hW12]; exact r3
                  case rest =>
                    obtain ⟨ch12, h12, hX12'⟩ := hcut
                    obtain ⟨W12, rfl⟩ : ∃ W12 : World, W12 = wc := ⟨_, rfl⟩
                    have hX12 := Lib.hid hX12'
                    have q12 := blk_ext q0 hX12.out (fun hf => hf.2 ⟨Nat.le_refl _, Nat.lt_succ_self _⟩)
                    clear hX12' h9' q9 hcl0
                    obtain ⟨d0, d1, d2, d3, d4⟩ := cs5 q12
                    go_upto_region 14 with (go_at_call 55; refine (chain_calls2 _).mono ?_; rintro e W13 ⟨rfl, ⟨T1, hT1, qc1⟩, qc2, hsz13, hb13⟩)
                    clear d0 d1 d2 d3 d4
                    have h13 := h12.below hb13
                    have q13 := blk_below q12 hb13
                    generalize hS12 : W12.heap.size = S12 at qc1 qc2 hsz13
                    have HS12 := Lib.hid hS12
                    obtain ⟨caps, hcaps⟩ : ∃ caps, caps = chainV S12 (S12 + 1) := ⟨_, rfl⟩
                    have hCh : ChainAt W13 78 caps f := by
                      rw [HFA.out, hcaps]
                      obtain ⟨_, _, _, c3, _⟩ := h13.st.cells
                      exact chain_at qc1 qc2 (Below.refl _ _) c3 h13.st.tree HTA.out ⟨hw1, hw1'⟩
                    rw [← hcaps]
                    have HCaps := Lib.hid hcaps
                    have HQc1 := Lib.hid qc1
                    have HQc2 := Lib.hid qc2
                    have HB13 := Lib.hid hb13
                    have HSz13 := Lib.hid hsz13
                    have HT1 := Lib.hid hT1
                    have HFU := Lib.hid hfU
                    clear hT1 hfU
                    obtain ⟨Al, kl, Al2, kl2, hlook, hlr⟩ := look_led h13.st hlkA
                    have K14 : ∀ W', Below W13.heap.size W13 W' → (W'.cell? ⟨p.sb, 0, none⟩ = some (.slice (some ⟨p.bb, 0, none⟩) sA.c.bal.length k) ∧ W'.cell? ⟨p.sb, 1, none⟩ = some (.int .i64 sA.c.slots) ∧ W'.cell? ⟨p.sb, 2, none⟩ = some (.int .i64 sA.c.boost) ∧ W'.cell? ⟨p.sb, 3, none⟩ = some (.pointer (some ⟨p.tb, 0, none⟩)) ∧ W'.cell? ⟨p.sb, 4, none⟩ = some (.slice (some ⟨p.vb, 0, none⟩) sA.votes.length vk) ∧ W'.cell? ⟨p.sb, 5, none⟩ = some (.int .i64 sA.slot) ∧ W'.cell? ⟨p.sb, 6, none⟩ = some (.int .u64 sA.boosted) ∧ W'.cell? ⟨p.sb, 7, none⟩ = some (.int .i64 sA.just.e) ∧ W'.cell? ⟨p.sb, 8, none⟩ = some (.int .u64 sA.just.r) ∧ W'.cell? ⟨p.sb, 9, none⟩ = some (.int .i64 sA.fin.e) ∧ W'.cell? ⟨p.sb, 10, none⟩ = some (.int .u64 sA.fin.r) ∧ W'.cell? ⟨p.sb, 11, none⟩ = some (.map (some p.lb)) ∧ W'.cell? ⟨p.sb, 12, none⟩ = some (.map (some p.gb)) ∧ W'.cell? ⟨p.sb, 13, none⟩ = some (ch12)) ∧ (W'.cell? ⟨B, 0, none⟩ = some (.int .u64 b.root) ∧ W'.cell? ⟨B, 1, none⟩ = some (.int .u64 b.parent) ∧ W'.cell? ⟨B, 2, none⟩ = some (.int .i64 b.slot) ∧ W'.cell? ⟨B, 3, none⟩ = some (.slice A1 b.votes.length k1) ∧ W'.cell? ⟨B, 4, none⟩ = some (.slice A2 b.proofs.length k2)) ∧ (Instr.lookup 39 (.map (some p.lb)) (.int .u64 b.parent) false).run Tryz.prog W' = .ok (.agg #[.bool L0.j.b0, .bool L0.j.b1, .bool L0.j.b2, .bool L0.j.b3, .int .i64 L0.j.prev.e, .int .u64 L0.j.prev.r, .int .i64 L0.j.cur.e, .int .u64 L0.j.cur.r, .int .i64 L0.j.fin.e, .int .u64 L0.j.fin.r, .int .i64 L0.epoch, .slice Al L0.before.length kl, .slice Al2 L0.now.length kl2]) W' := fun W' hW => ⟨(h13.st.below hW).cells, cs5 (blk_below q13 hW), hlook W' hW⟩
                    have cAdv := fun (W : World) (hW : Below W13.heap.size W13 W) => Advance_calls W sA.c (some ⟨p.bb, 0, none⟩) k L0 Al kl Al2 kl2 b.slot 78 caps f HOkA.out (Lie.any (h13.st.bal.below hW)) HL0.out (hlr.below hW) (hCh.below hW) hbs0 hbs1
                    generalize advanceL sA.c L0 b.slot f = L1 at cAdv HLP HAdv
                    clear hS12 hcaps qc1 qc2 hb13 h12 q12 hlkA hsz13
                    have hD13 : Below W13.heap.size W13 W13.drew := (Below.refl _ _).drew
                    go_cut [7] (fun l w' => ∃ Bl A' k' A2' k2', l = .pointer (some ⟨Bl, 0, none⟩) ∧ W13.heap.size ≤ Bl ∧ w'.heap[Bl]? = some (.cells #[.bool L1.j.b0, .bool L1.j.b1, .bool L1.j.b2, .bool L1.j.b3, .int .i64 L1.j.prev.e, .int .u64 L1.j.prev.r, .int .i64 L1.j.cur.e, .int .u64 L1.j.cur.r, .int .i64 L1.j.fin.e, .int .u64 L1.j.fin.r, .int .i64 L1.epoch, .slice A' L1.before.length k', .slice A2' L1.now.length k2'] 99 (0, 0)) ∧ Hid (LsR w' L1 A' A2') ∧ Hid (Below W13.heap.size W13 w'))
                    case first =>
                      refine beginK (fun w' => (w'.cell? ⟨p.sb, 0, none⟩ = some (.slice (some ⟨p.bb, 0, none⟩) sA.c.bal.length k) ∧ w'.cell? ⟨p.sb, 1, none⟩ = some (.int .i64 sA.c.slots) ∧ w'.cell? ⟨p.sb, 2, none⟩ = some (.int .i64 sA.c.boost) ∧ w'.cell? ⟨p.sb, 3, none⟩ = some (.pointer (some ⟨p.tb, 0, none⟩)) ∧ w'.cell? ⟨p.sb, 4, none⟩ = some (.slice (some ⟨p.vb, 0, none⟩) sA.votes.length vk) ∧ w'.cell? ⟨p.sb, 5, none⟩ = some (.int .i64 sA.slot) ∧ w'.cell? ⟨p.sb, 6, none⟩ = some (.int .u64 sA.boosted) ∧ w'.cell? ⟨p.sb, 7, none⟩ = some (.int .i64 sA.just.e) ∧ w'.cell? ⟨p.sb, 8, none⟩ = some (.int .u64 sA.just.r) ∧ w'.cell? ⟨p.sb, 9, none⟩ = some (.int .i64 sA.fin.e) ∧ w'.cell? ⟨p.sb, 10, none⟩ = some (.int .u64 sA.fin.r) ∧ w'.cell? ⟨p.sb, 11, none⟩ = some (.map (some p.lb)) ∧ w'.cell? ⟨p.sb, 12, none⟩ = some (.map (some p.gb)) ∧ w'.cell? ⟨p.sb, 13, none⟩ = some (ch12)) ∧ (w'.cell? ⟨B, 0, none⟩ = some (.int .u64 b.root) ∧ w'.cell? ⟨B, 1, none⟩ = some (.int .u64 b.parent) ∧ w'.cell? ⟨B, 2, none⟩ = some (.int .i64 b.slot) ∧ w'.cell? ⟨B, 3, none⟩ = some (.slice A1 b.votes.length k1) ∧ w'.cell? ⟨B, 4, none⟩ = some (.slice A2 b.proofs.length k2)) ∧ (Instr.lookup 39 (.map (some p.lb)) (.int .u64 b.parent) false).run Tryz.prog w' = .ok (.agg #[.bool L0.j.b0, .bool L0.j.b1, .bool L0.j.b2, .bool L0.j.b3, .int .i64 L0.j.prev.e, .int .u64 L0.j.prev.r, .int .i64 L0.j.cur.e, .int .u64 L0.j.cur.r, .int .i64 L0.j.fin.e, .int .u64 L0.j.fin.r, .int .i64 L0.epoch, .slice Al L0.before.length kl, .slice Al2 L0.now.length kl2]) w') 16 (by rfl) ?_
                      have hHeld := K14 _ hD13
                      refine kW 0 82 hHeld ?_
                      refine kW 1 83 hHeld ?_
                      refine kW 2 84 hHeld ?_
                      refine kW 3 85 hHeld ?_
                      refine kW 4 86 hHeld ?_
                      refine kW 5 87 hHeld ?_
                      refine kW 6 88 hHeld ?_
                      refine kW 7 89 hHeld ?_
                      refine kW 8 90 hHeld ?_
                      refine kW 9 91 hHeld ?_
                      refine kW 10 92 hHeld ?_
                      refine kW 11 93 hHeld ?_
                      refine kW 12 94 hHeld ?_
                      refine kW 13 95 hHeld ?_
                      refine readyK (rs := [14, 15]) (by kernel_rfl) (by simp) ?_
                      refine AllReadyK.cons rfl (fun K hK => ?_) ?_
                      · go_simp
                        refine (cAdv _ hD13).mono ?_
                        rintro e W14 ⟨A', k', A2', k2', rfl, hr14, hb14'⟩
                        have hW14 := hD13.trans (hb14'.mono hD13.size)
                        refine hK.out _ _ (fun _ => K14 _ hW14) ?_
                        have hHeld := K14 _ hW14
                        clear hK K
                        try simp only [Act.put, List.setIfInBounds_toArray, List.set_cons_zero, List.set_cons_succ]
                        refine readyK (rs := [15]) (by kernel_rfl) (by simp) ?_
                        refine AllReadyK.cons rfl (fun K hK => ?_) AllReadyK.nil
                        go_simp
                        have hWa := hW14.trans ((below_alloc (Below.refl _ _) (.cells #[.bool false, .bool false, .bool false, .bool false, .int .i64 0, .int .u64 0, .int .i64 0, .int .u64 0, .int .i64 0, .int .u64 0, .int .i64 0, .slice none 0 0, .slice none 0 0] 99)).mono hW14.size)
                        refine hK.out _ _ (fun _ => K14 _ hWa) ?_
                        have hHeld := K14 _ hWa
                        clear hK K
                        try simp only [Act.put, List.setIfInBounds_toArray, List.set_cons_zero, List.set_cons_succ]
                        refine readyK (rs := [16]) (by kernel_rfl) (by simp) ?_
                        refine AllReadyK.cons rfl (fun K hK => ?_) AllReadyK.nil
                        have hqz := heap_new W14 (.cells #[.bool false, .bool false, .bool false, .bool false, .int .i64 0, .int .u64 0, .int .i64 0, .int .u64 0, .int .i64 0, .int .u64 0, .int .i64 0, .slice none 0 0, .slice none 0 0] 99)
                        refine step_storeB (by rfl) 99 (.tmp 7) (.tmp 96) rfl W14.heap.size [.bool false, .bool false, .bool false, .bool false, .int .i64 0, .int .u64 0, .int .i64 0, .int .u64 0, .int .i64 0, .int .u64 0, .int .i64 0, .slice none 0 0, .slice none 0 0] [.bool L1.j.b0, .bool L1.j.b1, .bool L1.j.b2, .bool L1.j.b3, .int .i64 L1.j.prev.e, .int .u64 L1.j.prev.r, .int .i64 L1.j.cur.e, .int .u64 L1.j.cur.r, .int .i64 L1.j.fin.e, .int .u64 L1.j.fin.r, .int .i64 L1.epoch, .slice A' L1.before.length k', .slice A2' L1.now.length k2'] hqz rfl rfl rfl iLs rfl ?_
                        intro W15 q15 hx15 hs15
                        refine hK.out _ _ (fun h => absurd rfl h) ?_
                        clear hK K
                        try simp only [Act.put, List.setIfInBounds_toArray, List.set_cons_zero, List.set_cons_succ]
                        refine doneK (by kernel_rfl) ?_ _
                        go_wp2
                        go_meet
                        case rel => exact ls_leaf hWa hqz hW14.size (hr14.below (below_alloc (Below.refl _ _) _)) q15 hx15
                      refine AllReadyK.cons rfl (fun K hK => ?_) AllReadyK.nil
                      go_simp
                      have hDa := hD13.trans ((below_alloc (Below.refl _ _) (.cells #[.bool false, .bool false, .bool false, .bool false, .int .i64 0, .int .u64 0, .int .i64 0, .int .u64 0, .int .i64 0, .int .u64 0, .int .i64 0, .slice none 0 0, .slice none 0 0] 99)).mono hD13.size)
                      refine hK.out _ _ (fun _ => K14 _ hDa) ?_
                      have hHeld := K14 _ hDa
                      clear hK K
                      try simp only [Act.put, List.setIfInBounds_toArray, List.set_cons_zero, List.set_cons_succ]
                      refine readyK (rs := [14]) (by kernel_rfl) (by simp) ?_
                      refine AllReadyK.cons rfl (fun K hK => ?_) AllReadyK.nil
                      go_simp
                      refine (cAdv _ hDa).mono ?_
                      rintro e W14 ⟨A', k', A2', k2', rfl, hr14, hb14'⟩
                      have hW14 := hDa.trans (hb14'.mono hDa.size)
                      refine hK.out _ _ (fun _ => K14 _ hW14) ?_
                      have hHeld := K14 _ hW14
                      clear hK K
                      try simp only [Act.put, List.setIfInBounds_toArray, List.set_cons_zero, List.set_cons_succ]
                      refine readyK (rs := [16]) (by kernel_rfl) (by simp) ?_
                      refine AllReadyK.cons rfl (fun K hK => ?_) AllReadyK.nil
                      have hqz := blk_below (heap_new W13.drew (.cells #[.bool false, .bool false, .bool false, .bool false, .int .i64 0, .int .u64 0, .int .i64 0, .int .u64 0, .int .i64 0, .int .u64 0, .int .i64 0, .slice none 0 0, .slice none 0 0] 99)) hb14'
                      refine step_storeB (by rfl) 99 (.tmp 7) (.tmp 96) rfl W13.drew.heap.size [.bool false, .bool false, .bool false, .bool false, .int .i64 0, .int .u64 0, .int .i64 0, .int .u64 0, .int .i64 0, .int .u64 0, .int .i64 0, .slice none 0 0, .slice none 0 0] [.bool L1.j.b0, .bool L1.j.b1, .bool L1.j.b2, .bool L1.j.b3, .int .i64 L1.j.prev.e, .int .u64 L1.j.prev.r, .int .i64 L1.j.cur.e, .int .u64 L1.j.cur.r, .int .i64 L1.j.fin.e, .int .u64 L1.j.fin.r, .int .i64 L1.epoch, .slice A' L1.before.length k', .slice A2' L1.now.length k2'] hqz rfl rfl rfl iLs rfl ?_
                      intro W15 q15 hx15 hs15
                      refine hK.out _ _ (fun h => absurd rfl h) ?_
                      clear hK K
                      try simp only [Act.put, List.setIfInBounds_toArray, List.set_cons_zero, List.set_cons_succ]
                      refine doneK (by kernel_rfl) ?_ _
                      go_wp2
                      go_meet
                      case rel => exact ls_leaf hW14 hqz (Nat.le_refl _) (hr14) q15 hx15
                    case rest =>
                      obtain ⟨Bl, A', k', A2', k2', rfl, hBl, ql, hrl, hbl⟩ := hcut
                      obtain ⟨W14, rfl⟩ : ∃ W14 : World, W14 = wc := ⟨_, rfl⟩
                      clear cAdv K14 hD13 hlook hlr
                      have hX13 := Lib.hid (hX12.out.thenBelow HB13.out)
                      obtain ⟨-, -, -, d3, -⟩ := cs5 (blk_below q13 hbl.out)
                      have hAdv := HAdv.out
                      go_upto_block 1 with fail
                      clear d3
                      go_cut [] (fun w' => ∃ lj Aj kj A2j k2j, Hid (ledgerP s b = lj) ∧ Hid (LsOk sA.c.bal.length lj) ∧ w'.heap[Bl]? = some (.cells #[.bool lj.j.b0, .bool lj.j.b1, .bool lj.j.b2, .bool lj.j.b3, .int .i64 lj.j.prev.e, .int .u64 lj.j.prev.r, .int .i64 lj.j.cur.e, .int .u64 lj.j.cur.r, .int .i64 lj.j.fin.e, .int .u64 lj.j.fin.r, .int .i64 lj.epoch, .slice Aj lj.before.length kj, .slice A2j lj.now.length k2j] 99 (0, 0)) ∧ Hid (LsR w' lj Aj A2j) ∧ Hid (Below W13.heap.size W13 w'))
                      case first =>
                        have HLP2 := HLP
                        have HOk1 : Hid (LsOk sA.c.bal.length L1) := hAdv
                        clear hAdv
                        go_wp2
                        go_loopw [100] (fun i wr => ∃ (j : Nat) (lj : Ls) (Aj : Option Addr) (kj : Nat) (A2j : Option Addr) (k2j : Nat), j ≤ b.votes.length ∧ i = .int .i64 j ∧ Hid (lj = (b.votes.take j).foldl (countL sA.c f) L1) ∧ Hid (LsOk sA.c.bal.length lj) ∧ wr.heap[Bl]? = some (.cells #[.bool lj.j.b0, .bool lj.j.b1, .bool lj.j.b2, .bool lj.j.b3, .int .i64 lj.j.prev.e, .int .u64 lj.j.prev.r, .int .i64 lj.j.cur.e, .int .u64 lj.j.cur.r, .int .i64 lj.j.fin.e, .int .u64 lj.j.fin.r, .int .i64 lj.epoch, .slice Aj lj.before.length kj, .slice A2j lj.now.length k2j] 99 (0, 0)) ∧ Hid (LsR wr lj Aj A2j) ∧ Hid (Below W13.heap.size W13 wr)) (fun i _ => b.votes.length - (intOf i).toNat)
                        case atStart => exact ⟨0, L1, A', k', A2', k2', Nat.zero_le _, rfl, rfl, HOk1.out, ql, hrl, hbl⟩
                        case round =>
                          clear ql
                          obtain ⟨j, lj, Aj, kj, A2j, k2j, hj, rfl, HLj, HOkj, qlj, hrj, hbj⟩ := hrel
                          by_cases hlt : j < b.votes.length
                          · obtain ⟨v, hx⟩ : ∃ v, b.votes[j]? = some v := ⟨_, List.getElem?_eq_getElem hlt⟩
                            have hXj := hX13.out.thenBelow hbj.out
                            have hvr : Vts (p.free base) wr A1 b.votes := hV0.mono (fun _ h => h) (fun i hi hlt' => hXj.block i hlt' (fun hf => hi hf.1))
                            obtain ⟨bb, o, rfl, _, A3, c3, hf, hi, hc⟩ := hvr.get hx
                            have hwv : v.wf := HW4.out v (List.mem_of_getElem? hx)
                            have HX := Lib.hid hx
                            have HWv := Lib.hid hwv
                            have HT : Hid ((b.votes.take (j + 1)).foldl (countL sA.c f) L1 = countL sA.c f lj v) := by
                              show _ = _
                              rw [HLj.out, foldl_snoc _ _ _ _ hlt]
                              have : b.votes[j] = v := by have := hx; rw [List.getElem?_eq_getElem hlt] at this; injection this
                              rw [this]
                            clear hx hvr hXj hwv
                            obtain ⟨hc0, hc1, hc2, hc3, hc4, hc5, hc6⟩ := hc
                            have qv := heap_new wr (.cells #[.int .i64 v.slot, .int .u64 v.head, .int .i64 v.src.e, .int .u64 v.src.r, .int .i64 v.tgt.e, .int .u64 v.tgt.r, .slice A3 v.who.length c3] 53)
                            have hbv : Below wr.heap.size wr (wr.alloc (.cells #[.int .i64 v.slot, .int .u64 v.head, .int .i64 v.src.e, .int .u64 v.src.r, .int .i64 v.tgt.e, .int .u64 v.tgt.r, .slice A3 v.who.length c3] 53)) := below_alloc (Below.refl _ _) _
                            go_upto_region 18 with fail
                            generalize hW17 : wr.alloc (.cells #[.int .i64 v.slot, .int .u64 v.head, .int .i64 v.src.e, .int .u64 v.src.r, .int .i64 v.tgt.e, .int .u64 v.tgt.r, .slice A3 v.who.length c3] 53) = W17 at qv hbv ⊢
                            generalize hBv : wr.heap.size = Bv at qv ⊢
                            have HBv := Lib.hid hBv
                            have hb17 := Lib.hid (below_then hbj.out hbj.out.size hbv)
                            have h17 := h13.below hb17.out
                            have q17 := blk_below qlj hbv
                            have r17 := hrj.out.below hbv
                            have i17 := hi.below hbv
                            have hCh17 := hCh.below hb17.out
                            have K18 : ∀ W', Below W17.heap.size W17 W' → (W'.cell? ⟨p.sb, 0, none⟩ = some (.slice (some ⟨p.bb, 0, none⟩) sA.c.bal.length k) ∧ W'.cell? ⟨p.sb, 1, none⟩ = some (.int .i64 sA.c.slots) ∧ W'.cell? ⟨p.sb, 2, none⟩ = some (.int .i64 sA.c.boost) ∧ W'.cell? ⟨p.sb, 3, none⟩ = some (.pointer (some ⟨p.tb, 0, none⟩)) ∧ W'.cell? ⟨p.sb, 4, none⟩ = some (.slice (some ⟨p.vb, 0, none⟩) sA.votes.length vk) ∧ W'.cell? ⟨p.sb, 5, none⟩ = some (.int .i64 sA.slot) ∧ W'.cell? ⟨p.sb, 6, none⟩ = some (.int .u64 sA.boosted) ∧ W'.cell? ⟨p.sb, 7, none⟩ = some (.int .i64 sA.just.e) ∧ W'.cell? ⟨p.sb, 8, none⟩ = some (.int .u64 sA.just.r) ∧ W'.cell? ⟨p.sb, 9, none⟩ = some (.int .i64 sA.fin.e) ∧ W'.cell? ⟨p.sb, 10, none⟩ = some (.int .u64 sA.fin.r) ∧ W'.cell? ⟨p.sb, 11, none⟩ = some (.map (some p.lb)) ∧ W'.cell? ⟨p.sb, 12, none⟩ = some (.map (some p.gb)) ∧ W'.cell? ⟨p.sb, 13, none⟩ = some (ch12)) ∧ (W'.cell? ⟨Bl, 0, none⟩ = some (.bool lj.j.b0) ∧ W'.cell? ⟨Bl, 1, none⟩ = some (.bool lj.j.b1) ∧ W'.cell? ⟨Bl, 2, none⟩ = some (.bool lj.j.b2) ∧ W'.cell? ⟨Bl, 3, none⟩ = some (.bool lj.j.b3) ∧ W'.cell? ⟨Bl, 4, none⟩ = some (.int .i64 lj.j.prev.e) ∧ W'.cell? ⟨Bl, 5, none⟩ = some (.int .u64 lj.j.prev.r) ∧ W'.cell? ⟨Bl, 6, none⟩ = some (.int .i64 lj.j.cur.e) ∧ W'.cell? ⟨Bl, 7, none⟩ = some (.int .u64 lj.j.cur.r) ∧ W'.cell? ⟨Bl, 8, none⟩ = some (.int .i64 lj.j.fin.e) ∧ W'.cell? ⟨Bl, 9, none⟩ = some (.int .u64 lj.j.fin.r) ∧ W'.cell? ⟨Bl, 10, none⟩ = some (.int .i64 lj.epoch) ∧ W'.cell? ⟨Bl, 11, none⟩ = some (.slice Aj lj.before.length kj) ∧ W'.cell? ⟨Bl, 12, none⟩ = some (.slice A2j lj.now.length k2j)) ∧ (W'.cell? ⟨Bv, 0, none⟩ = some (.int .i64 v.slot) ∧ W'.cell? ⟨Bv, 1, none⟩ = some (.int .u64 v.head) ∧ W'.cell? ⟨Bv, 2, none⟩ = some (.int .i64 v.src.e) ∧ W'.cell? ⟨Bv, 3, none⟩ = some (.int .u64 v.src.r) ∧ W'.cell? ⟨Bv, 4, none⟩ = some (.int .i64 v.tgt.e) ∧ W'.cell? ⟨Bv, 5, none⟩ = some (.int .u64 v.tgt.r) ∧ W'.cell? ⟨Bv, 6, none⟩ = some (.slice A3 v.who.length c3)) := fun W' hW => ⟨(h17.st.below hW).cells, cs13 (blk_below q17 hW), cs7 (blk_below qv hW)⟩
                            have cCnt := fun (W : World) (hW : Below W17.heap.size W17 W) => Count_calls W sA.c (some ⟨p.bb, 0, none⟩) k lj Aj kj A2j k2j v A3 c3 78 caps f HOkA.out (Lie.any (h17.st.bal.below hW)) HOkj.out (r17.below hW) HWv.out hf.2 (Lie.any (i17.below hW)) (hCh17.below hW)
                            have HOk' : Hid (LsOk sA.c.bal.length (countL sA.c f lj v)) := countL_ok HOkj.out v
                            generalize countL sA.c f lj v = l' at cCnt HT HOk'
                            have hD17 : Below W17.heap.size W17 W17.drew := (Below.refl _ _).drew
                            clear hW17 hBv hbv hc0 hc1 hc2 hc3 hc4 hc5 hc6 qlj hCh17 i17 r17 hi
                            refine beginL (fun w' => (w'.cell? ⟨p.sb, 0, none⟩ = some (.slice (some ⟨p.bb, 0, none⟩) sA.c.bal.length k) ∧ w'.cell? ⟨p.sb, 1, none⟩ = some (.int .i64 sA.c.slots) ∧ w'.cell? ⟨p.sb, 2, none⟩ = some (.int .i64 sA.c.boost) ∧ w'.cell? ⟨p.sb, 3, none⟩ = some (.pointer (some ⟨p.tb, 0, none⟩)) ∧ w'.cell? ⟨p.sb, 4, none⟩ = some (.slice (some ⟨p.vb, 0, none⟩) sA.votes.length vk) ∧ w'.cell? ⟨p.sb, 5, none⟩ = some (.int .i64 sA.slot) ∧ w'.cell? ⟨p.sb, 6, none⟩ = some (.int .u64 sA.boosted) ∧ w'.cell? ⟨p.sb, 7, none⟩ = some (.int .i64 sA.just.e) ∧ w'.cell? ⟨p.sb, 8, none⟩ = some (.int .u64 sA.just.r) ∧ w'.cell? ⟨p.sb, 9, none⟩ = some (.int .i64 sA.fin.e) ∧ w'.cell? ⟨p.sb, 10, none⟩ = some (.int .u64 sA.fin.r) ∧ w'.cell? ⟨p.sb, 11, none⟩ = some (.map (some p.lb)) ∧ w'.cell? ⟨p.sb, 12, none⟩ = some (.map (some p.gb)) ∧ w'.cell? ⟨p.sb, 13, none⟩ = some (ch12)) ∧ (w'.cell? ⟨Bl, 0, none⟩ = some (.bool lj.j.b0) ∧ w'.cell? ⟨Bl, 1, none⟩ = some (.bool lj.j.b1) ∧ w'.cell? ⟨Bl, 2, none⟩ = some (.bool lj.j.b2) ∧ w'.cell? ⟨Bl, 3, none⟩ = some (.bool lj.j.b3) ∧ w'.cell? ⟨Bl, 4, none⟩ = some (.int .i64 lj.j.prev.e) ∧ w'.cell? ⟨Bl, 5, none⟩ = some (.int .u64 lj.j.prev.r) ∧ w'.cell? ⟨Bl, 6, none⟩ = some (.int .i64 lj.j.cur.e) ∧ w'.cell? ⟨Bl, 7, none⟩ = some (.int .u64 lj.j.cur.r) ∧ w'.cell? ⟨Bl, 8, none⟩ = some (.int .i64 lj.j.fin.e) ∧ w'.cell? ⟨Bl, 9, none⟩ = some (.int .u64 lj.j.fin.r) ∧ w'.cell? ⟨Bl, 10, none⟩ = some (.int .i64 lj.epoch) ∧ w'.cell? ⟨Bl, 11, none⟩ = some (.slice Aj lj.before.length kj) ∧ w'.cell? ⟨Bl, 12, none⟩ = some (.slice A2j lj.now.length k2j)) ∧ (w'.cell? ⟨Bv, 0, none⟩ = some (.int .i64 v.slot) ∧ w'.cell? ⟨Bv, 1, none⟩ = some (.int .u64 v.head) ∧ w'.cell? ⟨Bv, 2, none⟩ = some (.int .i64 v.src.e) ∧ w'.cell? ⟨Bv, 3, none⟩ = some (.int .u64 v.src.r) ∧ w'.cell? ⟨Bv, 4, none⟩ = some (.int .i64 v.tgt.e) ∧ w'.cell? ⟨Bv, 5, none⟩ = some (.int .u64 v.tgt.r) ∧ w'.cell? ⟨Bv, 6, none⟩ = some (.slice A3 v.who.length c3))) 11 (by rfl) ?_
                            have hHeld := K18 _ hD17
                            refine lW 0 105 hHeld ?_
                            refine lW 1 106 hHeld ?_
                            refine lW 2 107 hHeld ?_
                            refine lW 3 108 hHeld ?_
                            refine lW 4 109 hHeld ?_
                            refine lW 5 110 hHeld ?_
                            refine lW 6 111 hHeld ?_
                            refine readyL (rs := [7]) (by kernel_rfl) (by simp) ?_
                            refine AllReadyL.cons rfl (fun K hK => ?_) AllReadyL.nil
                            go_simp
                            refine (cCnt _ hD17).mono ?_
                            rintro e W18 ⟨A', k', A2', k2', rfl, hr18, hb18'⟩
                            have hW18 := hD17.trans (hb18'.mono hD17.size)
                            refine hK.out _ _ (fun _ _ => K18 _ hW18) ?_
                            have hHeld := K18 _ hW18
                            clear hK K
                            try simp only [Act.put, List.setIfInBounds_toArray, List.set_cons_zero, List.set_cons_succ]
                            refine lW 8 104 hHeld ?_
                            refine lW 9 113 hHeld ?_
                            refine readyL (rs := [10, 11]) (by kernel_rfl) (by simp) ?_
                            refine AllReadyL.cons rfl (fun K hK => ?_) ?_
                            · go_simp
                              refine hK.out _ _ (fun _ _ => K18 _ hW18) ?_
                              have hHeld := K18 _ hW18
                              clear hK K
                              try simp only [Act.put, List.setIfInBounds_toArray, List.set_cons_zero, List.set_cons_succ]
                              refine readyL (rs := [11]) (by kernel_rfl) (by simp) ?_
                              refine AllReadyL.cons rfl (fun K hK => ?_) AllReadyL.nil
                              refine step_storeB (by rfl) 99 (.tmp 7) (.tmp 113) rfl Bl [.bool lj.j.b0, .bool lj.j.b1, .bool lj.j.b2, .bool lj.j.b3, .int .i64 lj.j.prev.e, .int .u64 lj.j.prev.r, .int .i64 lj.j.cur.e, .int .u64 lj.j.cur.r, .int .i64 lj.j.fin.e, .int .u64 lj.j.fin.r, .int .i64 lj.epoch, .slice Aj lj.before.length kj, .slice A2j lj.now.length k2j] [.bool l'.j.b0, .bool l'.j.b1, .bool l'.j.b2, .bool l'.j.b3, .int .i64 l'.j.prev.e, .int .u64 l'.j.prev.r, .int .i64 l'.j.cur.e, .int .u64 l'.j.cur.r, .int .i64 l'.j.fin.e, .int .u64 l'.j.fin.r, .int .i64 l'.epoch, .slice A' l'.before.length k', .slice A2' l'.now.length k2'] (blk_below q17 hW18) rfl rfl rfl iLs rfl ?_
                              intro W19 q19 hx19 hs19
                              refine hK.out _ _ (fun h => absurd rfl h) ?_
                              clear hK K
                              try simp only [Act.put, List.setIfInBounds_toArray, List.set_cons_zero, List.set_cons_succ]
                              refine doneL (by kernel_rfl) ?_ _
                              go_wp2
                              go_roundw
                              case rel =>
                                refine ⟨j + 1, l', A', k', A2', k2', by omega, by go_num, HT.out.symm, HOk', q19, hr18.ext hx19 (blk_below q17 hW18) (by decide), below_ext (hb17.out.trans (hW18.mono hb17.out.size)) hx19 (Nat.le_refl _) hBl⟩
                              case measure => simp [intOf]; omega
                            refine AllReadyL.cons rfl (fun K hK => ?_) AllReadyL.nil
                            refine step_storeB (by rfl) 99 (.tmp 7) (.tmp 113) rfl Bl [.bool lj.j.b0, .bool lj.j.b1, .bool lj.j.b2, .bool lj.j.b3, .int .i64 lj.j.prev.e, .int .u64 lj.j.prev.r, .int .i64 lj.j.cur.e, .int .u64 lj.j.cur.r, .int .i64 lj.j.fin.e, .int .u64 lj.j.fin.r, .int .i64 lj.epoch, .slice Aj lj.before.length kj, .slice A2j lj.now.length k2j] [.bool l'.j.b0, .bool l'.j.b1, .bool l'.j.b2, .bool l'.j.b3, .int .i64 l'.j.prev.e, .int .u64 l'.j.prev.r, .int .i64 l'.j.cur.e, .int .u64 l'.j.cur.r, .int .i64 l'.j.fin.e, .int .u64 l'.j.fin.r, .int .i64 l'.epoch, .slice A' l'.before.length k', .slice A2' l'.now.length k2'] (blk_below q17 hW18) rfl rfl rfl iLs rfl ?_
                            intro W19 q19 hx19 hs19
                            refine hK.out _ _ (fun h => absurd rfl h) ?_
                            clear hK K
                            try simp only [Act.put, List.setIfInBounds_toArray, List.set_cons_zero, List.set_cons_succ]
                            refine readyL (rs := [10]) (by kernel_rfl) (by simp) ?_
                            refine AllReadyL.cons rfl (fun K hK => ?_) AllReadyL.nil
                            go_simp
                            refine hK.out _ _ (fun _ h => (listed_off h (by kernel_rfl)).elim) ?_
                            clear hK K
                            try simp only [Act.put, List.setIfInBounds_toArray, List.set_cons_zero, List.set_cons_succ]
                            refine doneL (by kernel_rfl) ?_ _
                            go_wp2
                            go_roundw
                            case rel =>
                              refine ⟨j + 1, l', A', k', A2', k2', by omega, by go_num, HT.out.symm, HOk', q19, hr18.ext hx19 (blk_below q17 hW18) (by decide), below_ext (hb17.out.trans (hW18.mono hb17.out.size)) hx19 (Nat.le_refl _) hBl⟩
                            case measure => simp [intOf]; omega
                          · obtain rfl : j = b.votes.length := by omega
                            rw [List.take_length] at HLj
                            go_wp2
                            go_meet
                            case rel => exact ⟨lj, Aj, kj, A2j, k2j, HLP2.out.trans HLj.out.symm, HOkj, qlj, hrj, hbj⟩
                      case rest =>
                        obtain ⟨lj, Aj, kj, A2j, k2j, HLPj, HOkj, qlj, hrj, hbj⟩ := hcut
                        obtain ⟨W19, rfl⟩ : ∃ W19 : World, W19 = wc := ⟨_, rfl⟩
                        clear ql hrl hbl hAdv HAdv HLP
                        have h19 := h13.below hbj.out
                        have q19 := blk_below q13 hbj.out
                        go_upto_region 20 with fail
                        go_cut [] (fun w' => ApAt w' base p (laidS s b, C1) k vk ch12 ∧ Ext (fun i => i = p.lb) W19 w')
                        case first =>
                          obtain ⟨kvs, hmk, hrk⟩ := h19.st.led
                          have HRK := Lib.hid hrk
                          clear hrk
                          have K20 : ∀ W', Below W19.heap.size W19 W' → (W'.cell? ⟨p.sb, 0, none⟩ = some (.slice (some ⟨p.bb, 0, none⟩) sA.c.bal.length k) ∧ W'.cell? ⟨p.sb, 1, none⟩ = some (.int .i64 sA.c.slots) ∧ W'.cell? ⟨p.sb, 2, none⟩ = some (.int .i64 sA.c.boost) ∧ W'.cell? ⟨p.sb, 3, none⟩ = some (.pointer (some ⟨p.tb, 0, none⟩)) ∧ W'.cell? ⟨p.sb, 4, none⟩ = some (.slice (some ⟨p.vb, 0, none⟩) sA.votes.length vk) ∧ W'.cell? ⟨p.sb, 5, none⟩ = some (.int .i64 sA.slot) ∧ W'.cell? ⟨p.sb, 6, none⟩ = some (.int .u64 sA.boosted) ∧ W'.cell? ⟨p.sb, 7, none⟩ = some (.int .i64 sA.just.e) ∧ W'.cell? ⟨p.sb, 8, none⟩ = some (.int .u64 sA.just.r) ∧ W'.cell? ⟨p.sb, 9, none⟩ = some (.int .i64 sA.fin.e) ∧ W'.cell? ⟨p.sb, 10, none⟩ = some (.int .u64 sA.fin.r) ∧ W'.cell? ⟨p.sb, 11, none⟩ = some (.map (some p.lb)) ∧ W'.cell? ⟨p.sb, 12, none⟩ = some (.map (some p.gb)) ∧ W'.cell? ⟨p.sb, 13, none⟩ = some (ch12)) ∧ (W'.cell? ⟨B, 0, none⟩ = some (.int .u64 b.root) ∧ W'.cell? ⟨B, 1, none⟩ = some (.int .u64 b.parent) ∧ W'.cell? ⟨B, 2, none⟩ = some (.int .i64 b.slot) ∧ W'.cell? ⟨B, 3, none⟩ = some (.slice A1 b.votes.length k1) ∧ W'.cell? ⟨B, 4, none⟩ = some (.slice A2 b.proofs.length k2)) ∧ (W'.cell? ⟨Bl, 0, none⟩ = some (.bool lj.j.b0) ∧ W'.cell? ⟨Bl, 1, none⟩ = some (.bool lj.j.b1) ∧ W'.cell? ⟨Bl, 2, none⟩ = some (.bool lj.j.b2) ∧ W'.cell? ⟨Bl, 3, none⟩ = some (.bool lj.j.b3) ∧ W'.cell? ⟨Bl, 4, none⟩ = some (.int .i64 lj.j.prev.e) ∧ W'.cell? ⟨Bl, 5, none⟩ = some (.int .u64 lj.j.prev.r) ∧ W'.cell? ⟨Bl, 6, none⟩ = some (.int .i64 lj.j.cur.e) ∧ W'.cell? ⟨Bl, 7, none⟩ = some (.int .u64 lj.j.cur.r) ∧ W'.cell? ⟨Bl, 8, none⟩ = some (.int .i64 lj.j.fin.e) ∧ W'.cell? ⟨Bl, 9, none⟩ = some (.int .u64 lj.j.fin.r) ∧ W'.cell? ⟨Bl, 10, none⟩ = some (.int .i64 lj.epoch) ∧ W'.cell? ⟨Bl, 11, none⟩ = some (.slice Aj lj.before.length kj) ∧ W'.cell? ⟨Bl, 12, none⟩ = some (.slice A2j lj.now.length k2j)) := fun W' hW => ⟨(h19.st.below hW).cells, cs5 (blk_below q19 hW), cs13 (blk_below qlj hW)⟩
                          have hD19 : Below W19.heap.size W19 W19.drew := (Below.refl _ _).drew
                          have hmk' := hmk.below hD19
                          refine beginK (fun w' => (w'.cell? ⟨p.sb, 0, none⟩ = some (.slice (some ⟨p.bb, 0, none⟩) sA.c.bal.length k) ∧ w'.cell? ⟨p.sb, 1, none⟩ = some (.int .i64 sA.c.slots) ∧ w'.cell? ⟨p.sb, 2, none⟩ = some (.int .i64 sA.c.boost) ∧ w'.cell? ⟨p.sb, 3, none⟩ = some (.pointer (some ⟨p.tb, 0, none⟩)) ∧ w'.cell? ⟨p.sb, 4, none⟩ = some (.slice (some ⟨p.vb, 0, none⟩) sA.votes.length vk) ∧ w'.cell? ⟨p.sb, 5, none⟩ = some (.int .i64 sA.slot) ∧ w'.cell? ⟨p.sb, 6, none⟩ = some (.int .u64 sA.boosted) ∧ w'.cell? ⟨p.sb, 7, none⟩ = some (.int .i64 sA.just.e) ∧ w'.cell? ⟨p.sb, 8, none⟩ = some (.int .u64 sA.just.r) ∧ w'.cell? ⟨p.sb, 9, none⟩ = some (.int .i64 sA.fin.e) ∧ w'.cell? ⟨p.sb, 10, none⟩ = some (.int .u64 sA.fin.r) ∧ w'.cell? ⟨p.sb, 11, none⟩ = some (.map (some p.lb)) ∧ w'.cell? ⟨p.sb, 12, none⟩ = some (.map (some p.gb)) ∧ w'.cell? ⟨p.sb, 13, none⟩ = some (ch12)) ∧ (w'.cell? ⟨B, 0, none⟩ = some (.int .u64 b.root) ∧ w'.cell? ⟨B, 1, none⟩ = some (.int .u64 b.parent) ∧ w'.cell? ⟨B, 2, none⟩ = some (.int .i64 b.slot) ∧ w'.cell? ⟨B, 3, none⟩ = some (.slice A1 b.votes.length k1) ∧ w'.cell? ⟨B, 4, none⟩ = some (.slice A2 b.proofs.length k2)) ∧ (w'.cell? ⟨Bl, 0, none⟩ = some (.bool lj.j.b0) ∧ w'.cell? ⟨Bl, 1, none⟩ = some (.bool lj.j.b1) ∧ w'.cell? ⟨Bl, 2, none⟩ = some (.bool lj.j.b2) ∧ w'.cell? ⟨Bl, 3, none⟩ = some (.bool lj.j.b3) ∧ w'.cell? ⟨Bl, 4, none⟩ = some (.int .i64 lj.j.prev.e) ∧ w'.cell? ⟨Bl, 5, none⟩ = some (.int .u64 lj.j.prev.r) ∧ w'.cell? ⟨Bl, 6, none⟩ = some (.int .i64 lj.j.cur.e) ∧ w'.cell? ⟨Bl, 7, none⟩ = some (.int .u64 lj.j.cur.r) ∧ w'.cell? ⟨Bl, 8, none⟩ = some (.int .i64 lj.j.fin.e) ∧ w'.cell? ⟨Bl, 9, none⟩ = some (.int .u64 lj.j.fin.r) ∧ w'.cell? ⟨Bl, 10, none⟩ = some (.int .i64 lj.epoch) ∧ w'.cell? ⟨Bl, 11, none⟩ = some (.slice Aj lj.before.length kj) ∧ w'.cell? ⟨Bl, 12, none⟩ = some (.slice A2j lj.now.length k2j))) 7 (by rfl) ?_
                          have hHeld := K20 _ hD19
                          refine kW 0 116 hHeld ?_
                          refine kW 1 117 hHeld ?_
                          refine kW 2 118 hHeld ?_
                          refine kW 3 119 hHeld ?_
                          refine kW 4 120 hHeld ?_
                          refine kW 5 121 hHeld ?_
                          refine kW 6 122 hHeld ?_
                          refine readyK (rs := [7]) (by kernel_rfl) (by simp) ?_
                          refine AllReadyK.cons rfl (fun K hK => ?_) AllReadyK.nil
                          refine step_put (by rfl) (.tmp 119) (.tmp 121) (.tmp 122) 39 rfl 23 99 Tryz.underlying39 Tryz.underlying23 p.lb kvs rfl hmk' b.root (.agg #[.bool lj.j.b0, .bool lj.j.b1, .bool lj.j.b2, .bool lj.j.b3, .int .i64 lj.j.prev.e, .int .u64 lj.j.prev.r, .int .i64 lj.j.cur.e, .int .u64 lj.j.cur.r, .int .i64 lj.j.fin.e, .int .u64 lj.j.fin.r, .int .i64 lj.epoch, .slice Aj lj.before.length kj, .slice A2j lj.now.length k2j]) rfl rfl ?_
                          intro W20 hm20 hx20 hs20
                          refine hK.out _ _ (fun h => absurd rfl h) ?_
                          clear hK K
                          try simp only [Act.put, List.setIfInBounds_toArray, List.set_cons_zero, List.set_cons_succ]
                          refine doneK (by kernel_rfl) ?_ _
                          go_wp2
                          go_meet
                          case rel =>
                            have hKm := keep_map' hmk' hx20
                            have hL := (h19.below hD19).ledT hx20 ⟨_, hm20, (HRK.out.mono (fun _ _ h => (h.below hD19).keep hKm)).put ⟨Aj, kj, A2j, k2j, rfl, ⟨(hrj.out.below hD19).b.keep hKm, (hrj.out.below hD19).n.keep hKm⟩⟩⟩
                            have e : laidS s b = { sA with ledgers := put sA.ledgers b.root lj } := by rw [HSA.out, laidS, HLPj.out]
                            refine ⟨?_, (Ext.of_below hD19).trans hx20 (fun _ _ h => h)⟩
                            rw [e]
                            exact hL
                        case rest =>
                          obtain ⟨h20, hx20⟩ := hcut
                          obtain ⟨W20, rfl⟩ : ∃ W20 : World, W20 = wc := ⟨_, rfl⟩
                          have hlb : p.lb < base := h20.hi p.lb (by simp [Places.old])
                          have hs13 : B + 1 ≤ W13.heap.size := by have := hX13.out.size; omega
                          have hK20 : KeepB W19 W20 := by obtain ⟨_, hm, _⟩ := h19.st.led; exact keep_map' hm hx20
                          have q20 := blk_ext q19 hx20 (fun e => by have e' : B = p.lb := e; omega)
                          have ql20 := blk_ext qlj hx20 (fun e => by have e' : Bl = p.lb := e; omega)
                          have hr20 : LsR W20 lj Aj A2j := ⟨hrj.out.b.keep hK20, hrj.out.n.keep hK20⟩
                          have hX20 : Ext (p.foot base) W0 W20 := ((hX13.out.thenBelow hbj.out).trans hx20 (fun i _ e => by
                            have e' : i = p.lb := e
                            subst e'
                            exact foot2_has (by simp [Places.has]) hlb hBb)).mono (fun i _ h => h.1)
                          have qa20 := blk_ext (blk_below HQc1.out hbj.out) hx20 (fun e => by have e' : S12 = p.lb := e; have := HSz13.out; have := HS12.out; have := hX12.out.size; omega)
                          have qb20 := blk_ext (blk_below HQc2.out hbj.out) hx20 (fun e => by have e' : S12 + 1 = p.lb := e; have := HSz13.out; have := HS12.out; have := hX12.out.size; omega)
                          have HKp := Lib.hid h20.kb
                          have h20' := h20.here W20 (KeepN.refl _)
                          obtain ⟨p20, hp20⟩ : ∃ p20 : Places, p20 = { p with w0 := W20 } := ⟨_, rfl⟩
                          rw [← hp20] at h20'
                          have hp : p20.sb = p.sb ∧ p20.lb = p.lb ∧ p20.w0 = W20 ∧ p20.foot base = p.foot base ∧ p20.free base = p.free base ∧ p20.nb = p.nb := by rw [hp20]; exact ⟨rfl, rfl, rfl, rfl, rfl, rfl⟩
                          obtain ⟨hpsb, -, hpw, hpf, hpr, hpn⟩ := hp
                          have HPn := Lib.hid hpn
                          have hpb : ∀ nb, ({ ({ p20 with nb := nb } : Places) with w0 := p.w0 } : Places) = { p with nb := nb } := fun nb => by rw [hp20]
                          have HPsb := Lib.hid hpsb
                          have HPw := Lib.hid hpw
                          have HPf := Lib.hid hpf
                          have HPr := Lib.hid hpr
                          have HPb := Lib.hid hpb
                          have HQa := Lib.hid qa20
                          have HQb := Lib.hid qb20
                          have HQl := Lib.hid ql20
                          have HQ := Lib.hid q20
                          have HR20 := Lib.hid hr20
                          have HX20 := Lib.hid hX20
                          obtain ⟨x0, hx0⟩ : ∃ x0 : SC, x0 = (laidS s b, C1) := ⟨_, rfl⟩
                          rw [← hx0] at h20'
                          have HP1 : Hid (prop1 s b = b.votes.foldl (fun x v => attestS x v true) x0) := by show _ = _; rw [hx0, HC1.out]; rfl
                          have HX0ok : Hid x0.1.ok := by rw [hx0]; exact ok_laid hs ⟨⟨hw1, hw1'⟩, hw2, hw3, HW4.out, HW5.out⟩ HE0.out
                          have HX0l : Hid (x0.2.length = 1) := by show _ = _; rw [hx0, HC1.out]; rfl
                          have HV20 : Hid (Vts (p.free base) W20 A1 b.votes) := hV0.mono (fun _ h => h) (fun i hi hlt' => hX20.block i hlt' hi)
                          have HP20 : Hid (Pfs (p.free base) W20 A2 b.proofs) := hP0.mono (fun _ h => h) (fun i hi hlt' => hX20.block i hlt' hi)
                          clear h20 hx20 hx0 hp20 hpn hpsb hpw hpf hpr hpb hK20 hr20 hX20 qa20 qb20 ql20 qlj hrj hbj h19 q19 q13 h13 hX13 hCh hV0 hP0 hlb
                          have HXw : Hid (Ext (p.foot base) w W20) := by
                            have h0b : Below w.heap.size w W0 := by rw [HB.out]; exact hb0
                            exact (Ext.of_below h0b).trans HX20.out (fun _ _ h => h)
                          refine (show ∀ (a : Act) (w : World), Code.wp Tryz.prog (sndSeq (sndSeq (sndSeq (sndSeq (sndSeq (sndSeq (sndSeq (sndSeq ((Tryz.f37.body).getD .skip))))))))) _ a w → _ from by assumption) _ _ ?_
                          exact propose_tail hs hw1 hw1' hw2 hw3 HW4 HW5 HE0 hbs0 hbs1 e3 e4 h20' HPsb HPw HPf HPr HPn HPb HKp HQa HQb HQl HQ HR20 HXw HP1 HX0ok HX0l HV20 HP20 HT1 HCaps HCA HLPj HOkj
                · have cA := Add_err (h0.st.tree.below hD7) hs.t b.root b.parent b.slot e6
                  generalize s.tree.addE b.root b.parent b.slot = n at cA e6 HE
                  have hev : errV n = .iface 91 (.int .i64 n) := by rw [errV, if_neg e6]
                  rw [hev] at cA
                  have HR9 : Hid (∀ W, Below w.heap.size w W → Ending.returned (.iface 91 (.int .i64 n)) = .returned (errV (proposeE s b)) ∧ (∃ nb', p.NbOk base nb' ∧ ∃ ch', ApAt W base { p with nb := nb' } (propR s b) k vk ch') ∧ Ext (p.foot base) w W) := fun W hW => hev ▸ hRet.out n W HE.out e6 hW
                  clear HE hev e6
                  go_region_held3 (fun w' => (w'.cell? ⟨p.sb, 0, none⟩ = some (.slice (some ⟨p.bb, 0, none⟩) s.c.bal.length k) ∧ w'.cell? ⟨p.sb, 1, none⟩ = some (.int .i64 s.c.slots) ∧ w'.cell? ⟨p.sb, 2, none⟩ = some (.int .i64 s.c.boost) ∧ w'.cell? ⟨p.sb, 3, none⟩ = some (.pointer (some ⟨p.tb, 0, none⟩)) ∧ w'.cell? ⟨p.sb, 4, none⟩ = some (.slice (some ⟨p.vb, 0, none⟩) s.votes.length vk) ∧ w'.cell? ⟨p.sb, 5, none⟩ = some (.int .i64 s.slot) ∧ w'.cell? ⟨p.sb, 6, none⟩ = some (.int .u64 s.boosted) ∧ w'.cell? ⟨p.sb, 7, none⟩ = some (.int .i64 s.just.e) ∧ w'.cell? ⟨p.sb, 8, none⟩ = some (.int .u64 s.just.r) ∧ w'.cell? ⟨p.sb, 9, none⟩ = some (.int .i64 s.fin.e) ∧ w'.cell? ⟨p.sb, 10, none⟩ = some (.int .u64 s.fin.r) ∧ w'.cell? ⟨p.sb, 11, none⟩ = some (.map (some p.lb)) ∧ w'.cell? ⟨p.sb, 12, none⟩ = some (.map (some p.gb)) ∧ w'.cell? ⟨p.sb, 13, none⟩ = some (ch)) ∧ (w'.cell? ⟨B, 0, none⟩ = some (.int .u64 b.root) ∧ w'.cell? ⟨B, 1, none⟩ = some (.int .u64 b.parent) ∧ w'.cell? ⟨B, 2, none⟩ = some (.int .i64 b.slot) ∧ w'.cell? ⟨B, 3, none⟩ = some (.slice A1 b.votes.length k1) ∧ w'.cell? ⟨B, 4, none⟩ = some (.slice A2 b.proofs.length k2))) (first | exact KJ _ hD7 | exact KJ _ (by assumption)) (first | (go_at_call 59; refine cA.mono ?_; rintro e W9 ⟨rfl, hb9'⟩; have hb9 := hD7.trans (hb9'.mono hD7.size)))
                  go_wp2
                  go_ret
                  exact HR9.out _ (HHB.out _ hb9)
end Go.Proofs.YtnppimhlfcjghaaGreat
