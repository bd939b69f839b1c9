import Derived.Test.YtnppimhlfcjghaaGreatPOpsK
import Derived.Test.YtnppimhlfcjghaaGreatPAttest
import Derived.Test.YtnppimhlfcjghaaGreatPCut
set_option linter.all false
set_option linter.unusedVariables false
set_option linter.unusedSimpArgs false
namespace Go.Proofs.YtnppimhlfcjghaaGreat
open Go.RowKit
set_option maxRecDepth 100000
set_option maxHeartbeats 8000000
theorem ApAt.cutT {w w' : World} {base : Nat} {p : Places} {x : SC} {k vk : Nat} {ch : Value} (h : ApAt w base p x k vk ch) {nb' : Nat} {t' : Tr} (hx : Ext (fun i => i = p.tb) w w') (hT : TreeAt w' p.tb nb' t') (hn : w.heap.size ≤ nb') : ApAt w' base { p with nb := nb' } ({ x.1 with tree := t' }, x.2) k vk ch := by
 obtain ⟨⟨n1, _, _, _, _, _⟩, ⟨_, n2, n3, n4, n5⟩, _⟩ := h.st.ne
 have hi := h.hi
 have hb := h.hb
 have hs := hx.size
 refine ⟨⟨blk_ext h.st.blk hx n1, h.st.bal.keep hx (fun i e e2 => n5 (e2.symm.trans e)), hT, h.st.votes.ext hx (Ne.symm n2), h.st.led.ext hx (Ne.symm n3) (keep_cells h.st.tree.blk hx (by decide)), h.st.gone.ext hx (Ne.symm n4), ?_⟩, own_ext h.chs hx (fun b hb' e => ?_), hi, by omega, h.kb.trans (keepN_cells h.st.tree.blk hx (by decide))⟩
 ·have := h.st.ne
  simp only [Places.old, List.mem_cons, List.not_mem_nil, or_false] at hi
  have a1 := hi p.sb (by simp)
  have a2 := hi p.tb (by simp)
  have a3 := hi p.vb (by simp)
  have a4 := hi p.lb (by simp)
  have a5 := hi p.gb (by simp)
  have a6 := hi p.bb (by simp)
  simp only [Places.all, List.nodup_cons, List.mem_cons, List.not_mem_nil, or_false, not_or, not_false_eq_true, List.nodup_nil, and_true]
  omega
 ·obtain ⟨ds, hd, hle⟩ := own_kind h.chs hb'
  have e' : b = p.tb := e
  have := hi p.tb (by simp [Places.old])
  omega
theorem foot2_nb {p : Places} {base lo hi nb' i : Nat} (hn : base ≤ nb') (h : { p with nb := nb' }.foot2 base lo hi i) : p.foot2 base lo hi i := by
 obtain ⟨h1 | h1, h2⟩ := h
 ·refine ⟨?_, h2⟩
  rcases h1 with h1 | h1 | h1 | h1 | h1 | h1
  ·exact .inl (.inl h1)
  ·exact .inl (.inr (.inl h1))
  ·have h1' : i = nb' := h1
   exact .inr (by omega)
  ·exact .inl (.inr (.inr (.inr (.inl h1))))
  ·exact .inl (.inr (.inr (.inr (.inr (.inl h1)))))
  ·exact .inl (.inr (.inr (.inr (.inr (.inr h1)))))
 ·exact ⟨.inr h1, h2⟩
def Places.NbOk (p : Places) (base nb' : Nat) : Prop := nb' = p.nb ∨ base ≤ nb'
theorem raise_fin {w W1 w6 w7 : World} {base lo hi nb' k vk : Nat} {p : Places} {x : SC} {j f : Pt} {s9 : St} {cc : Chg} {ch7 : Value} (hR : raiseS x j f = (s9, x.2 ++ [cc])) (hn : base ≤ nb') (hb : Below w.heap.size w W1) (hX : Ext (p.foot2 base lo hi) W1 w6) (r1 : ApAt w7 base { p with nb := nb' } (s9, x.2 ++ [cc]) k vk ch7) (r3 : Ext ({ p with nb := nb' }.foot2 base lo hi) w6 w7) :
    (∃ nb', p.NbOk base nb' ∧ ∃ ch', ApAt w7 base { p with nb := nb' } (raiseS x j f) k vk ch') ∧ Ext (p.foot base) w w7 := by
 refine ⟨⟨nb', .inr hn, ch7, ?_⟩, (Ext.of_below hb).trans (hX.trans r3 (fun i _ hi => foot2_nb hn hi)) (fun i _ hi => hi.1)⟩
 rw [hR]
 exact r1
theorem ApAt.ledT {w w' : World} {base : Nat} {p : Places} {x : SC} {k vk : Nat} {ch : Value} (h : ApAt w base p x k vk ch) {ls' : List (Int × Ls)} (hx : Ext (fun i => i = p.lb) w w') (hL : LedAt w' p.lb ls') : ApAt w' base p ({ x.1 with ledgers := ls' }, x.2) k vk ch := by
 obtain ⟨⟨_, _, _, n1, _, _⟩, ⟨_, _, n2, _, _⟩, ⟨_, n3, _, _⟩, ⟨n4, _, _⟩, ⟨n5, n6⟩, _⟩ := h.st.ne
 have hs := hx.size
 have hb := h.hb
 refine ⟨⟨blk_ext h.st.blk hx n1, h.st.bal.keep hx (fun i e e2 => n6 (e2.symm.trans e)), h.st.tree.ext hx n2 n3, h.st.votes.ext hx n4, hL, h.st.gone.ext hx (Ne.symm n5), h.st.nd⟩, own_ext h.chs hx (fun b hb' e => ?_), h.hi, by omega, h.kb.trans (by obtain ⟨_, hm, _⟩ := h.st.led; exact keepN_map hm hx)⟩
 obtain ⟨ds, hd, hle⟩ := own_kind h.chs hb'
 have e' : b = p.lb := e
 have := h.hi p.lb (by simp [Places.old])
 omega
theorem ApAt.goneT {w w' : World} {base : Nat} {p : Places} {x : SC} {k vk : Nat} {ch : Value} (h : ApAt w base p x k vk ch) {g' : List (Int × Bool)} (hx : Ext (fun i => i = p.gb) w w') (hG : MapAt w' p.gb (goneKV g')) : ApAt w' base p ({ x.1 with gone := g' }, x.2) k vk ch := by
 obtain ⟨⟨_, _, _, _, n1, _⟩, ⟨_, _, _, n2, _⟩, ⟨_, _, n3, _⟩, ⟨_, n4, _⟩, ⟨n5, _⟩, n6⟩ := h.st.ne
 have hs := hx.size
 have hb := h.hb
 refine ⟨⟨blk_ext h.st.blk hx n1, h.st.bal.keep hx (fun i e e2 => n6 (e2.symm.trans e)), h.st.tree.ext hx n2 n3, h.st.votes.ext hx n4, h.st.led.ext hx n5 (keep_map' h.st.gone hx), hG, h.st.nd⟩, own_ext h.chs hx (fun b hb' e => ?_), h.hi, by omega, h.kb.trans (keepN_map h.st.gone hx)⟩
 obtain ⟨ds, hd, hle⟩ := own_kind h.chs hb'
 have e' : b = p.gb := e
 have := h.hi p.gb (by simp [Places.old])
 omega
theorem raise_calls {w : World} {base : Nat} {p : Places} {x : SC} {k vk : Nat} {ch : Value} (h : ApAt w base p x k vk ch) (hs : x.1.ok) (hn : x.2.length ≤ 1000000) (j f : Pt) (hj : inU j.r) (hf : inU f.r) :
    Calls Tryz.prog 62 #[.pointer (some ⟨p.sb, 0, none⟩), .agg #[.int .i64 j.e, .int .u64 j.r], .agg #[.int .i64 f.e, .int .u64 f.r]] w fun e w' => e = .returned (.tuple #[]) ∧ (∃ nb', p.NbOk base nb' ∧ ∃ ch', ApAt w' base { p with nb := nb' } (raiseS x j f) k vk ch') ∧ Ext (p.foot base) w w' := by
 have hch : ∀ b, ch.ownBlock = some b → b < w.heap.size := fun b hb => own_lt h.chs b hb
 obtain ⟨q0, q1, hb0, hsz⟩ := alloc2 w (.cells #[.int .i64 j.e, .int .u64 j.r] 38) (.cells #[.int .i64 f.e, .int .u64 f.r] 38)
 have hBb : base ≤ w.heap.size := h.hb
 have h0 := h.below hb0
 go_enter Tryz.func62, Tryz.ntmps62
 go_upto_region 1 with fail
 generalize World.alloc (World.alloc w _) _ = W0 at q0 q1 hb0 hsz h0 ⊢
 generalize hB : w.heap.size = B at q0 q1 hb0 hsz hBb ⊢
 have HB := Lib.hid hB
 clear hB
 have KJ : ∀ W', Below W0.heap.size W0 W' → (W'.cell? ⟨p.sb, 0, none⟩ = some (.slice (some ⟨p.bb, 0, none⟩) x.1.c.bal.length k) ∧ W'.cell? ⟨p.sb, 1, none⟩ = some (.int .i64 x.1.c.slots) ∧ W'.cell? ⟨p.sb, 2, none⟩ = some (.int .i64 x.1.c.boost) ∧ W'.cell? ⟨p.sb, 3, none⟩ = some (.pointer (some ⟨p.tb, 0, none⟩)) ∧ W'.cell? ⟨p.sb, 4, none⟩ = some (.slice (some ⟨p.vb, 0, none⟩) x.1.votes.length vk) ∧ W'.cell? ⟨p.sb, 5, none⟩ = some (.int .i64 x.1.slot) ∧ W'.cell? ⟨p.sb, 6, none⟩ = some (.int .u64 x.1.boosted) ∧ W'.cell? ⟨p.sb, 7, none⟩ = some (.int .i64 x.1.just.e) ∧ W'.cell? ⟨p.sb, 8, none⟩ = some (.int .u64 x.1.just.r) ∧ W'.cell? ⟨p.sb, 9, none⟩ = some (.int .i64 x.1.fin.e) ∧ W'.cell? ⟨p.sb, 10, none⟩ = some (.int .u64 x.1.fin.r)) ∧ (W'.cell? ⟨B, 0, none⟩ = some (.int .i64 j.e) ∧ W'.cell? ⟨B, 1, none⟩ = some (.int .u64 j.r)) ∧ (W'.cell? ⟨B + 1, 0, none⟩ = some (.int .i64 f.e) ∧ W'.cell? ⟨B + 1, 1, none⟩ = some (.int .u64 f.r)) := fun W' hW => by
  obtain ⟨c0, c1, c2, c3, c4, c5, c6, c7, c8, c9, c10, _⟩ := (h0.st.below hW).cells
  exact ⟨⟨c0, c1, c2, c3, c4, c5, c6, c7, c8, c9, c10⟩, cs2 (blk_below q0 hW), cs2 (blk_below q1 hW)⟩
 have cB := fun (W : World) (hW : Below W0.heap.size W0 W) => Below_calls (h0.st.tree.below hW) hs.t j.r x.1.fin.r
 have hD : Below W0.heap.size W0 W0.drew := (Below.refl _ _).drew
 obtain ⟨E1, hE1⟩ : ∃ E1, E1 = (decide (x.1.just.e < j.e) && x.1.tree.below j.r x.1.fin.r) := ⟨_, rfl⟩
 have HE1 := Lib.hid hE1
 clear hE1
 go_cut [30] (fun b w' => b = .bool E1 ∧ Below W0.heap.size W0 w')
 case first =>
  cases hgt : decide (x.1.just.e < j.e) with
  | false =>
   refine wp_region_held_drew (S := fun w' => (w'.cell? ⟨p.sb, 0, none⟩ = some (.slice (some ⟨p.bb, 0, none⟩) x.1.c.bal.length k) ∧ w'.cell? ⟨p.sb, 1, none⟩ = some (.int .i64 x.1.c.slots) ∧ w'.cell? ⟨p.sb, 2, none⟩ = some (.int .i64 x.1.c.boost) ∧ w'.cell? ⟨p.sb, 3, none⟩ = some (.pointer (some ⟨p.tb, 0, none⟩)) ∧ w'.cell? ⟨p.sb, 4, none⟩ = some (.slice (some ⟨p.vb, 0, none⟩) x.1.votes.length vk) ∧ w'.cell? ⟨p.sb, 5, none⟩ = some (.int .i64 x.1.slot) ∧ w'.cell? ⟨p.sb, 6, none⟩ = some (.int .u64 x.1.boosted) ∧ w'.cell? ⟨p.sb, 7, none⟩ = some (.int .i64 x.1.just.e) ∧ w'.cell? ⟨p.sb, 8, none⟩ = some (.int .u64 x.1.just.r) ∧ w'.cell? ⟨p.sb, 9, none⟩ = some (.int .i64 x.1.fin.e) ∧ w'.cell? ⟨p.sb, 10, none⟩ = some (.int .u64 x.1.fin.r)) ∧ (w'.cell? ⟨B, 0, none⟩ = some (.int .i64 j.e) ∧ w'.cell? ⟨B, 1, none⟩ = some (.int .u64 j.r)) ∧ (w'.cell? ⟨B + 1, 0, none⟩ = some (.int .i64 f.e) ∧ w'.cell? ⟨B + 1, 1, none⟩ = some (.int .u64 f.r))) (by kernel_rfl) (KJ _ hD) (fun hHeld => ?_)
   refine tW 0 9 hHeld ?_
   refine tW 1 10 hHeld ?_
   refine tW 2 11 hHeld ?_
   refine tW 3 12 hHeld ?_
   refine tW 4 13 hHeld ?_
   refine tW 5 14 hHeld ?_
   refine tW 6 15 hHeld ?_
   refine tW 7 16 hHeld ?_
   refine tW 8 17 hHeld ?_
   refine tU 9 18 hHeld ?_
   refine tU 10 19 hHeld ?_
   refine tU 11 20 hHeld ?_
   refine tU 12 21 hHeld ?_
   refine tU 13 22 hHeld ?_
   refine tU 14 23 hHeld ?_
   refine tU 15 24 hHeld ?_
   refine tU 16 25 hHeld ?_
   refine tU 17 26 hHeld ?_
   refine tU 18 27 hHeld ?_
   refine tU 19 28 hHeld ?_
   refine tU 20 29 hHeld ?_
   refine tW 21 30 hHeld ?_
   refine wpAnyH_done (by kernel_rfl) ?_ _
   go_wp2
   go_meet
   case rel => exact ⟨by rw [HE1.out, hgt]; rfl, hD⟩
  | true =>
   refine wp_region_held_drew (S := fun w' => (w'.cell? ⟨p.sb, 0, none⟩ = some (.slice (some ⟨p.bb, 0, none⟩) x.1.c.bal.length k) ∧ w'.cell? ⟨p.sb, 1, none⟩ = some (.int .i64 x.1.c.slots) ∧ w'.cell? ⟨p.sb, 2, none⟩ = some (.int .i64 x.1.c.boost) ∧ w'.cell? ⟨p.sb, 3, none⟩ = some (.pointer (some ⟨p.tb, 0, none⟩)) ∧ w'.cell? ⟨p.sb, 4, none⟩ = some (.slice (some ⟨p.vb, 0, none⟩) x.1.votes.length vk) ∧ w'.cell? ⟨p.sb, 5, none⟩ = some (.int .i64 x.1.slot) ∧ w'.cell? ⟨p.sb, 6, none⟩ = some (.int .u64 x.1.boosted) ∧ w'.cell? ⟨p.sb, 7, none⟩ = some (.int .i64 x.1.just.e) ∧ w'.cell? ⟨p.sb, 8, none⟩ = some (.int .u64 x.1.just.r) ∧ w'.cell? ⟨p.sb, 9, none⟩ = some (.int .i64 x.1.fin.e) ∧ w'.cell? ⟨p.sb, 10, none⟩ = some (.int .u64 x.1.fin.r)) ∧ (w'.cell? ⟨B, 0, none⟩ = some (.int .i64 j.e) ∧ w'.cell? ⟨B, 1, none⟩ = some (.int .u64 j.r)) ∧ (w'.cell? ⟨B + 1, 0, none⟩ = some (.int .i64 f.e) ∧ w'.cell? ⟨B + 1, 1, none⟩ = some (.int .u64 f.r))) (by kernel_rfl) (KJ _ hD) (fun hHeld => ?_)
   refine tW 0 9 hHeld ?_
   refine tW 1 10 hHeld ?_
   refine tW 2 11 hHeld ?_
   refine tW 3 12 hHeld ?_
   refine tW 4 13 hHeld ?_
   refine tW 5 14 hHeld ?_
   refine tW 6 15 hHeld ?_
   refine tW 7 16 hHeld ?_
   refine tW 8 17 hHeld ?_
   refine tW 9 18 hHeld ?_
   refine tW 10 19 hHeld ?_
   refine tW 11 20 hHeld ?_
   refine tW 12 21 hHeld ?_
   refine tW 13 22 hHeld ?_
   refine tW 14 23 hHeld ?_
   refine tW 15 24 hHeld ?_
   refine tW 16 25 hHeld ?_
   refine tW 17 26 hHeld ?_
   refine tW 18 27 hHeld ?_
   refine tW 19 28 hHeld ?_
   refine wpAnyH_ready (rs := [20]) (by kernel_rfl) (by simp) ?_
   refine AllReadyH.cons rfl (fun K hK => ?_) AllReadyH.nil
   go_simp
   refine (cB _ hD).mono ?_
   rintro e w3 ⟨rfl, hb3'⟩
   have hb3 := hD.trans (hb3'.mono hD.size)
   refine hK.out _ _ (KJ _ hb3) (fun hHeld => ?_)
   clear hK K
   try simp only [Act.put, sA, sB, sC]
   refine tW 21 30 hHeld ?_
   refine wpAnyH_done (by kernel_rfl) ?_ _
   go_wp2
   go_meet
   case rel => exact ⟨by rw [HE1.out, hgt]; rfl, hb3⟩
 case rest =>
  obtain ⟨rfl, hb1⟩ := hcut
  obtain ⟨W1, rfl⟩ : ∃ W1 : World, W1 = wc := ⟨_, rfl⟩
  have h1 := h0.below hb1
  have q0' := blk_below q0 hb1
  have q1' := blk_below q1 hb1
  have hsb : p.sb < base := h.hi _ (by simp [Places.old])
  have hB1 : B + 1 + 1 ≤ W1.heap.size := by have := hb1.size; omega
  have hOff : OffB ch B (B + 1 + 1) := fun b hb hc => by have := hch b hb; rw [HB.out] at this; omega
  have hbw1 : Below w.heap.size w W1 := by rw [HB.out]; exact hb0.trans (hb1.mono (by omega))
  clear KJ cB hD
  go_upto_if 30 with fail
  go_cut [] (fun w' => ApAt w' base p (raiseJ x.1 j, x.2) k vk ch ∧ Ext (p.foot2 base B (B + 1 + 1)) W1 w')
  case first =>
   cases E1 with
   | true =>
    have HRJ : Hid (raiseJ x.1 j = { x.1 with just := j }) := by
     show _ = _
     have := HE1.out
     rw [raiseJ, if_pos (by simpa using this.symm)]
    go_wp2_with (first
     | (refine wpList_loadP rfl 38 (.tmp 4) rfl B 0 [.int .i64 j.e, .int .u64 j.r] _ q0' rfl rfl _ Tryz.underlying38 rfl iPt ?_)
     | (refine wpList_storeP rfl 38 (.tmp 34) (.tmp 32) rfl p.sb 7 (stC p x.1 k vk ch) [.int .i64 j.e, .int .u64 j.r] h1.st.blk (by simp [stC]) rfl rfl iPt rfl (stC p { x.1 with just := j } k vk ch) rfl ?_; intro W5 hR5 hx5 hs5))
    go_meet
    case rel =>
     rw [HRJ.out]
     refine ⟨⟨h1.st.cell hx5 hR5 rfl rfl rfl rfl rfl, own_ext h1.chs hx5 (fun b hb e => ?_), h1.hi, by have := h1.hb; omega, h1.kb.trans (keepN_cells h1.st.blk hx5 (by decide))⟩, hx5.mono (fun i _ e => ?_)⟩
     ·obtain ⟨ds, hd, hle⟩ := own_kind h1.chs hb
      have e' : b = p.sb := e
      omega
     ·have e' : i = p.sb := e
      subst e'
      exact foot2_has (.inl rfl) hsb hBb
   | false =>
    have HRJ : Hid (raiseJ x.1 j = x.1) := by
     show _ = _
     have := HE1.out
     rw [raiseJ, if_neg (by simpa using this.symm)]
    go_wp2
    go_meet
    case rel =>
     rw [HRJ.out]
     exact ⟨h1, Ext.refl _ _⟩
  case rest =>
   obtain ⟨h2, hX2⟩ := hcut
   obtain ⟨W2, rfl⟩ : ∃ W2 : World, W2 = wc := ⟨_, rfl⟩
   have HE1x : raiseS x j f = if f.e ≤ (raiseJ x.1 j).fin.e ∨ (raiseJ x.1 j).tree.below f.r (raiseJ x.1 j).fin.r = false ∨ (raiseJ x.1 j).tree.below (raiseJ x.1 j).just.r f.r = false then (raiseJ x.1 j, x.2) else (cutS (raiseJ x.1 j) f, x.2 ++ [⟨3, f.r, 0, 0, 0, false⟩]) := rfl
   have hsx : (raiseJ x.1 j).tree = x.1.tree ∧ (raiseJ x.1 j).c = x.1.c := by unfold raiseJ; split <;> exact ⟨rfl, rfl⟩
   have q0 := blk_ext q0' hX2 (fun hf => hf.2 ⟨Nat.le_refl _, by omega⟩)
   have q1 := blk_ext q1' hX2 (fun hf => hf.2 ⟨by omega, by omega⟩)
   obtain ⟨s1, hs1⟩ : ∃ s1, s1 = raiseJ x.1 j := ⟨_, rfl⟩
   rw [← hs1] at h2 HE1x hsx
   have HRS := Lib.hid HE1x
   have hok1 : s1.tree.ok := hsx.1 ▸ hs.t
   have HSX := Lib.hid hsx
   have HS1 := Lib.hid hs1
   clear hs1 HE1x HE1 h0 h1 q0' q1' hsx
   have KJ : ∀ W', Below W2.heap.size W2 W' → (W'.cell? ⟨p.sb, 0, none⟩ = some (.slice (some ⟨p.bb, 0, none⟩) s1.c.bal.length k) ∧ W'.cell? ⟨p.sb, 1, none⟩ = some (.int .i64 s1.c.slots) ∧ W'.cell? ⟨p.sb, 2, none⟩ = some (.int .i64 s1.c.boost) ∧ W'.cell? ⟨p.sb, 3, none⟩ = some (.pointer (some ⟨p.tb, 0, none⟩)) ∧ W'.cell? ⟨p.sb, 4, none⟩ = some (.slice (some ⟨p.vb, 0, none⟩) s1.votes.length vk) ∧ W'.cell? ⟨p.sb, 5, none⟩ = some (.int .i64 s1.slot) ∧ W'.cell? ⟨p.sb, 6, none⟩ = some (.int .u64 s1.boosted) ∧ W'.cell? ⟨p.sb, 7, none⟩ = some (.int .i64 s1.just.e) ∧ W'.cell? ⟨p.sb, 8, none⟩ = some (.int .u64 s1.just.r) ∧ W'.cell? ⟨p.sb, 9, none⟩ = some (.int .i64 s1.fin.e) ∧ W'.cell? ⟨p.sb, 10, none⟩ = some (.int .u64 s1.fin.r)) ∧ (W'.cell? ⟨B, 0, none⟩ = some (.int .i64 j.e) ∧ W'.cell? ⟨B, 1, none⟩ = some (.int .u64 j.r)) ∧ (W'.cell? ⟨B + 1, 0, none⟩ = some (.int .i64 f.e) ∧ W'.cell? ⟨B + 1, 1, none⟩ = some (.int .u64 f.r)) := fun W' hW => by
    obtain ⟨c0, c1, c2, c3, c4, c5, c6, c7, c8, c9, c10, _⟩ := (h2.st.below hW).cells
    exact ⟨⟨c0, c1, c2, c3, c4, c5, c6, c7, c8, c9, c10⟩, cs2 (blk_below q0 hW), cs2 (blk_below q1 hW)⟩
   have cB1 := fun (W : World) (hW : Below W2.heap.size W2 W) => Below_calls (h2.st.tree.below hW) hok1 f.r s1.fin.r
   have cB2 := fun (W : World) (hW : Below W2.heap.size W2 W) => Below_calls (h2.st.tree.below hW) hok1 s1.just.r f.r
   have hD : Below W2.heap.size W2 W2.drew := (Below.refl _ _).drew
   obtain ⟨E3, hE3⟩ : ∃ E3, E3 = (decide (f.e ≤ s1.fin.e) || !s1.tree.below f.r s1.fin.r || !s1.tree.below s1.just.r f.r) := ⟨_, rfl⟩
   have HE3 := Lib.hid hE3
   clear hE3
   go_upto_region 3 with fail
   go_cut [72] (fun b w' => b = .bool E3 ∧ Below W2.heap.size W2 w')
   case first =>
    cases hle : decide (f.e ≤ s1.fin.e) with
    | true =>
     refine wp_region_held_drew (S := fun w' => (w'.cell? ⟨p.sb, 0, none⟩ = some (.slice (some ⟨p.bb, 0, none⟩) s1.c.bal.length k) ∧ w'.cell? ⟨p.sb, 1, none⟩ = some (.int .i64 s1.c.slots) ∧ w'.cell? ⟨p.sb, 2, none⟩ = some (.int .i64 s1.c.boost) ∧ w'.cell? ⟨p.sb, 3, none⟩ = some (.pointer (some ⟨p.tb, 0, none⟩)) ∧ w'.cell? ⟨p.sb, 4, none⟩ = some (.slice (some ⟨p.vb, 0, none⟩) s1.votes.length vk) ∧ w'.cell? ⟨p.sb, 5, none⟩ = some (.int .i64 s1.slot) ∧ w'.cell? ⟨p.sb, 6, none⟩ = some (.int .u64 s1.boosted) ∧ w'.cell? ⟨p.sb, 7, none⟩ = some (.int .i64 s1.just.e) ∧ w'.cell? ⟨p.sb, 8, none⟩ = some (.int .u64 s1.just.r) ∧ w'.cell? ⟨p.sb, 9, none⟩ = some (.int .i64 s1.fin.e) ∧ w'.cell? ⟨p.sb, 10, none⟩ = some (.int .u64 s1.fin.r)) ∧ (w'.cell? ⟨B, 0, none⟩ = some (.int .i64 j.e) ∧ w'.cell? ⟨B, 1, none⟩ = some (.int .u64 j.r)) ∧ (w'.cell? ⟨B + 1, 0, none⟩ = some (.int .i64 f.e) ∧ w'.cell? ⟨B + 1, 1, none⟩ = some (.int .u64 f.r))) (by kernel_rfl) (KJ _ hD) (fun hHeld => ?_)
     refine tW 0 35 hHeld ?_
     refine tW 1 36 hHeld ?_
     refine tW 2 37 hHeld ?_
     refine tW 3 38 hHeld ?_
     refine tW 4 39 hHeld ?_
     refine tW 5 40 hHeld ?_
     refine tW 6 41 hHeld ?_
     refine tW 7 42 hHeld ?_
     refine tW 8 43 hHeld ?_
     refine tU 9 44 hHeld ?_
     refine tU 10 45 hHeld ?_
     refine tU 11 46 hHeld ?_
     refine tU 12 47 hHeld ?_
     refine tU 13 48 hHeld ?_
     refine tU 14 49 hHeld ?_
     refine tU 15 50 hHeld ?_
     refine tU 16 51 hHeld ?_
     refine tU 17 52 hHeld ?_
     refine tU 18 53 hHeld ?_
     refine tU 19 54 hHeld ?_
     refine tU 20 55 hHeld ?_
     refine tU 21 56 hHeld ?_
     refine tW 22 57 hHeld ?_
     refine tW 23 58 hHeld ?_
     refine tU 24 59 hHeld ?_
     refine tU 25 60 hHeld ?_
     refine tU 26 61 hHeld ?_
     refine tU 27 62 hHeld ?_
     refine tU 28 63 hHeld ?_
     refine tU 29 64 hHeld ?_
     refine tU 30 65 hHeld ?_
     refine tU 31 66 hHeld ?_
     refine tU 32 67 hHeld ?_
     refine tU 33 68 hHeld ?_
     refine tU 34 69 hHeld ?_
     refine tU 35 70 hHeld ?_
     refine tU 36 71 hHeld ?_
     refine tW 37 72 hHeld ?_
     refine wpAnyH_done (by kernel_rfl) ?_ _
     go_wp2
     go_meet
     case rel => exact ⟨by rw [HE3.out, hle]; rfl, hD⟩
    | false =>
     cases hb1v : s1.tree.below f.r s1.fin.r with
     | false =>
      rw [hb1v] at cB1
      refine wp_region_held_drew (S := fun w' => (w'.cell? ⟨p.sb, 0, none⟩ = some (.slice (some ⟨p.bb, 0, none⟩) s1.c.bal.length k) ∧ w'.cell? ⟨p.sb, 1, none⟩ = some (.int .i64 s1.c.slots) ∧ w'.cell? ⟨p.sb, 2, none⟩ = some (.int .i64 s1.c.boost) ∧ w'.cell? ⟨p.sb, 3, none⟩ = some (.pointer (some ⟨p.tb, 0, none⟩)) ∧ w'.cell? ⟨p.sb, 4, none⟩ = some (.slice (some ⟨p.vb, 0, none⟩) s1.votes.length vk) ∧ w'.cell? ⟨p.sb, 5, none⟩ = some (.int .i64 s1.slot) ∧ w'.cell? ⟨p.sb, 6, none⟩ = some (.int .u64 s1.boosted) ∧ w'.cell? ⟨p.sb, 7, none⟩ = some (.int .i64 s1.just.e) ∧ w'.cell? ⟨p.sb, 8, none⟩ = some (.int .u64 s1.just.r) ∧ w'.cell? ⟨p.sb, 9, none⟩ = some (.int .i64 s1.fin.e) ∧ w'.cell? ⟨p.sb, 10, none⟩ = some (.int .u64 s1.fin.r)) ∧ (w'.cell? ⟨B, 0, none⟩ = some (.int .i64 j.e) ∧ w'.cell? ⟨B, 1, none⟩ = some (.int .u64 j.r)) ∧ (w'.cell? ⟨B + 1, 0, none⟩ = some (.int .i64 f.e) ∧ w'.cell? ⟨B + 1, 1, none⟩ = some (.int .u64 f.r))) (by kernel_rfl) (KJ _ hD) (fun hHeld => ?_)
      refine tW 0 35 hHeld ?_
      refine tW 1 36 hHeld ?_
      refine tW 2 37 hHeld ?_
      refine tW 3 38 hHeld ?_
      refine tW 4 39 hHeld ?_
      refine tW 5 40 hHeld ?_
      refine tW 6 41 hHeld ?_
      refine tW 7 42 hHeld ?_
      refine tW 8 43 hHeld ?_
      refine tW 9 44 hHeld ?_
      refine tW 10 45 hHeld ?_
      refine tW 11 46 hHeld ?_
      refine tW 12 47 hHeld ?_
      refine tW 13 48 hHeld ?_
      refine tW 14 49 hHeld ?_
      refine tW 15 50 hHeld ?_
      refine tW 16 51 hHeld ?_
      refine tW 17 52 hHeld ?_
      refine tW 18 53 hHeld ?_
      refine tW 19 54 hHeld ?_
      refine wpAnyH_ready (rs := [20]) (by kernel_rfl) (by simp) ?_
      refine AllReadyH.cons rfl (fun K hK => ?_) AllReadyH.nil
      go_simp
      refine (cB1 _ hD).mono ?_
      rintro e w3 ⟨rfl, hb3'⟩
      have hb3 := hD.trans (hb3'.mono hD.size)
      refine hK.out _ _ (KJ _ hb3) (fun hHeld => ?_)
      clear hK K
      try simp only [Act.put, sA, sB, sC]
      refine tW 21 56 hHeld ?_
      refine tW 22 57 hHeld ?_
      refine tW 23 58 hHeld ?_
      refine tU 24 59 hHeld ?_
      refine tU 25 60 hHeld ?_
      refine tU 26 61 hHeld ?_
      refine tU 27 62 hHeld ?_
      refine tU 28 63 hHeld ?_
      refine tU 29 64 hHeld ?_
      refine tU 30 65 hHeld ?_
      refine tU 31 66 hHeld ?_
      refine tU 32 67 hHeld ?_
      refine tU 33 68 hHeld ?_
      refine tU 34 69 hHeld ?_
      refine tU 35 70 hHeld ?_
      refine tU 36 71 hHeld ?_
      refine tW 37 72 hHeld ?_
      refine wpAnyH_done (by kernel_rfl) ?_ _
      go_wp2
      go_meet
      case rel => exact ⟨by rw [HE3.out, hle, hb1v]; rfl, hb3⟩
     | true =>
      rw [hb1v] at cB1
      refine wp_region_held_drew (S := fun w' => (w'.cell? ⟨p.sb, 0, none⟩ = some (.slice (some ⟨p.bb, 0, none⟩) s1.c.bal.length k) ∧ w'.cell? ⟨p.sb, 1, none⟩ = some (.int .i64 s1.c.slots) ∧ w'.cell? ⟨p.sb, 2, none⟩ = some (.int .i64 s1.c.boost) ∧ w'.cell? ⟨p.sb, 3, none⟩ = some (.pointer (some ⟨p.tb, 0, none⟩)) ∧ w'.cell? ⟨p.sb, 4, none⟩ = some (.slice (some ⟨p.vb, 0, none⟩) s1.votes.length vk) ∧ w'.cell? ⟨p.sb, 5, none⟩ = some (.int .i64 s1.slot) ∧ w'.cell? ⟨p.sb, 6, none⟩ = some (.int .u64 s1.boosted) ∧ w'.cell? ⟨p.sb, 7, none⟩ = some (.int .i64 s1.just.e) ∧ w'.cell? ⟨p.sb, 8, none⟩ = some (.int .u64 s1.just.r) ∧ w'.cell? ⟨p.sb, 9, none⟩ = some (.int .i64 s1.fin.e) ∧ w'.cell? ⟨p.sb, 10, none⟩ = some (.int .u64 s1.fin.r)) ∧ (w'.cell? ⟨B, 0, none⟩ = some (.int .i64 j.e) ∧ w'.cell? ⟨B, 1, none⟩ = some (.int .u64 j.r)) ∧ (w'.cell? ⟨B + 1, 0, none⟩ = some (.int .i64 f.e) ∧ w'.cell? ⟨B + 1, 1, none⟩ = some (.int .u64 f.r))) (by kernel_rfl) (KJ _ hD) (fun hHeld => ?_)
      refine tW 0 35 hHeld ?_
      refine tW 1 36 hHeld ?_
      refine tW 2 37 hHeld ?_
      refine tW 3 38 hHeld ?_
      refine tW 4 39 hHeld ?_
      refine tW 5 40 hHeld ?_
      refine tW 6 41 hHeld ?_
      refine tW 7 42 hHeld ?_
      refine tW 8 43 hHeld ?_
      refine tW 9 44 hHeld ?_
      refine tW 10 45 hHeld ?_
      refine tW 11 46 hHeld ?_
      refine tW 12 47 hHeld ?_
      refine tW 13 48 hHeld ?_
      refine tW 14 49 hHeld ?_
      refine tW 15 50 hHeld ?_
      refine tW 16 51 hHeld ?_
      refine tW 17 52 hHeld ?_
      refine tW 18 53 hHeld ?_
      refine tW 19 54 hHeld ?_
      refine wpAnyH_ready (rs := [20]) (by kernel_rfl) (by simp) ?_
      refine AllReadyH.cons rfl (fun K hK => ?_) AllReadyH.nil
      go_simp
      refine (cB1 _ hD).mono ?_
      rintro e w3 ⟨rfl, hb3'⟩
      have hb3 := hD.trans (hb3'.mono hD.size)
      refine hK.out _ _ (KJ _ hb3) (fun hHeld => ?_)
      clear hK K
      try simp only [Act.put, sA, sB, sC]
      refine tW 21 56 hHeld ?_
      refine tW 22 57 hHeld ?_
      refine tW 23 58 hHeld ?_
      refine tW 24 59 hHeld ?_
      refine tW 25 60 hHeld ?_
      refine tW 26 61 hHeld ?_
      refine tW 27 62 hHeld ?_
      refine tW 28 63 hHeld ?_
      refine tW 29 64 hHeld ?_
      refine tW 30 65 hHeld ?_
      refine tW 31 66 hHeld ?_
      refine tW 32 67 hHeld ?_
      refine tW 33 68 hHeld ?_
      refine tW 34 69 hHeld ?_
      refine wpAnyH_ready (rs := [35]) (by kernel_rfl) (by simp) ?_
      refine AllReadyH.cons rfl (fun K hK => ?_) AllReadyH.nil
      go_simp
      refine (cB2 _ hb3).mono ?_
      rintro e w4 ⟨rfl, hb4'⟩
      have hb4 := hb3.trans (hb4'.mono hb3.size)
      refine hK.out _ _ (KJ _ hb4) (fun hHeld => ?_)
      clear hK K
      try simp only [Act.put, sA, sB, sC]
      refine tW 36 71 hHeld ?_
      refine tW 37 72 hHeld ?_
      refine wpAnyH_done (by kernel_rfl) ?_ _
      go_wp2
      go_meet
      case rel => exact ⟨by rw [HE3.out, hle, hb1v]; rfl, hb4⟩
   case rest =>
    obtain ⟨rfl, hb3⟩ := hcut
    obtain ⟨W3, rfl⟩ : ∃ W3 : World, W3 = wc := ⟨_, rfl⟩
    have h3 := h2.below hb3
    have hX3 := Lib.hid (hX2.thenBelow hb3)
    have q1 := blk_below q1 hb3
    cases E3 with
    | true =>
     have HR : Hid (raiseS x j f = (s1, x.2)) := by
      show _ = _
      have := HE3.out
      rw [HRS.out, if_pos]
      simp only [Bool.true_eq, Bool.or_eq_true, decide_eq_true_eq, Bool.not_eq_true'] at this
      rcases this with (h1 | h1) | h1
      ·exact .inl h1
      ·exact .inr (.inl h1)
      ·exact .inr (.inr h1)
     go_wp2
     refine bodyPost_ret (results_none rfl _ _ _) rfl ?_
     refine ⟨rfl, ⟨p.nb, .inl rfl, ch, ?_⟩, (Ext.of_below hbw1).trans hX3.out (fun i _ hi => hi.1)⟩
     rw [HR.out]
     exact h3
    | false =>
     have hE := HE3.out
     simp only [Bool.false_eq, Bool.or_eq_false_iff, decide_eq_false_iff_not, Bool.not_eq_false'] at hE
     obtain ⟨⟨hE1, hE2⟩, hE4⟩ := hE
     have HR : Hid (raiseS x j f = (cutS s1 f, x.2 ++ [⟨3, f.r, 0, 0, 0, false⟩])) := by
      show _ = _
      rw [HRS.out, if_neg]
      rintro (h1 | h1 | h1)
      ·exact hE1 h1
      ·rw [hE2] at h1; cases h1
      ·rw [hE4] at h1; cases h1
     have hhas : s1.tree.has f.r = true := by
      unfold Tr.below at hE2
      simp only [Bool.and_eq_true] at hE2
      exact hE2.2.1
     have HHas := Lib.hid hhas
     clear hE1 hE2 hE4 hhas KJ cB1 cB2 hD
     go_upto_region 5 with (first
      | (refine wpList_loadP rfl 38 (.tmp 5) rfl (B + 1) 0 [.int .i64 f.e, .int .u64 f.r] _ q1 rfl rfl _ Tryz.underlying38 rfl iPt ?_)
      | (refine wpList_storeP rfl 38 (.tmp 76) (.tmp 74) rfl p.sb 9 (stC p s1 k vk ch) [.int .i64 f.e, .int .u64 f.r] h3.st.blk (by simp [stC]) rfl rfl iPt rfl (stC p { s1 with fin := f } k vk ch) rfl ?_; intro W5 hR5 hx5 hs5))
     have h5 : ApAt W5 base p ({ s1 with fin := f }, x.2) k vk ch := ⟨h3.st.cell hx5 hR5 rfl rfl rfl rfl rfl, own_ext h3.chs hx5 (fun b hb e => by
      obtain ⟨ds, hd, hle⟩ := own_kind h3.chs hb
      have e' : b = p.sb := e
      omega), h3.hi, by have := h3.hb; omega, h3.kb.trans (keepN_cells h3.st.blk hx5 (by decide))⟩
     have hX5 := Lib.hid (hX3.out.trans hx5 (fun i _ e => by
      have e' : i = p.sb := e
      subst e'
      exact foot2_has (.inl rfl) hsb hBb))
     have q5 := blk_ext q1 hx5 (fun e => by have e' : B + 1 = p.sb := e; omega)
     have KC : ∀ W', Below W5.heap.size W5 W' → W'.cell? ⟨p.sb, 3, none⟩ = some (.pointer (some ⟨p.tb, 0, none⟩)) ∧ (W'.cell? ⟨B + 1, 0, none⟩ = some (.int .i64 f.e) ∧ W'.cell? ⟨B + 1, 1, none⟩ = some (.int .u64 f.r)) := fun W' hW => by
      obtain ⟨_, _, _, c3, _⟩ := (h5.st.below hW).cells
      exact ⟨c3, cs2 (blk_below q5 hW)⟩
     have hst : p.sb ≠ p.tb := h5.st.ne.1.1
     have hBt : B + 1 ≠ p.tb := by have := h5.hi p.tb (by simp [Places.old]); omega
     have KC2 : ∀ W', Ext (fun i => i = p.tb) W5.drew W' → W'.cell? ⟨p.sb, 3, none⟩ = some (.pointer (some ⟨p.tb, 0, none⟩)) ∧ (W'.cell? ⟨B + 1, 0, none⟩ = some (.int .i64 f.e) ∧ W'.cell? ⟨B + 1, 1, none⟩ = some (.int .u64 f.r)) := fun W' hW => by
      obtain ⟨_, _, _, c3, _⟩ := h5.st.cells
      exact ⟨cell_ext (w := W5.drew) (F := fun i => i = p.tb) c3 hW hst, cs2 (blk_ext (w := W5.drew) (F := fun i => i = p.tb) q5 hW hBt)⟩
     have cC := Cut_calls (h5.st.tree.below (Below.refl _ W5).drew) hok1 f.r HHas.out
     have hD5 : Below W5.heap.size W5 W5.drew := (Below.refl _ _).drew
     go_region_held3 (fun w' => w'.cell? ⟨p.sb, 3, none⟩ = some (.pointer (some ⟨p.tb, 0, none⟩)) ∧ (w'.cell? ⟨B + 1, 0, none⟩ = some (.int .i64 f.e) ∧ w'.cell? ⟨B + 1, 1, none⟩ = some (.int .u64 f.r)))
      (first | exact KC _ hD5 | exact KC2 _ (by assumption))
      (first | (go_at_call 80; refine cC.mono ?_; rintro e W6 ⟨Ag, cg, nb', rfl, hIg, hT6, hnb6, hx6⟩))
     have h6 := (h5.below (Below.refl _ W5).drew).cutT hx6 hT6 hnb6
     have hX6 := Lib.hid (hX5.out.drew.trans hx6 (fun i _ e => by
      have e' : i = p.tb := e
      subst e'
      exact foot2_has (by simp [Places.has]) (h5.hi _ (by simp [Places.old])) hBb))
     have q6 := Lib.hid (blk_ext (w := W5.drew) (F := fun i => i = p.tb) q5 hx6 hBt)
     obtain ⟨G, hG⟩ : ∃ G, G = s1.tree.gone f.r := ⟨_, rfl⟩
     have hGl : G.length ≤ 1024 := by
      rw [hG]
      have a : (s1.tree.gone f.r).length ≤ s1.tree.roots.length := List.length_filter_le _ _
      have b := hok1.len
      simp only [Tr.roots, sortI, List.length_mergeSort, keys, List.length_map] at a
      omega
     rw [← hG] at hIg ⊢
     have HI : Hid (Ints (fun b => W5.heap.size ≤ b) .u64 W6 Ag G) := hIg
     have hWb : base ≤ W5.heap.size := h5.hb
     have HGe := Lib.hid hG
     have h6' : ApAt W6 base { p with nb := nb' } ({ s1 with fin := f, tree := s1.tree.cut f.r, ledgers := delAll s1.ledgers (G.take 0), gone := putAll s1.gone (G.take 0) }, x.2) k vk ch := h6
     clear hG hIg KC KC2 cC hD5 hx6 hT6 q5 h6 h5 h3 hR5 hx5
     go_wp2
     go_loopw [86] (fun i wr => ∃ n : Nat, n ≤ G.length ∧ i = .int .i64 n ∧ Hid (ApAt wr base { p with nb := nb' } ({ s1 with fin := f, tree := s1.tree.cut f.r, ledgers := delAll s1.ledgers (G.take n), gone := putAll s1.gone (G.take n) }, x.2) k vk ch) ∧ Hid (Ext (fun i => i = p.lb ∨ i = p.gb) W6 wr)) (fun i _ => G.length - (intOf i).toNat)
     case atStart => exact ⟨0, Nat.zero_le _, rfl, h6', Ext.refl _ _⟩
     case round =>
      obtain ⟨n, hn2, rfl, HA, HX⟩ := hrel
      have hlb : p.lb < base ∧ p.gb < base := ⟨HA.out.hi p.lb (by simp [Places.old]), HA.out.hi p.gb (by simp [Places.old])⟩
      by_cases hlt : n < G.length
      ·obtain ⟨b, o, rfl, hbk, hc⟩ := (Ints.keep (F := fun i => i = p.lb ∨ i = p.gb) HI.out HX.out (fun i hi e => by rcases e with e | e <;> omega)).get hlt
       have HT1 : Hid (delAll s1.ledgers (G.take (n + 1)) = del (delAll s1.ledgers (G.take n)) (G.getD n 0)) := by
        show _ = _
        rw [delAll, foldl_snoc _ _ _ _ hlt, List.getD_eq_getElem?_getD, List.getElem?_eq_getElem hlt]; rfl
       have HT2 : Hid (putAll s1.gone (G.take (n + 1)) = put (putAll s1.gone (G.take n)) (G.getD n 0) true) := by
        show _ = _
        rw [putAll, foldl_snoc _ _ _ _ hlt, List.getD_eq_getElem?_getD, List.getElem?_eq_getElem hlt]; rfl
       generalize delAll s1.ledgers (G.take n) = dl at HA HT1
       generalize putAll s1.gone (G.take n) = pl at HA HT2
       generalize G.getD n 0 = y at hc HT1 HT2
       obtain ⟨_, _, _, _, _, _, _, _, _, _, _, c11, c12, _⟩ := HA.out.st.cells
       obtain ⟨kvs, hmk, hrk⟩ := HA.out.st.led
       have HRK := Lib.hid hrk
       clear hrk
       go_wp2_with (first
        | (refine wpList_drop rfl (.tmp 93) (.tmp 94) 39 23 rfl 23 99 Tryz.underlying39 Tryz.underlying23 p.lb kvs rfl hmk y rfl ?_; intro w7 hm7 hx7 hs7; have hA7 := HA.out.ledT hx7 ⟨_, hm7, (HRK.out.mono (fun _ _ h => h.keep (keep_map' hmk hx7))).del⟩; obtain ⟨_, _, _, _, _, _, _, _, _, _, _, _, d12, _⟩ := hA7.st.cells)
        | (refine wpList_put rfl (.tmp 98) (.tmp 99) (.const (.bool true)) 40 rfl 23 4 Tryz.underlying40 Tryz.underlying23 p.gb _ rfl hA7.st.gone y (.bool true) rfl rfl ?_; intro w8 hm8 hx8 hs8))
       go_roundw
       case rel =>
        refine ⟨n + 1, by omega, by go_num, ?_, (HX.out.trans hx7 (fun _ _ e => .inl e)).trans hx8 (fun _ _ e => .inr e)⟩
        show ApAt _ _ _ _ _ _ _
        rw [HT1.out, HT2.out]
        have e1 : put (goneKV pl) y (.bool true) = goneKV (put pl y true) := put_map Value.bool y true pl
        rw [e1] at hm8
        exact hA7.goneT hx8 hm8
       case measure => simp [intOf]; omega
      ·obtain rfl : n = G.length := by omega
       rw [List.take_length] at HA
       rw [HGe.out] at HA
       have hX7 := Lib.hid (hX6.out.trans HX.out (fun i _ e => by
        rcases e with e | e
        ·subst e; exact foot2_has (by simp [Places.has]) hlb.1 hBb
        ·subst e; exact foot2_has (by simp [Places.has]) hlb.2 hBb))
       have q7 := blk_ext q6.out HX.out (fun e => by rcases e with e | e <;> omega)
       have hA := HA.out
       obtain ⟨s2, hs2⟩ : ∃ s2 : St, s2 = { s1 with fin := f, tree := s1.tree.cut f.r, ledgers := delAll s1.ledgers (s1.tree.gone f.r), gone := putAll s1.gone (s1.tree.gone f.r) } := ⟨_, rfl⟩
       have hcs : cutS s1 f = { s2 with boosted := if s2.tree.has s2.boosted then s2.boosted else 0 } := by rw [hs2]; rfl
       rw [← hs2] at hA
       have HCS := Lib.hid hcs
       clear hs2 hcs HA HX HI hGl h6' q6 hn2 hlt
       have KD : ∀ W', Below wr.heap.size wr W' → W'.cell? ⟨p.sb, 3, none⟩ = some (.pointer (some ⟨p.tb, 0, none⟩)) ∧ W'.cell? ⟨p.sb, 6, none⟩ = some (.int .u64 s2.boosted) := fun W' hW => by
        obtain ⟨_, _, _, c3, _, _, c6, _⟩ := (hA.st.below hW).cells
        exact ⟨c3, c6⟩
       have cH := fun (W : World) (hW : Below wr.heap.size wr W) => Has_calls (hA.st.tree.below hW) s2.boosted
       have hD7 : Below wr.heap.size wr wr.drew := (Below.refl _ _).drew
       obtain ⟨HBo, hHBo⟩ : ∃ b, b = s2.tree.has s2.boosted := ⟨_, rfl⟩
       rw [← hHBo] at cH
       have HHB2 := Lib.hid hHBo
       clear hHBo
       go_upto_region 12 with fail
       go_region_held3 (fun w' => w'.cell? ⟨p.sb, 3, none⟩ = some (.pointer (some ⟨p.tb, 0, none⟩)) ∧ w'.cell? ⟨p.sb, 6, none⟩ = some (.int .u64 s2.boosted))
        (first | exact KD _ hD7 | exact KD _ (by assumption))
        (first | (go_at_call 48; refine (cH _ hD7).mono ?_; rintro e w8 ⟨rfl, hb8'⟩; have hb8 := hD7.trans (hb8'.mono hD7.size)))
       go_upto_if 110 with fail
       have h8 := hA.below hb8
       have hX8 := Lib.hid (hX7.out.thenBelow hb8)
       have q8 := blk_below q7 hb8
       clear KD cH hD7 hb8' hA q7
       go_cut [] (fun w' => ApAt w' base { p with nb := nb' } (cutS s1 f, x.2) k vk ch ∧ Ext (p.foot2 base B (B + 1 + 1)) W1 w' ∧ w'.heap[B + 1]? = some (.cells #[.int .i64 f.e, .int .u64 f.r] 38 (0, 0)))
       case first =>
        cases HBo with
        | true =>
         have e1 : cutS s1 f = s2 := by rw [HCS.out, ← HHB2.out]; rfl
         have HE9 := Lib.hid e1
         clear e1
         go_wp2
         go_meet
         case rel =>
          rw [HE9.out]
          exact ⟨h8, hX8.out, q8⟩
        | false =>
         have e1 : cutS s1 f = { s2 with boosted := 0 } := by rw [HCS.out, ← HHB2.out]; rfl
         have HE9 := Lib.hid e1
         clear e1
         obtain ⟨_, _, _, _, _, _, c6, _⟩ := h8.st.cells
         have z6 := blk_frozen h8.st.blk 6
         go_wp2
         go_meet
         case rel =>
          have hx9 : Ext (fun i => i = p.sb) w8 (w8.setCell ⟨p.sb, 6, none⟩ (.int .u64 0)) := (Ext.refl _ _).set1
          rw [HE9.out]
          refine ⟨⟨h8.st.cell hx9 (blk_set h8.st.blk 6 _) rfl rfl rfl rfl rfl, own_ext h8.chs hx9 (fun b hb e => ?_), h8.hi, by have := h8.hb; have := hx9.size; omega, h8.kb.trans (keepN_cells h8.st.blk hx9 (by decide))⟩, hX8.out.trans hx9 (fun i _ e => ?_), blk_ext q8 hx9 (fun e => ?_)⟩
          ·obtain ⟨ds, hd, hle⟩ := own_kind h8.chs hb
           have e' : b = p.sb := e
           omega
          ·have e' : i = p.sb := e
           subst e'
           exact foot2_has (.inl rfl) hsb hBb
          ·have e' : B + 1 = p.sb := e
           omega
       case rest =>
        obtain ⟨h9, hX9, q9⟩ := hcut
        obtain ⟨W9, rfl⟩ : ∃ W9 : World, W9 = wc := ⟨_, rfl⟩
        have HX9 := Lib.hid hX9
        go_upto_region 14 with fail
        obtain ⟨cc, hcc⟩ : ∃ cc : Chg, cc = ⟨3, f.r, 0, 0, 0, false⟩ := ⟨_, rfl⟩
        have HCC := Lib.hid hcc
        have hA5' := h9.below (Below.refl _ W9).drew
        have hX5' := Lib.hid hX9.drew
        have hq5' : W9.drew.heap[B + 1]? = some (.cells #[.int .i64 f.e, .int .u64 f.r] 38 (0, 0)) := q9
        generalize cutS s1 f = s9 at hA5' h9 HR
        generalize hW5 : W9.drew = w6 at hA5' hX5' hq5'
        have hA6 := hA5'.below (below_alloc (Below.refl _ _) (.cells (chgC cc).toArray 140))
        obtain ⟨_, _, _, _, _, _, _, _, _, _, _, _, _, d13⟩ := hA5'.st.cells
        have K5 : w6.cell? ⟨p.sb, 13, none⟩ = some ch ∧ (w6.cell? ⟨B + 1, 0, none⟩ = some (.int .i64 f.e) ∧ w6.cell? ⟨B + 1, 1, none⟩ = some (.int .u64 f.r)) := ⟨d13, cs2 hq5'⟩
        have K6 : (w6.alloc (.cells (chgC cc).toArray 140)).cell? ⟨p.sb, 13, none⟩ = some ch ∧ ((w6.alloc (.cells (chgC cc).toArray 140)).cell? ⟨B + 1, 0, none⟩ = some (.int .i64 f.e) ∧ (w6.alloc (.cells (chgC cc).toArray 140)).cell? ⟨B + 1, 1, none⟩ = some (.int .u64 f.r)) := by
         obtain ⟨_, _, _, _, _, _, _, _, _, _, _, _, _, d13'⟩ := hA6.st.cells
         exact ⟨d13', cs2 (blk_below hq5' (below_alloc (Below.refl _ _) _))⟩
        have K7 : ∀ w7, (w6.alloc (.cells (chgC cc).toArray 140)).grownBy w7 ch.ownBlock → w7.cell? ⟨p.sb, 13, none⟩ = some ch → w7.cell? ⟨p.sb, 13, none⟩ = some ch ∧ (w7.cell? ⟨B + 1, 0, none⟩ = some (.int .i64 f.e) ∧ w7.cell? ⟨B + 1, 1, none⟩ = some (.int .u64 f.r)) := fun w7 hg e13 => by
         have hq6 := blk_below hq5' (below_alloc (Below.refl _ _) (.cells (chgC cc).toArray 140))
         have hq8 := grown_keep hg hq6 (fun e => hOff (B + 1) e.symm ⟨Nat.le_succ _, Nat.lt_succ_self _⟩)
         exact ⟨e13, cs2 hq8⟩
        have hfl := flat_new w6 (chgC cc) 140
        have hbnd : (x.2.length + 1) * 48 ≤ 140737488355328 := by omega
        have hbnd2 : x.2.length + 1 ≤ 140737488355328 := by omega
        have HOw := Lib.hid hA6.chs
        have hb6 := hA6.hb
        have hsz6 : (w6.alloc (.cells (chgC cc).toArray 140)).heap.size = w6.heap.size + 1 := by simp
        clear h9 q9
        rw [hcc] at hfl HOw hb6 hsz6 K6
        simp only [chgC] at hfl hb6 hsz6 K6
        refine beginK (fun w' => w'.cell? ⟨p.sb, 13, none⟩ = some ch ∧ (w'.cell? ⟨B + 1, 0, none⟩ = some (.int .i64 f.e) ∧ w'.cell? ⟨B + 1, 1, none⟩ = some (.int .u64 f.r))) 12 (by rfl) ?_
        rw [hW5]
        have hHeld := K5
        refine kW 0 114 hHeld ?_
        refine kW 1 115 hHeld ?_
        refine kW 2 116 hHeld ?_
        refine kW 3 117 hHeld ?_
        refine kW 4 118 hHeld ?_
        refine kW 5 119 hHeld ?_
        refine kW 6 120 hHeld ?_
        refine kW 7 121 hHeld ?_
        refine readyK (rs := [8]) (by kernel_rfl) (by simp) ?_
        refine AllReadyK.cons rfl (fun K hK => ?_) AllReadyK.nil
        go_simp
        refine hK.out _ _ (fun _ => K6) ?_
        have hHeld := K6
        clear hK K
        try simp only [Act.put, sA, sB, sC]
        refine readyK (rs := [9]) (by kernel_rfl) (by simp) ?_
        refine AllReadyK.cons rfl (fun K hK => ?_) AllReadyK.nil
        refine step_app base (by rfl) (.tmp 118) (.tmp 122) 41 140 (.agg #[.int .i64 0, .int .u64 0, .int .u64 0, .int .i64 0, .int .u64 0, .bool false]) 6 48 rfl Tryz.underlying41 infoChg rfl (by decide) ch x.2.length _ (by rfl) HOw.out (some ⟨w6.heap.size, 0, none⟩) 1 1 _ (by rfl) rfl hfl (chgC_one ⟨3, f.r, 0, 0, 0, false⟩) hbnd hbnd2 hb6 ?_
        intro A7 k7 w7 hown hg hnew
        have hA7 := (hA6.grown (by rw [HCC.out]; exact hg)).1
        obtain ⟨_, _, _, _, _, _, _, _, _, _, _, _, _, e13⟩ := hA7.cells
        have ez := blk_frozen hA7.blk 13
        have hH7 := K7 _ (by rw [HCC.out]; exact hg) e13
        refine hK.out _ _ (fun _ => hH7) ?_
        have hHeld := hH7
        clear hK K
        try simp only [Act.put, sA, sB, sC]
        refine kW 10 124 hHeld ?_
        refine kW 11 125 hHeld ?_
        refine readyK (rs := [12]) (by kernel_rfl) (by simp) ?_
        refine AllReadyK.cons rfl (fun K hK => ?_) AllReadyK.nil
        go_simp
        refine hK.out _ _ (fun h => absurd rfl h) ?_
        clear hK K
        try simp only [Act.put, sA, sB, sC]
        refine doneK (by kernel_rfl) ?_ _
        go_wp2
        go_end0
        obtain ⟨r1, r2, r3⟩ := push_all (w6 := w6.alloc (.cells (chgC cc).toArray 140)) (Ext.refl ({ p with nb := nb' }.foot2 base B (B + 1 + 1)) w6) hBb (Nat.le_trans hB1 hX5'.out.size) hOff hA5' rfl (by rw [HCC.out]; exact hg) (by rw [HCC.out]; exact hown) (by rw [HCC.out]; exact hnew)
        exact ⟨rfl, raise_fin (HR.out.trans (by rw [HCC.out])) (Nat.le_trans hWb hnb6) hbw1 hX5'.out r1 r3⟩
end Go.Proofs.YtnppimhlfcjghaaGreat
