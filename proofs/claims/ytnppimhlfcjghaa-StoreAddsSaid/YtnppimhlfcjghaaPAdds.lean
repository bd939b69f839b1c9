import Derived.Test.YtnppimhlfcjghaaPLaw
import Derived.BigQuiet
set_option linter.all false
set_option linter.unusedVariables false
set_option linter.unusedSimpArgs false
namespace Go.Proofs.Ytnppimhlfcjghaa
open Go.RowKit
set_option maxRecDepth 100000
set_option maxHeartbeats 8000000
theorem adds_step {s : St} (h : s.ok) (hi : s.inv) (ho : s.on) {e : Ev} (hw : e.wf) (he : (applyS s e).2 = 0) (hk : e.kind = 1) : ∃ ms last, (applyS s e).1.2 = ⟨0, e.block.root, e.block.parent, 0, 0, false⟩ :: ms ∧ (applyS s e).1.2.getLast? = some last ∧ (last.kind = 3 ↔ (applyS s e).1.1.fin ≠ s.fin) ∧ (last.kind = 3 → last.root = (applyS s e).1.1.fin.r) ∧ (applyS s e).1.1.tree.has e.block.root = true := by
 have hk0 : e.kind ≠ 0 := by omega
 have hE : proposeE s e.block = 0 := by
  unfold applyS at he
  rw [if_neg hk0, if_pos hk] at he
  split at he
  ·rename_i h1; exact h1
  ·exact he
 have hS : (applyS s e).1 = proposeS s e.block := by
  unfold applyS
  rw [if_neg hk0, if_pos hk, if_pos hE]
 rw [hS]
 obtain ⟨ms, last, h1, h2, h3, h4⟩ := adds_propose h hi hw.2.2.1 hE
 exact ⟨ms, last, h1, h2, h3, h4, (on_propose h ho hw.2.2.1 hE).2⟩
theorem chg_take : ∀ (xs : List Chg) (j : Nat) (x : Chg), xs[j]? = some x → ((xs.flatMap chgC).drop (j * 6)).take 6 = chgC x
 | [], j, x, h => by simp at h
 | a :: l, 0, x, h => by
   obtain rfl : a = x := by simpa using h
   simp [chgC]
 | a :: l, j + 1, x, h => by
   have ih := chg_take l j x (by simpa using h)
   rw [List.flatMap_cons, show (j + 1) * 6 = 6 + j * 6 from by omega, ← List.drop_drop, List.drop_left' (show (chgC a).length = 6 from rfl)]
   exact ih
theorem chg_cells {w : World} {base : Nat} {A : Option Addr} {c : Nat} {xs : List Chg} (h : w.ownsRow base 75 6 (.slice A xs.length c) xs.length (xs.flatMap chgC)) {j : Nat} {x : Chg} (hx : xs[j]? = some x) : ∃ g, A = some ⟨g, 0, none⟩ ∧ ∀ i u, (chgC x)[i]? = some u → w.cell? ⟨g, j * 6 + i, none⟩ = some u := by
 have hK : Lie (fun _ => True) (fun (x : Chg) cs => cs = chgC x) 6 w A xs := Lie.of_own h (by decide) rfl (fun j x hx => chg_take xs j x hx) (fun _ _ _ => trivial)
 obtain ⟨b, o, cs, e, _, rfl, _, hu⟩ := Lie.get hK hx
 obtain ⟨g, cap, he, _, _⟩ := h.form (by have := (List.getElem?_eq_some_iff.1 hx).1; omega)
 injection he with e1 _ _
 rw [e1] at e
 injection e with e
 injection e with e2 e3 _
 subst e2 e3
 exact ⟨g, e1, fun i u hi => by have := hu i u hi; rwa [Nat.zero_add] at this⟩
theorem StoreAdds_calls (w : World) (A : Option Addr) (kn : Nat) (ns : List Int) (Ab : Option Addr) (kb : Nat) (bs : List Int) (sl : Int) (hn : Ints anyB .u8 w A ns) (hf : Fits ns.length kn) (hnr : ∀ x ∈ ns, 0 ≤ x ∧ x < 256) (hb : Ints anyB .u8 w Ab bs) (hf2 : Fits bs.length kb) (hbr : ∀ x ∈ bs, 0 ≤ x ∧ x < 256) (hsl : (Lit.int .u8 sl).wf = true) :
    Calls Try.prog 6 #[.slice A ns.length kn, .slice Ab bs.length kb, .int .u8 sl] w fun e w' => e = .returned (.bool true) ∧ Below w.heap.size w w' := by
 have hsl' : 0 ≤ sl ∧ sl < 256 := by simp [Lit.wf, IntKind.min, IntKind.max, IntKind.bits, IntKind.signed] at hsl; omega
 clear hsl
 go_enter Try.func6, Try.ntmps6
 go_upto_region 3 with (go_at_call 14; refine (awake14_calls _).mono ?_; rintro e w1 ⟨rfl, hb1⟩)
 have cC := Config_calls w1 bs Ab kb sl 40 (hb.below hb1) hbr hf2.2 hsl' (by omega)
 clear hb hf2 hbr
 go_upto_region 4 with (go_at_call 15; refine cC.mono ?_; rintro e w2 ⟨c, Ac, kc, rfl, hok, hcb, hb2⟩)
 have q7 := heap_new w2 (.cells #[.slice Ac c.bal.length kc, .int .i64 c.slots, .int .i64 c.boost] 36)
 have hb3 := below_alloc (Below.refl w2.heap.size w2) (.cells #[.slice Ac c.bal.length kc, .int .i64 c.slots, .int .i64 c.boost] 36)
 have hb13 : Below w.heap.size w (w2.alloc (.cells #[.slice Ac c.bal.length kc, .int .i64 c.slots, .int .i64 c.boost] 36)) := below_trans hb1 (below_trans hb2 hb3)
 have hcb3 : Ints anyB .u64 (w2.alloc (.cells #[.slice Ac c.bal.length kc, .int .i64 c.slots, .int .i64 c.boost] 36)) Ac c.bal := (Lie.any hcb : Ints anyB .u64 w2 Ac c.bal).below hb3
 have cS := SOf_calls (w2.alloc (.cells #[.slice Ac c.bal.length kc, .int .i64 c.slots, .int .i64 c.boost] 36)) c Ac kc hok hcb3
 clear cC hb1 hb2 hb3 hcb
 obtain ⟨y0, y1, y2⟩ := cs3 q7
 go_upto_region 5 with (first
  | (refine wpList_loadB rfl 36 (.tmp 7) rfl w2.heap.size [.slice Ac c.bal.length kc, .int .i64 c.slots, .int .i64 c.boost] q7 rfl _ Try.underlying36 rfl iCf ?_)
  | (go_at_call 16; refine cS.mono ?_; rintro e w4 ⟨p, k, vk, rfl, hS, hp, hb4⟩))
 have h4 := below_trans hb13 hb4
 have hpb : ∀ i ∈ p.all, w.heap.size ≤ i := fun i hi => by have := hp i hi; have := hb13.size; omega
 have q7' := blk_below q7 hb4
 have cM := Make_calls w4 c hok Ac kc (hcb3.below hb4) ns A kn (hn.below h4) hnr hf
 obtain ⟨_, _, _, x3, _⟩ := hS.cells
 clear cS y0 y1 y2 hb4 hcb3 hb13 q7 hp hn hf hnr
 obtain ⟨y0, y1, y2⟩ := cs3 q7'
 go_wp2_with (first
  | (refine wpList_loadB rfl 36 (.tmp 7) rfl w2.heap.size [.slice Ac c.bal.length kc, .int .i64 c.slots, .int .i64 c.boost] q7' rfl _ Try.underlying36 rfl iCf ?_)
  | (go_at_call 17; refine cM.mono ?_; rintro e w5 ⟨es, Ae, ce, rfl, hew, hel, hev, hb5⟩))
 have hL0 := LawRun.start hok h4 hS hpb hew hev hb5
 generalize hS1 : w4.heap.size = S1 at hL0
 generalize hS2 : w5.heap.size = S2 at hL0
 clear y0 y1 y2 x3 cM hS hpb hS1 hS2 hev hb5 h4 q7' hew
 go_loopw [43] (fun i wr => ∃ (j : Nat) (s : St) (ch : Value), i = .int .i64 j ∧ j ≤ es.length ∧ LawRun w S1 S2 p.sb Ae es s ch wr) (fun i _ => es.length - (intOf i).toNat)
 case atStart => exact ⟨0, St.of c, _, rfl, Nat.zero_le _, hL0⟩
 case round =>
  clear hL0
  obtain ⟨j, s, ch, rfl, hj, hL⟩ := hrel
  by_cases hlt : j < es.length
  ·have hg := List.getElem?_eq_getElem hlt
   generalize es[j] = e at hg
   have hR := hL.1
   obtain ⟨b, o, rfl, hbk, A1, c1, A2, c2, A3, c3, A4, c4, A5, c5, hER, hAT⟩ := hR.row.get hg
   have hew := hR.wf e (List.mem_of_getElem? hg)
   clear hg
   go_upto_region 10 with (first
    | (refine wpList_load_mid rfl 66 _ rfl _ _ rfl [.int .i64 e.kind, .int .i64 e.slot, .int .u64 e.block.root, .int .u64 e.block.parent, .int .i64 e.block.slot, .slice A1 e.block.votes.length c1, .slice A2 e.block.proofs.length c2, .int .i64 e.vote.slot, .int .u64 e.vote.head, .int .i64 e.vote.src.e, .int .u64 e.vote.src.r, .int .i64 e.vote.tgt.e, .int .u64 e.vote.tgt.r, .slice A3 e.vote.who.length c3, .int .i64 e.proof.a.slot, .int .u64 e.proof.a.head, .int .i64 e.proof.a.src.e, .int .u64 e.proof.a.src.r, .int .i64 e.proof.a.tgt.e, .int .u64 e.proof.a.tgt.r, .slice A4 e.proof.a.who.length c4, .int .i64 e.proof.b.slot, .int .u64 e.proof.b.head, .int .i64 e.proof.b.src.e, .int .u64 e.proof.b.src.r, .int .i64 e.proof.b.tgt.e, .int .u64 e.proof.b.tgt.r, .slice A5 e.proof.b.who.length c5] _ hAT Try.underlying66 rfl iEv ?_)
    | (refine wpList_box 66 11 _ (.tmp 46) [.int .i64 e.kind, .int .i64 e.slot, .int .u64 e.block.root, .int .u64 e.block.parent, .int .i64 e.block.slot, .slice A1 e.block.votes.length c1, .slice A2 e.block.proofs.length c2, .int .i64 e.vote.slot, .int .u64 e.vote.head, .int .i64 e.vote.src.e, .int .u64 e.vote.src.r, .int .i64 e.vote.tgt.e, .int .u64 e.vote.tgt.r, .slice A3 e.vote.who.length c3, .int .i64 e.proof.a.slot, .int .u64 e.proof.a.head, .int .i64 e.proof.a.src.e, .int .u64 e.proof.a.src.r, .int .i64 e.proof.a.tgt.e, .int .u64 e.proof.a.tgt.r, .slice A4 e.proof.a.who.length c4, .int .i64 e.proof.b.slot, .int .u64 e.proof.b.head, .int .i64 e.proof.b.src.e, .int .u64 e.proof.b.src.r, .int .i64 e.proof.b.tgt.e, .int .u64 e.proof.b.tgt.r, .slice A5 e.proof.b.who.length c5] rfl rfl rfl zEv rfl rfl iEv rfl ?_))
   have hba := below_alloc (Below.refl wr.heap.size wr) (.cells #[.int .i64 e.kind, .int .i64 e.slot, .int .u64 e.block.root, .int .u64 e.block.parent, .int .i64 e.block.slot, .slice A1 e.block.votes.length c1, .slice A2 e.block.proofs.length c2, .int .i64 e.vote.slot, .int .u64 e.vote.head, .int .i64 e.vote.src.e, .int .u64 e.vote.src.r, .int .i64 e.vote.tgt.e, .int .u64 e.vote.tgt.r, .slice A3 e.vote.who.length c3, .int .i64 e.proof.a.slot, .int .u64 e.proof.a.head, .int .i64 e.proof.a.src.e, .int .u64 e.proof.a.src.r, .int .i64 e.proof.a.tgt.e, .int .u64 e.proof.a.tgt.r, .slice A4 e.proof.a.who.length c4, .int .i64 e.proof.b.slot, .int .u64 e.proof.b.head, .int .i64 e.proof.b.src.e, .int .u64 e.proof.b.src.r, .int .i64 e.proof.b.tgt.e, .int .u64 e.proof.b.tgt.r, .slice A5 e.proof.b.who.length c5] 66)
   have qe := heap_new wr (.cells #[.int .i64 e.kind, .int .i64 e.slot, .int .u64 e.block.root, .int .u64 e.block.parent, .int .i64 e.block.slot, .slice A1 e.block.votes.length c1, .slice A2 e.block.proofs.length c2, .int .i64 e.vote.slot, .int .u64 e.vote.head, .int .i64 e.vote.src.e, .int .u64 e.vote.src.r, .int .i64 e.vote.tgt.e, .int .u64 e.vote.tgt.r, .slice A3 e.vote.who.length c3, .int .i64 e.proof.a.slot, .int .u64 e.proof.a.head, .int .i64 e.proof.a.src.e, .int .u64 e.proof.a.src.r, .int .i64 e.proof.a.tgt.e, .int .u64 e.proof.a.tgt.r, .slice A4 e.proof.a.who.length c4, .int .i64 e.proof.b.slot, .int .u64 e.proof.b.head, .int .i64 e.proof.b.src.e, .int .u64 e.proof.b.src.r, .int .i64 e.proof.b.tgt.e, .int .u64 e.proof.b.tgt.r, .slice A5 e.proof.b.who.length c5] 66)
   have hL1 := hL.below hba
   have hER1 := hER.below hba
   have hS2 : S2 ≤ wr.heap.size := hR.b.2.2
   clear hL hR hba hAT hER hbk
   obtain ⟨p1, k1, vk1, hsb1, hS1, _⟩ := hL1.1.run
   have hblk1 := hS1.blk
   rw [hsb1] at hblk1
   have hcl := hS1.cells
   rw [hsb1] at hcl
   obtain ⟨_, _, _, _, _, _, _, _, _, x9, x10, _⟩ := hcl
   generalize hW1 : wr.alloc (.cells #[.int .i64 e.kind, .int .i64 e.slot, .int .u64 e.block.root, .int .u64 e.block.parent, .int .i64 e.block.slot, .slice A1 e.block.votes.length c1, .slice A2 e.block.proofs.length c2, .int .i64 e.vote.slot, .int .u64 e.vote.head, .int .i64 e.vote.src.e, .int .u64 e.vote.src.r, .int .i64 e.vote.tgt.e, .int .u64 e.vote.tgt.r, .slice A3 e.vote.who.length c3, .int .i64 e.proof.a.slot, .int .u64 e.proof.a.head, .int .i64 e.proof.a.src.e, .int .u64 e.proof.a.src.r, .int .i64 e.proof.a.tgt.e, .int .u64 e.proof.a.tgt.r, .slice A4 e.proof.a.who.length c4, .int .i64 e.proof.b.slot, .int .u64 e.proof.b.head, .int .i64 e.proof.b.src.e, .int .u64 e.proof.b.src.r, .int .i64 e.proof.b.tgt.e, .int .u64 e.proof.b.tgt.r, .slice A5 e.proof.b.who.length c5] 66) = W1 at *
   have hE1 : W1.heap.size = wr.heap.size + 1 := by rw [← hW1]; simp
   generalize hE : wr.heap.size = E at *
   have hbp := below_alloc (Below.refl W1.heap.size W1) (.cells #[.int .i64 s.fin.e, .int .u64 s.fin.r] 47)
   have qp := heap_new W1 (.cells #[.int .i64 s.fin.e, .int .u64 s.fin.r] 47)
   have hL2 := hL1.below hbp
   have hER2 := hER1.below hbp
   have qe2 := blk_below qe hbp
   have cA := hL2.1.apply hew hER2
   have hRok := hL1.1.ok
   have hAO := fun h => adds_other (s := s) (e := e) h
   have hAP := adds_step hRok hL1.2.1 hL1.2.2.1 hew
   have HW1 := Lib.hid (And.intro hW1 hE1)
   clear hS1 hblk1 hW1 hE1
   go_upto_region 12 with (first
    | (refine wpList_loadB rfl 66 (.tmp 11) rfl E [.int .i64 e.kind, .int .i64 e.slot, .int .u64 e.block.root, .int .u64 e.block.parent, .int .i64 e.block.slot, .slice A1 e.block.votes.length c1, .slice A2 e.block.proofs.length c2, .int .i64 e.vote.slot, .int .u64 e.vote.head, .int .i64 e.vote.src.e, .int .u64 e.vote.src.r, .int .i64 e.vote.tgt.e, .int .u64 e.vote.tgt.r, .slice A3 e.vote.who.length c3, .int .i64 e.proof.a.slot, .int .u64 e.proof.a.head, .int .i64 e.proof.a.src.e, .int .u64 e.proof.a.src.r, .int .i64 e.proof.a.tgt.e, .int .u64 e.proof.a.tgt.r, .slice A4 e.proof.a.who.length c4, .int .i64 e.proof.b.slot, .int .u64 e.proof.b.head, .int .i64 e.proof.b.src.e, .int .u64 e.proof.b.src.r, .int .i64 e.proof.b.tgt.e, .int .u64 e.proof.b.tgt.r, .slice A5 e.proof.b.who.length c5] qe2 rfl _ Try.underlying66 rfl iEv ?_)
    | (go_at_call 18; refine cA.mono ?_; rintro en W3 ⟨ch3, rfl, hR3, hch3, hk3, hx3⟩))
   have qe3 := hk3 _ _ _ (by decide) (by decide) (by decide) (by decide) qe2
   have qp3 := hk3 _ _ _ (by decide) (by decide) (by decide) (by decide) qp
   have hL3 := hL2.step hew hR3 hx3
   obtain ⟨q, k', vk', hsb, hS3, _⟩ := hR3.run
   have hT := hS3.tree
   have HS3 := Lib.hid hS3
   have HQ := Lib.hid qe3
   have HP := Lib.hid qp3
   have HL3 := Lib.hid hL3
   have hC := hS3.cells
   rw [hsb] at hC
   obtain ⟨_, _, _, z3, _, _, _, _, _, z9, z10, _⟩ := hC
   obtain ⟨v0, v1, v2, v3, v4, _⟩ := cs28 qe3
   clear cA hx3 hk3 hR3 hL3 hL2 hL1 hER1 hER2 qe qe2 x9 x10 hRok hew hbp qp hS3 qe3
   obtain ⟨A', cc, rfl⟩ := own_slice hch3
   generalize hn : (applyS s e).2 = n at hAO hAP ⊢
   generalize (applyS s e).1.2 = X at hAO hAP hch3 ⊢
   generalize (applyS s e).1.1 = t at hAP HL3 HS3 z3 z9 z10 hT
   clear hn
   generalize hP : W1.heap.size = P at HP qp3 hch3 ⊢
   have HPe := Lib.hid hP
   clear hP
   by_cases hn : n = 0
   ·by_cases hk : e.kind = 1
    ·have her : errV n = .nilIface := by rw [errV, if_pos hn]
     rw [her]
     obtain ⟨ms, last, hX, hlast, hl3, hl4, hhas⟩ := hAP hn hk
     have hkb : (e.kind == 1) = true := by simp [hk]
     clear hAO hAP her hn hk
     have hc0 : X[0]? = some ⟨0, e.block.root, e.block.parent, 0, 0, false⟩ := by rw [hX]; rfl
     have hcl : X[X.length - 1]? = some last := by rw [← List.getLast?_eq_getElem?]; exact hlast
     have hlen : 0 < X.length ∧ X.length ≤ 9223372036854775807 := by
      have h1 := (own_fits2 hch3).2.2
      unfold maxLen at h1
      refine ⟨by rw [hX]; simp, by omega⟩
     obtain ⟨g, rfl, hcc⟩ := chg_cells hch3 hc0
     obtain ⟨g', hg', hcd⟩ := chg_cells hch3 hcl
     obtain rfl : g = g' := by injection hg' with h; injection h
     have l0 : W3.cell? ⟨g, (X.length - 1) * 6, none⟩ = some (.int .i64 last.kind) := by simpa using hcd 0 _ rfl
     have l1 : W3.cell? ⟨g, (X.length - 1) * 6 + 1, none⟩ = some (.int .u64 last.root) := hcd 1 _ rfl
     have f0 : W3.cell? ⟨g, 0, none⟩ = some (.int .i64 0) := by simpa using hcc 0 _ rfl
     have f1 : W3.cell? ⟨g, 1, none⟩ = some (.int .u64 e.block.root) := by simpa using hcc 1 _ rfl
     have f2 : W3.cell? ⟨g, 2, none⟩ = some (.int .u64 e.block.parent) := by simpa using hcc 2 _ rfl
     have f3 : W3.cell? ⟨g, 3, none⟩ = some (.int .i64 0) := by simpa using hcc 3 _ rfl
     have f4 : W3.cell? ⟨g, 4, none⟩ = some (.int .u64 0) := by simpa using hcc 4 _ rfl
     have f5 : W3.cell? ⟨g, 5, none⟩ = some (.bool false) := by simpa using hcc 5 _ rfl
     have HF := Lib.hid (And.intro f0 (And.intro f1 (And.intro f2 (And.intro f3 (And.intro f4 f5)))))
     have HLl := Lib.hid (And.intro l0 l1)
     have HZ := Lib.hid (And.intro z9 z10)
     obtain ⟨N, hN⟩ : ∃ N, N = X.length := ⟨_, rfl⟩
     rw [← hN] at hlen HLl ⊢
     clear hcc hcd hg' hX hc0 hcl hlast hch3 hN
     have hidx : ((N : Int) - 1) = ((N - 1 : Nat) : Int) := by omega
     have hlen0 : ((N : Int) == 0) = false := by simp; omega
     have hDD : Below W3.heap.size W3 W3.drew := (Below.refl _ W3).drew
     have KJ : ∀ W', Below W3.heap.size W3 W' → W'.cell? ⟨p.sb, 3, none⟩ = some (.pointer (some ⟨q.tb, 0, none⟩)) ∧ (W'.cell? ⟨g, 0, none⟩ = some (.int .i64 0) ∧ W'.cell? ⟨g, 1, none⟩ = some (.int .u64 e.block.root) ∧ W'.cell? ⟨g, 2, none⟩ = some (.int .u64 e.block.parent) ∧ W'.cell? ⟨g, 3, none⟩ = some (.int .i64 0) ∧ W'.cell? ⟨g, 4, none⟩ = some (.int .u64 0) ∧ W'.cell? ⟨g, 5, none⟩ = some (.bool false)) ∧ (W'.cell? ⟨E, 0, none⟩ = some (.int .i64 e.kind) ∧ W'.cell? ⟨E, 1, none⟩ = some (.int .i64 e.slot) ∧ W'.cell? ⟨E, 2, none⟩ = some (.int .u64 e.block.root) ∧ W'.cell? ⟨E, 3, none⟩ = some (.int .u64 e.block.parent) ∧ W'.cell? ⟨E, 4, none⟩ = some (.int .i64 e.block.slot) ∧ W'.cell? ⟨E, 5, none⟩ = some (.slice A1 e.block.votes.length c1) ∧ W'.cell? ⟨E, 6, none⟩ = some (.slice A2 e.block.proofs.length c2) ∧ W'.cell? ⟨E, 7, none⟩ = some (.int .i64 e.vote.slot) ∧ W'.cell? ⟨E, 8, none⟩ = some (.int .u64 e.vote.head) ∧ W'.cell? ⟨E, 9, none⟩ = some (.int .i64 e.vote.src.e) ∧ W'.cell? ⟨E, 10, none⟩ = some (.int .u64 e.vote.src.r) ∧ W'.cell? ⟨E, 11, none⟩ = some (.int .i64 e.vote.tgt.e) ∧ W'.cell? ⟨E, 12, none⟩ = some (.int .u64 e.vote.tgt.r) ∧ W'.cell? ⟨E, 13, none⟩ = some (.slice A3 e.vote.who.length c3) ∧ W'.cell? ⟨E, 14, none⟩ = some (.int .i64 e.proof.a.slot) ∧ W'.cell? ⟨E, 15, none⟩ = some (.int .u64 e.proof.a.head) ∧ W'.cell? ⟨E, 16, none⟩ = some (.int .i64 e.proof.a.src.e) ∧ W'.cell? ⟨E, 17, none⟩ = some (.int .u64 e.proof.a.src.r) ∧ W'.cell? ⟨E, 18, none⟩ = some (.int .i64 e.proof.a.tgt.e) ∧ W'.cell? ⟨E, 19, none⟩ = some (.int .u64 e.proof.a.tgt.r) ∧ W'.cell? ⟨E, 20, none⟩ = some (.slice A4 e.proof.a.who.length c4) ∧ W'.cell? ⟨E, 21, none⟩ = some (.int .i64 e.proof.b.slot) ∧ W'.cell? ⟨E, 22, none⟩ = some (.int .u64 e.proof.b.head) ∧ W'.cell? ⟨E, 23, none⟩ = some (.int .i64 e.proof.b.src.e) ∧ W'.cell? ⟨E, 24, none⟩ = some (.int .u64 e.proof.b.src.r) ∧ W'.cell? ⟨E, 25, none⟩ = some (.int .i64 e.proof.b.tgt.e) ∧ W'.cell? ⟨E, 26, none⟩ = some (.int .u64 e.proof.b.tgt.r) ∧ W'.cell? ⟨E, 27, none⟩ = some (.slice A5 e.proof.b.who.length c5)) := fun W' hW => by
      obtain ⟨f0, f1, f2, f3, f4, f5⟩ := HF.out
      have hC := (HS3.out.below hW).cells
      rw [hsb] at hC
      exact ⟨hC.2.2.2.1, ⟨cell_below f0 hW, cell_below f1 hW, cell_below f2 hW, cell_below f3 hW, cell_below f4 hW, cell_below f5 hW⟩, cs28 (blk_below HQ.out hW)⟩
     go_upto_region 15 with fail
     clear f0 f1 f2 f3 f4 f5 l0 l1 z3 z9 z10 v0 v1 v2 v3 v4
     refine wp_region_held_drew (S := fun w' => w'.cell? ⟨p.sb, 3, none⟩ = some (.pointer (some ⟨q.tb, 0, none⟩)) ∧ (w'.cell? ⟨g, 0, none⟩ = some (.int .i64 0) ∧ w'.cell? ⟨g, 1, none⟩ = some (.int .u64 e.block.root) ∧ w'.cell? ⟨g, 2, none⟩ = some (.int .u64 e.block.parent) ∧ w'.cell? ⟨g, 3, none⟩ = some (.int .i64 0) ∧ w'.cell? ⟨g, 4, none⟩ = some (.int .u64 0) ∧ w'.cell? ⟨g, 5, none⟩ = some (.bool false)) ∧ (w'.cell? ⟨E, 0, none⟩ = some (.int .i64 e.kind) ∧ w'.cell? ⟨E, 1, none⟩ = some (.int .i64 e.slot) ∧ w'.cell? ⟨E, 2, none⟩ = some (.int .u64 e.block.root) ∧ w'.cell? ⟨E, 3, none⟩ = some (.int .u64 e.block.parent) ∧ w'.cell? ⟨E, 4, none⟩ = some (.int .i64 e.block.slot) ∧ w'.cell? ⟨E, 5, none⟩ = some (.slice A1 e.block.votes.length c1) ∧ w'.cell? ⟨E, 6, none⟩ = some (.slice A2 e.block.proofs.length c2) ∧ w'.cell? ⟨E, 7, none⟩ = some (.int .i64 e.vote.slot) ∧ w'.cell? ⟨E, 8, none⟩ = some (.int .u64 e.vote.head) ∧ w'.cell? ⟨E, 9, none⟩ = some (.int .i64 e.vote.src.e) ∧ w'.cell? ⟨E, 10, none⟩ = some (.int .u64 e.vote.src.r) ∧ w'.cell? ⟨E, 11, none⟩ = some (.int .i64 e.vote.tgt.e) ∧ w'.cell? ⟨E, 12, none⟩ = some (.int .u64 e.vote.tgt.r) ∧ w'.cell? ⟨E, 13, none⟩ = some (.slice A3 e.vote.who.length c3) ∧ w'.cell? ⟨E, 14, none⟩ = some (.int .i64 e.proof.a.slot) ∧ w'.cell? ⟨E, 15, none⟩ = some (.int .u64 e.proof.a.head) ∧ w'.cell? ⟨E, 16, none⟩ = some (.int .i64 e.proof.a.src.e) ∧ w'.cell? ⟨E, 17, none⟩ = some (.int .u64 e.proof.a.src.r) ∧ w'.cell? ⟨E, 18, none⟩ = some (.int .i64 e.proof.a.tgt.e) ∧ w'.cell? ⟨E, 19, none⟩ = some (.int .u64 e.proof.a.tgt.r) ∧ w'.cell? ⟨E, 20, none⟩ = some (.slice A4 e.proof.a.who.length c4) ∧ w'.cell? ⟨E, 21, none⟩ = some (.int .i64 e.proof.b.slot) ∧ w'.cell? ⟨E, 22, none⟩ = some (.int .u64 e.proof.b.head) ∧ w'.cell? ⟨E, 23, none⟩ = some (.int .i64 e.proof.b.src.e) ∧ w'.cell? ⟨E, 24, none⟩ = some (.int .u64 e.proof.b.src.r) ∧ w'.cell? ⟨E, 25, none⟩ = some (.int .i64 e.proof.b.tgt.e) ∧ w'.cell? ⟨E, 26, none⟩ = some (.int .u64 e.proof.b.tgt.r) ∧ w'.cell? ⟨E, 27, none⟩ = some (.slice A5 e.proof.b.who.length c5))) (by kernel_rfl) (KJ _ hDD) (fun hHeld => ?_)
     refine tA (i := 0) (v := ?_) (d := (some 81)) rfl rfl (Or.inl ⟨by kernel_rfl, ?_⟩) hHeld ?_
     rotate_left
     ·intro w' hSw; clear hSw; first | (go_simp; done) | (go_simp; with_reducible rfl)
     try rotate_right
     set_option linter.unusedSimpArgs false in try simp only [Act.put, sA, sB, sC]
     refine tA (i := 1) (v := ?_) (d := (some 82)) rfl rfl (Or.inl ⟨by kernel_rfl, ?_⟩) hHeld ?_
     rotate_left
     ·intro w' hSw; clear hSw; first | (go_simp; done) | (go_simp; with_reducible rfl)
     try rotate_right
     set_option linter.unusedSimpArgs false in try simp only [Act.put, sA, sB, sC]
     refine tA (i := 2) (v := ?_) (d := (some 83)) rfl rfl (Or.inl ⟨by kernel_rfl, ?_⟩) hHeld ?_
     rotate_left
     ·intro w' hSw; clear hSw; first | (go_simp; done) | (go_simp; with_reducible rfl)
     try rotate_right
     set_option linter.unusedSimpArgs false in try simp only [Act.put, sA, sB, sC]
     refine tA (i := 3) (v := ?_) (d := (some 84)) rfl rfl (Or.inl ⟨by kernel_rfl, ?_⟩) hHeld ?_
     rotate_left
     ·intro w' hSw; clear hSw; first | (go_simp; done) | (go_simp; with_reducible rfl)
     try rotate_right
     set_option linter.unusedSimpArgs false in try simp only [Act.put, sA, sB, sC]
     refine tA (i := 4) (v := ?_) (d := (some 85)) rfl rfl (Or.inl ⟨by kernel_rfl, ?_⟩) hHeld ?_
     rotate_left
     ·intro w' hSw; clear hSw; first | (go_simp; done) | (go_simp; with_reducible rfl)
     try rotate_right
     set_option linter.unusedSimpArgs false in try simp only [Act.put, sA, sB, sC]
     refine tA (i := 5) (v := ?_) (d := (some 86)) rfl rfl (Or.inl ⟨by kernel_rfl, ?_⟩) hHeld ?_
     rotate_left
     ·intro w' hSw; clear hSw; first | (go_simp; done) | (go_simp; with_reducible rfl)
     try rotate_right
     set_option linter.unusedSimpArgs false in try simp only [Act.put, sA, sB, sC]
     refine tA (i := 6) (v := ?_) (d := (some 87)) rfl rfl (Or.inl ⟨by kernel_rfl, ?_⟩) hHeld ?_
     rotate_left
     ·intro w' hSw; obtain ⟨a3, ⟨f0, f1, f2, f3, f4, f5⟩, ⟨v0, v1, v2, v3, v4, v5, v6, v7, v8, v9, v10, v11, v12, v13, v14, v15, v16, v17, v18, v19, v20, v21, v22, v23, v24, v25, v26, v27⟩⟩ := hSw; first | (go_simp; done) | (go_simp; with_reducible rfl)
     try rotate_right
     set_option linter.unusedSimpArgs false in try simp only [Act.put, sA, sB, sC]
     refine tA (i := 7) (v := ?_) (d := (some 88)) rfl rfl (Or.inl ⟨by kernel_rfl, ?_⟩) hHeld ?_
     rotate_left
     ·intro w' hSw; clear hSw; first | (go_simp; done) | (go_simp; with_reducible rfl)
     try rotate_right
     set_option linter.unusedSimpArgs false in try simp only [Act.put, sA, sB, sC]
     refine tA (i := 8) (v := ?_) (d := (some 89)) rfl rfl (Or.inl ⟨by kernel_rfl, ?_⟩) hHeld ?_
     rotate_left
     ·intro w' hSw; clear hSw; first | (go_simp; done) | (go_simp; with_reducible rfl)
     try rotate_right
     set_option linter.unusedSimpArgs false in try simp only [Act.put, sA, sB, sC]
     refine tA (i := 9) (v := ?_) (d := (some 90)) rfl rfl (Or.inl ⟨by kernel_rfl, ?_⟩) hHeld ?_
     rotate_left
     ·intro w' hSw; obtain ⟨a3, ⟨f0, f1, f2, f3, f4, f5⟩, ⟨v0, v1, v2, v3, v4, v5, v6, v7, v8, v9, v10, v11, v12, v13, v14, v15, v16, v17, v18, v19, v20, v21, v22, v23, v24, v25, v26, v27⟩⟩ := hSw; first | (go_simp; done) | (go_simp; with_reducible rfl)
     try rotate_right
     set_option linter.unusedSimpArgs false in try simp only [Act.put, sA, sB, sC]
     refine tA (i := 10) (v := ?_) (d := (some 91)) rfl rfl (Or.inl ⟨by kernel_rfl, ?_⟩) hHeld ?_
     rotate_left
     ·intro w' hSw; clear hSw; first | (go_simp; done) | (go_simp; with_reducible rfl)
     try rotate_right
     set_option linter.unusedSimpArgs false in try simp only [Act.put, sA, sB, sC]
     refine tA (i := 11) (v := ?_) (d := (some 92)) rfl rfl (Or.inl ⟨by kernel_rfl, ?_⟩) hHeld ?_
     rotate_left
     ·intro w' hSw; clear hSw; first | (go_simp; done) | (go_simp; with_reducible rfl)
     try rotate_right
     set_option linter.unusedSimpArgs false in try simp only [Act.put, sA, sB, sC]
     refine tA (i := 12) (v := ?_) (d := (some 93)) rfl rfl (Or.inl ⟨by kernel_rfl, ?_⟩) hHeld ?_
     rotate_left
     ·intro w' hSw; obtain ⟨a3, ⟨f0, f1, f2, f3, f4, f5⟩, ⟨v0, v1, v2, v3, v4, v5, v6, v7, v8, v9, v10, v11, v12, v13, v14, v15, v16, v17, v18, v19, v20, v21, v22, v23, v24, v25, v26, v27⟩⟩ := hSw; first | (go_simp; done) | (go_simp; with_reducible rfl)
     try rotate_right
     set_option linter.unusedSimpArgs false in try simp only [Act.put, sA, sB, sC]
     refine tA (i := 13) (v := ?_) (d := (some 94)) rfl rfl (Or.inl ⟨by kernel_rfl, ?_⟩) hHeld ?_
     rotate_left
     ·intro w' hSw; clear hSw; first | (go_simp; done) | (go_simp; with_reducible rfl)
     try rotate_right
     set_option linter.unusedSimpArgs false in try simp only [Act.put, sA, sB, sC]
     refine tA (i := 14) (v := ?_) (d := (some 95)) rfl rfl (Or.inl ⟨by kernel_rfl, ?_⟩) hHeld ?_
     rotate_left
     ·intro w' hSw; clear hSw; first | (go_simp; done) | (go_simp; with_reducible rfl)
     try rotate_right
     set_option linter.unusedSimpArgs false in try simp only [Act.put, sA, sB, sC]
     refine tA (i := 15) (v := ?_) (d := (some 96)) rfl rfl (Or.inl ⟨by kernel_rfl, ?_⟩) hHeld ?_
     rotate_left
     ·intro w' hSw; clear hSw; first | (go_simp; done) | (go_simp; with_reducible rfl)
     try rotate_right
     set_option linter.unusedSimpArgs false in try simp only [Act.put, sA, sB, sC]
     refine tA (i := 16) (v := ?_) (d := (some 97)) rfl rfl (Or.inl ⟨by kernel_rfl, ?_⟩) hHeld ?_
     rotate_left
     ·intro w' hSw; clear hSw; first | (go_simp; done) | (go_simp; with_reducible rfl)
     try rotate_right
     set_option linter.unusedSimpArgs false in try simp only [Act.put, sA, sB, sC]
     refine tA (i := 17) (v := ?_) (d := (some 98)) rfl rfl (Or.inl ⟨by kernel_rfl, ?_⟩) hHeld ?_
     rotate_left
     ·intro w' hSw; clear hSw; first | (go_simp; done) | (go_simp; with_reducible rfl)
     try rotate_right
     set_option linter.unusedSimpArgs false in try simp only [Act.put, sA, sB, sC]
     refine tA (i := 18) (v := ?_) (d := (some 99)) rfl rfl (Or.inl ⟨by kernel_rfl, ?_⟩) hHeld ?_
     rotate_left
     ·intro w' hSw; clear hSw; first | (go_simp; done) | (go_simp; with_reducible rfl)
     try rotate_right
     set_option linter.unusedSimpArgs false in try simp only [Act.put, sA, sB, sC]
     refine tA (i := 19) (v := ?_) (d := (some 100)) rfl rfl (Or.inl ⟨by kernel_rfl, ?_⟩) hHeld ?_
     rotate_left
     ·intro w' hSw; clear hSw; first | (go_simp; done) | (go_simp; with_reducible rfl)
     try rotate_right
     set_option linter.unusedSimpArgs false in try simp only [Act.put, sA, sB, sC]
     refine tA (i := 20) (v := ?_) (d := (some 101)) rfl rfl (Or.inl ⟨by kernel_rfl, ?_⟩) hHeld ?_
     rotate_left
     ·intro w' hSw; obtain ⟨a3, ⟨f0, f1, f2, f3, f4, f5⟩, ⟨v0, v1, v2, v3, v4, v5, v6, v7, v8, v9, v10, v11, v12, v13, v14, v15, v16, v17, v18, v19, v20, v21, v22, v23, v24, v25, v26, v27⟩⟩ := hSw; first | (go_simp; done) | (go_simp; with_reducible rfl)
     try rotate_right
     set_option linter.unusedSimpArgs false in try simp only [Act.put, sA, sB, sC]
     refine tA (i := 21) (v := ?_) (d := (some 102)) rfl rfl (Or.inl ⟨by kernel_rfl, ?_⟩) hHeld ?_
     rotate_left
     ·intro w' hSw; clear hSw; first | (go_simp; done) | (go_simp; with_reducible rfl)
     try rotate_right
     set_option linter.unusedSimpArgs false in try simp only [Act.put, sA, sB, sC]
     refine tA (i := 22) (v := ?_) (d := (some 103)) rfl rfl (Or.inl ⟨by kernel_rfl, ?_⟩) hHeld ?_
     rotate_left
     ·intro w' hSw; clear hSw; first | (go_simp; done) | (go_simp; with_reducible rfl)
     try rotate_right
     set_option linter.unusedSimpArgs false in try simp only [Act.put, sA, sB, sC]
     refine tA (i := 23) (v := ?_) (d := (some 104)) rfl rfl (Or.inl ⟨by kernel_rfl, ?_⟩) hHeld ?_
     rotate_left
     ·intro w' hSw; obtain ⟨a3, ⟨f0, f1, f2, f3, f4, f5⟩, ⟨v0, v1, v2, v3, v4, v5, v6, v7, v8, v9, v10, v11, v12, v13, v14, v15, v16, v17, v18, v19, v20, v21, v22, v23, v24, v25, v26, v27⟩⟩ := hSw; first | (go_simp; done) | (go_simp; with_reducible rfl)
     try rotate_right
     set_option linter.unusedSimpArgs false in try simp only [Act.put, sA, sB, sC]
     refine wpAnyH_ready (rs := [24]) (by kernel_rfl) (by simp) ?_
     refine AllReadyH.cons rfl (fun K hK => ?_) AllReadyH.nil
     go_simp
     refine (Has_calls (hT.below hDD) e.block.root).mono ?_
     rintro en w5 ⟨rfl, hb5⟩
     rw [hhas]
     have hb5' := hDD.trans (hb5.mono hDD.size)
     refine hK.out _ _ (KJ _ hb5') (fun hHeld => ?_)
     clear hK K
     set_option linter.unusedSimpArgs false in try simp only [Act.put, sA, sB, sC]
     refine tA (i := 25) (v := ?_) (d := (some 106)) rfl rfl (Or.inl ⟨by kernel_rfl, ?_⟩) hHeld ?_
     rotate_left
     ·intro w' hSw; clear hSw; first | (go_simp; done) | (go_simp; with_reducible rfl)
     try rotate_right
     set_option linter.unusedSimpArgs false in try simp only [Act.put, sA, sB, sC]
     refine tA (i := 26) (v := ?_) (d := (some 107)) rfl rfl (Or.inl ⟨by kernel_rfl, ?_⟩) hHeld ?_
     rotate_left
     ·intro w' hSw; clear hSw; first | (go_simp; done) | (go_simp; with_reducible rfl)
     try rotate_right
     set_option linter.unusedSimpArgs false in try simp only [Act.put, sA, sB, sC]
     refine wpAnyH_done (by kernel_rfl) ?_ _
     have l0 := cell_below HLl.out.1 hb5'
     have l1 := cell_below HLl.out.2 hb5'
     have z9 := cell_below HZ.out.1 hb5'
     have z10 := cell_below HZ.out.2 hb5'
     obtain ⟨p0, p1⟩ : w5.cell? ⟨P, 0, none⟩ = some (.int .i64 s.fin.e) ∧ w5.cell? ⟨P, 1, none⟩ = some (.int .u64 s.fin.r) := ⟨by rw [blk_cell (blk_below HP.out hb5')]; rfl, by rw [blk_cell (blk_below HP.out hb5')]; rfl⟩
     clear KJ
     by_cases hc : last.kind = 3
     ·have hcb : (last.kind == 3) = true := by simp [hc]
      have hr := hl4 hc
      have hfe : (t.fin.e == s.fin.e && t.fin.r == s.fin.r) = false := by
       rw [← ptEq]
       simp
       exact hl3.1 hc
      rw [hr] at l1
      clear hc hl3 hl4 hr
      have hgP := guardPt
      have heP := neqPt
      go_upto_region 18 with fail
      go_quiet (fail)
      go_wp2
      go_roundw
      case rel => exact ⟨j + 1, t, _, by go_num, by omega, by first | exact HL3.out | exact HL3.out.below (by first | assumption | exact below_drewN (Below.refl _ _) _ | exact below_then hb5' hb5'.size (below_drewN (Below.refl _ _) _))⟩
      case measure => simp [intOf]; omega
     ·have hcb : (last.kind == 3) = false := by simp [hc]
      have hr : t.fin = s.fin := Decidable.byContradiction (fun h => hc (hl3.2 h))
      rw [hr] at z9 z10
      clear hc hl3 hl4 hr
      go_upto_region 18 with fail
      go_quiet (fail)
      go_wp2
      go_roundw
      case rel => exact ⟨j + 1, t, _, by go_num, by omega, by first | exact HL3.out | exact HL3.out.below (by first | assumption | exact below_drewN (Below.refl _ _) _ | exact below_then hb5' hb5'.size (below_drewN (Below.refl _ _) _))⟩
      case measure => simp [intOf]; omega
    ·have her : errV n = .nilIface := by rw [errV, if_pos hn]
     rw [her]
     have hor : n ≠ 0 ∨ e.kind ≠ 1 := .inr hk
     have hkb : (e.kind == 1) = false := by simp [hk]
     clear hn her hk
     have hX := hAO hor
     clear hAO hAP hor
     by_cases hX0 : X.length = 0
     ·have hlz : (X.length : Int) = 0 := by omega
      rw [hX0]
      go_wp2
      go_roundw
      case rel => exact ⟨j + 1, t, _, by go_num, by omega, by first | exact HL3.out | exact HL3.out.below (by first | assumption | exact below_drewN (Below.refl _ _) _ | exact below_then hb5' hb5'.size (below_drewN (Below.refl _ _) _))⟩
      case measure => simp [intOf]; omega
     ·obtain ⟨c0, hc0⟩ : ∃ c0, X[0]? = some c0 := ⟨X[0]'(by omega), List.getElem?_eq_getElem (by omega)⟩
      obtain ⟨g, rfl, hcc⟩ := chg_cells hch3 hc0
      have h0 : W3.cell? ⟨g, 0, none⟩ = some (.int .i64 c0.kind) := by simpa using hcc 0 _ rfl
      have hck := hX c0 (List.mem_of_getElem? hc0)
      have hk0 : (c0.kind == 0) = false := by rcases hck with h | h <;> simp [h]
      have hk3 : (c0.kind == 3) = false := by rcases hck with h | h <;> simp [h]
      clear hcc hck hX hc0
      go_wp2
      go_roundw
      case rel => exact ⟨j + 1, t, _, by go_num, by omega, by first | exact HL3.out | exact HL3.out.below (by first | assumption | exact below_drewN (Below.refl _ _) _ | exact below_then hb5' hb5'.size (below_drewN (Below.refl _ _) _))⟩
      case measure => simp [intOf]; omega
   ·have her : errV n = .iface 105 (.int .i64 n) := by rw [errV, if_neg hn]
    rw [her]
    have hor : n ≠ 0 ∨ e.kind ≠ 1 := .inl hn
    clear hn her
    have hX := hAO hor
    clear hAO hAP hor
    by_cases hX0 : X.length = 0
    ·have hlz : (X.length : Int) = 0 := by omega
     rw [hX0]
     go_wp2
     go_roundw
     case rel => exact ⟨j + 1, t, _, by go_num, by omega, by first | exact HL3.out | exact HL3.out.below (by first | assumption | exact below_drewN (Below.refl _ _) _ | exact below_then hb5' hb5'.size (below_drewN (Below.refl _ _) _))⟩
     case measure => simp [intOf]; omega
    ·obtain ⟨c0, hc0⟩ : ∃ c0, X[0]? = some c0 := ⟨X[0]'(by omega), List.getElem?_eq_getElem (by omega)⟩
     obtain ⟨g, rfl, hcc⟩ := chg_cells hch3 hc0
     have h0 : W3.cell? ⟨g, 0, none⟩ = some (.int .i64 c0.kind) := by simpa using hcc 0 _ rfl
     have hck := hX c0 (List.mem_of_getElem? hc0)
     have hk0 : (c0.kind == 0) = false := by rcases hck with h | h <;> simp [h]
     have hk3 : (c0.kind == 3) = false := by rcases hck with h | h <;> simp [h]
     clear hcc hck hX hc0
     go_wp2
     go_roundw
     case rel => exact ⟨j + 1, t, _, by go_num, by omega, by first | exact HL3.out | exact HL3.out.below (by first | assumption | exact below_drewN (Below.refl _ _) _ | exact below_then hb5' hb5'.size (below_drewN (Below.refl _ _) _))⟩
     case measure => simp [intOf]; omega
  ·obtain ⟨_, _, _, hbw⟩ := hL
   obtain rfl : j = es.length := by omega
   go_wp2
   go_ret
   exact ⟨rfl, hbw⟩
end Go.Proofs.Ytnppimhlfcjghaa
