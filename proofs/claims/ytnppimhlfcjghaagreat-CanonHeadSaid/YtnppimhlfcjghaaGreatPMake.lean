import Derived.Test.YtnppimhlfcjghaaGreatPOpsK
import Derived.Test.YtnppimhlfcjghaaGreatPMakeR
import Derived.Test.YtnppimhlfcjghaaGreatPConfig
set_option linter.all false
set_option linter.unusedVariables false
set_option linter.unusedSimpArgs false
namespace Go.Proofs.YtnppimhlfcjghaaGreat
open Go.RowKit
set_option maxRecDepth 100000
set_option maxHeartbeats 8000000
theorem Make_calls (w : World) (c : Cf) (hok : c.ok) (A : Option Addr) (kc : Nat) (hb : Ints anyB .u64 w A c.bal) (ns : List Int) (An : Option Addr) (kn : Nat) (hn : Ints anyB .u8 w An ns) (hnr : ∀ x ∈ ns, 0 ≤ x ∧ x < 256) (hnl : ns.length ≤ kn ∧ ns.length ≤ maxLen) :
    Calls Tryz.prog 13 #[cfC c A kc, .slice An ns.length kn] w (RetMake w) := by
 have hb0 : Below w.heap.size w (w.alloc (.cells #[.slice A c.bal.length kc, .int .i64 c.slots, .int .i64 c.boost] 27)) := below_alloc (Below.refl _ _) (.cells #[.slice A c.bal.length kc, .int .i64 c.slots, .int .i64 c.boost] 27)
 have cS := SOf_calls (w.alloc (.cells #[.slice A c.bal.length kc, .int .i64 c.slots, .int .i64 c.boost] 27)) c A kc hok (hb.below hb0)
 have q0 := heap_new w (.cells #[.slice A c.bal.length kc, .int .i64 c.slots, .int .i64 c.boost] 27)
 go_enter Tryz.func13, Tryz.ntmps13
 obtain ⟨y0, y1, y2⟩ := cs3 q0
 go_upto_region 2 with (first
  | (refine wpList_loadB rfl 27 (.tmp 2) rfl w.heap.size [.slice A c.bal.length kc, .int .i64 c.slots, .int .i64 c.boost] q0 rfl _ Tryz.underlying27 rfl iCf ?_)
  | (go_at_call 12; refine cS.mono ?_; rintro e w1 ⟨p, k, vk, rfl, hS, hp, hb1⟩))
 have hb1' : Below w.heap.size w w1 := below_then hb0 (by simp) hb1
 have hpb : ∀ i ∈ p.all, w.heap.size ≤ i := fun i hi => by have := hp i hi; simp at this; omega
 obtain ⟨_, _, _, x3, _⟩ := hS.cells
 clear cS q0 y0 y1 y2 hb0 hb1 hp
 obtain ⟨q1, q2, hbw, hsz⟩ := alloc2 w1 (.cells #[.int .u64 1] 23) (.cells #[.pointer (some ⟨p.sb, 0, none⟩), .slice An ns.length kn, .slice (some ⟨w1.heap.size, 0, none⟩) 1 1] 103)
 have hlt1 := hS.lt (ok_of hok)
 have hL0 : MkLoop w (w1.heap.size + 1) p.sb [] none 0 ((w1.alloc (.cells #[.int .u64 1] 23)).alloc (.cells #[.pointer (some ⟨p.sb, 0, none⟩), .slice An ns.length kn, .slice (some ⟨w1.heap.size, 0, none⟩) 1 1] 103)) := by
  have hsz1 := hb1'.size
  refine ⟨[], p, St.of c, k, vk, _, ns, An, kn, [1], .slice (some ⟨w1.heap.size, 0, none⟩) 1 1, rfl, by simp, ⟨⟨q2, ?_, own_blk q1 (by omega) (by simp) (by decide), by simp, by simp, hnr, hnl, fun x hx => by rw [List.mem_singleton] at hx; subst hx; exact ⟨by omega, by omega⟩, by omega⟩, hS.below hbw, ok_of hok, hpb, fun hi => by have := hlt1 _ hi; omega, fun g hg hi => ?_, fun g hg => by simp [Value.ownBlock] at hg, own_nil _ _ _ _, fun j x hx => by simp at hx, (fun x hx => by cases hx), below_then hb1' hsz1 hbw⟩⟩
  ·exact Lie.mono (Lie.lt hn (by decide)) (fun _ _ _ x => x) (fun _ x => x.2) (fun b hb hlt => ((below_then hb1' hsz1 hbw).block b hb.2))
  ·have : w1.heap.size = g := by simpa [Value.ownBlock] using hg
   have := hlt1 g hi
   omega
 clear hb hn hnl hnr
 go_wp2
 go_loopw [8] (fun o wr => ∃ (es : List Ev) (A : Option Addr) (co : Nat), o = .slice A es.length co ∧ es.length ≤ 120 ∧ MkLoop w (w1.heap.size + 1) p.sb es A co wr) (fun o _ => 120 - lenS o)
 case atStart => exact ⟨[], none, 0, rfl, by simp, hL0⟩
 case round =>
  clear hL0 q1 q2 hbw hsz x3 hS hlt1 hpb
  obtain ⟨es, Ae, co, rfl, hl, gcs, p', s, k', vk', ch', ns', An', kn', bl, bv, hsb, hbl, hR⟩ := hrel
  obtain ⟨m0, m1, m2⟩ := cs3 hR.mm.blk
  by_cases h0 : ns'.length = 0
  ·rw [h0] at m1
   clear m0 m2
   go_wp2
   go_ret
   exact hR.ret hl
  ·by_cases h120 : es.length = 120
   ·have hr := hR.ret hl
    rw [h120] at hr
    clear m0 m2
    go_wp2
    go_ret
    exact hr
   ·have cE := hR.event
    have hall := hR.st.lt hR.ok
    have hwb := hR.bel.size
    clear m0 m2
    go_upto_region 8 with (first
     | (go_at_call 35; refine cE.mono ?_; rintro e W1 ⟨ev, A1, c1, A2, c2, A3, c3, A4, c4, A5, c5, ns1, An1, kn1, rfl, hew, heo, hR1⟩)
     | (refine wpList_box 57 9 _ (.tmp 47) [.int .i64 ev.kind, .int .i64 ev.slot, .int .u64 ev.block.root, .int .u64 ev.block.parent, .int .i64 ev.block.slot, .slice A1 ev.block.votes.length c1, .slice A2 ev.block.proofs.length c2, .int .i64 ev.vote.slot, .int .u64 ev.vote.head, .int .i64 ev.vote.src.e, .int .u64 ev.vote.src.r, .int .i64 ev.vote.tgt.e, .int .u64 ev.vote.tgt.r, .slice A3 ev.vote.who.length c3, .int .i64 ev.proof.a.slot, .int .u64 ev.proof.a.head, .int .i64 ev.proof.a.src.e, .int .u64 ev.proof.a.src.r, .int .i64 ev.proof.a.tgt.e, .int .u64 ev.proof.a.tgt.r, .slice A4 ev.proof.a.who.length c4, .int .i64 ev.proof.b.slot, .int .u64 ev.proof.b.head, .int .i64 ev.proof.b.src.e, .int .u64 ev.proof.b.src.r, .int .i64 ev.proof.b.tgt.e, .int .u64 ev.proof.b.tgt.r, .slice A5 ev.proof.b.who.length c5] rfl rfl rfl zEv rfl rfl iEv rfl ?_))
    have hba := below_alloc (Below.refl W1.heap.size W1) (.cells #[.int .i64 ev.kind, .int .i64 ev.slot, .int .u64 ev.block.root, .int .u64 ev.block.parent, .int .i64 ev.block.slot, .slice A1 ev.block.votes.length c1, .slice A2 ev.block.proofs.length c2, .int .i64 ev.vote.slot, .int .u64 ev.vote.head, .int .i64 ev.vote.src.e, .int .u64 ev.vote.src.r, .int .i64 ev.vote.tgt.e, .int .u64 ev.vote.tgt.r, .slice A3 ev.vote.who.length c3, .int .i64 ev.proof.a.slot, .int .u64 ev.proof.a.head, .int .i64 ev.proof.a.src.e, .int .u64 ev.proof.a.src.r, .int .i64 ev.proof.a.tgt.e, .int .u64 ev.proof.a.tgt.r, .slice A4 ev.proof.a.who.length c4, .int .i64 ev.proof.b.slot, .int .u64 ev.proof.b.head, .int .i64 ev.proof.b.src.e, .int .u64 ev.proof.b.src.r, .int .i64 ev.proof.b.tgt.e, .int .u64 ev.proof.b.tgt.r, .slice A5 ev.proof.b.who.length c5] 57)
    have qe := heap_new W1 (.cells #[.int .i64 ev.kind, .int .i64 ev.slot, .int .u64 ev.block.root, .int .u64 ev.block.parent, .int .i64 ev.block.slot, .slice A1 ev.block.votes.length c1, .slice A2 ev.block.proofs.length c2, .int .i64 ev.vote.slot, .int .u64 ev.vote.head, .int .i64 ev.vote.src.e, .int .u64 ev.vote.src.r, .int .i64 ev.vote.tgt.e, .int .u64 ev.vote.tgt.r, .slice A3 ev.vote.who.length c3, .int .i64 ev.proof.a.slot, .int .u64 ev.proof.a.head, .int .i64 ev.proof.a.src.e, .int .u64 ev.proof.a.src.r, .int .i64 ev.proof.a.tgt.e, .int .u64 ev.proof.a.tgt.r, .slice A4 ev.proof.a.who.length c4, .int .i64 ev.proof.b.slot, .int .u64 ev.proof.b.head, .int .i64 ev.proof.b.src.e, .int .u64 ev.proof.b.src.r, .int .i64 ev.proof.b.tgt.e, .int .u64 ev.proof.b.tgt.r, .slice A5 ev.proof.b.who.length c5] 57)
    have hR2 := hR1.below hba
    have heo2 := heo.keep (Keeps.of_below hba)
    have cA := hR2.apply hew heo2 hall
    rw [hsb] at cA
    have hbe : w1.heap.size + 1 < W1.heap.size := blk_lt hR1.mm.blk
    clear cE m1
    go_upto_region 9 with (first
     | (refine wpList_loadB rfl 57 (.tmp 9) rfl W1.heap.size [.int .i64 ev.kind, .int .i64 ev.slot, .int .u64 ev.block.root, .int .u64 ev.block.parent, .int .i64 ev.block.slot, .slice A1 ev.block.votes.length c1, .slice A2 ev.block.proofs.length c2, .int .i64 ev.vote.slot, .int .u64 ev.vote.head, .int .i64 ev.vote.src.e, .int .u64 ev.vote.src.r, .int .i64 ev.vote.tgt.e, .int .u64 ev.vote.tgt.r, .slice A3 ev.vote.who.length c3, .int .i64 ev.proof.a.slot, .int .u64 ev.proof.a.head, .int .i64 ev.proof.a.src.e, .int .u64 ev.proof.a.src.r, .int .i64 ev.proof.a.tgt.e, .int .u64 ev.proof.a.tgt.r, .slice A4 ev.proof.a.who.length c4, .int .i64 ev.proof.b.slot, .int .u64 ev.proof.b.head, .int .i64 ev.proof.b.src.e, .int .u64 ev.proof.b.src.r, .int .i64 ev.proof.b.tgt.e, .int .u64 ev.proof.b.tgt.r, .slice A5 ev.proof.b.who.length c5] qe rfl _ Tryz.underlying57 rfl iEv ?_)
     | (go_at_call 14; refine cA.mono ?_; rintro en W3 ⟨p3, ch3, rfl, hsb3, hR3, hk3⟩))
    have qe3 := hk3 _ _ _ (by decide) (by decide) (by decide) (by decide) qe
    have heo3 := (heo2.keep hk3.keeps).weak hwb
    clear cA heo heo2 hR2 hR1 hba qe hall hk3
    obtain ⟨a0, _⟩ := cs28 qe3
    generalize hE : errV (applyS s ev).2 = er
    by_cases hz : (applyS s ev).2 = 0
    ·obtain rfl : er = .nilIface := by rw [← hE, errV, if_pos hz]
     clear hE hz
     by_cases hk : ev.kind = 1
     ·have hkb : (ev.kind == 1) = true := by simp [hk]
      clear hk
      have HEw := Lib.hid hew
      have hro := hew.2.2.1.1
      have hl1 : bl.length + 1 ≤ 1000000 := by omega
      clear hew
      go_upto_region 10 with fail
      have hD : Below W3.heap.size W3 W3.drew := (Below.refl _ W3).drew
      have hR4 := hR3.below hD
      have qe4 := blk_below qe3 hD
      have heo4 := heo3.keep (Keeps.of_below hD)
      have K10 : ∀ (W : World) (ns : List Int) (An : Option Addr) (kn : Nat) (sb : Nat), MkAt W (w1.heap.size + 1) w.heap.size sb ns An kn bl bv → W.heap[W1.heap.size]? = some (.cells #[.int .i64 ev.kind, .int .i64 ev.slot, .int .u64 ev.block.root, .int .u64 ev.block.parent, .int .i64 ev.block.slot, .slice A1 ev.block.votes.length c1, .slice A2 ev.block.proofs.length c2, .int .i64 ev.vote.slot, .int .u64 ev.vote.head, .int .i64 ev.vote.src.e, .int .u64 ev.vote.src.r, .int .i64 ev.vote.tgt.e, .int .u64 ev.vote.tgt.r, .slice A3 ev.vote.who.length c3, .int .i64 ev.proof.a.slot, .int .u64 ev.proof.a.head, .int .i64 ev.proof.a.src.e, .int .u64 ev.proof.a.src.r, .int .i64 ev.proof.a.tgt.e, .int .u64 ev.proof.a.tgt.r, .slice A4 ev.proof.a.who.length c4, .int .i64 ev.proof.b.slot, .int .u64 ev.proof.b.head, .int .i64 ev.proof.b.src.e, .int .u64 ev.proof.b.src.r, .int .i64 ev.proof.b.tgt.e, .int .u64 ev.proof.b.tgt.r, .slice A5 ev.proof.b.who.length c5] 57 (0, 0)) → W.cell? ⟨w1.heap.size + 1, 2, none⟩ = some bv ∧ W.cell? ⟨W1.heap.size, 2, none⟩ = some (.int .u64 ev.block.root) := fun W ns An kn sb hM h => ⟨hM.cell2, by rw [blk_cell h]; rfl⟩
      clear hR3 qe3 heo3 a0
      refine beginK (fun w' => w'.cell? ⟨w1.heap.size + 1, 2, none⟩ = some bv ∧ w'.cell? ⟨W1.heap.size, 2, none⟩ = some (.int .u64 ev.block.root)) 12 (by rfl) ?_
      have hHeld := K10 _ _ _ _ _ hR4.mm qe4
      refine kW 0 61 hHeld ?_
      refine kW 1 62 hHeld ?_
      refine kW 2 63 hHeld ?_
      refine kW 3 64 hHeld ?_
      refine kW 4 65 hHeld ?_
      refine kW 5 66 hHeld ?_
      refine kW 6 67 hHeld ?_
      refine kW 7 68 hHeld ?_
      refine readyK (rs := [8]) (by kernel_rfl) (by simp) ?_
      refine AllReadyK.cons rfl (fun K hK => ?_) AllReadyK.nil
      go_simp
      have hba := below_alloc (Below.refl W3.drew.heap.size W3.drew) (.cells #[.int .u64 ev.block.root] 23)
      have hR5 := hR4.below hba
      have qe5 := blk_below qe4 hba
      have heo5 := heo4.keep (Keeps.of_below hba)
      refine hK.out _ _ (fun _ => K10 _ _ _ _ _ hR5.mm qe5) ?_
      have hHeld := K10 _ _ _ _ _ hR5.mm qe5
      clear hK K
      try simp only [Act.put, sA, sB, sC]
      refine readyK (rs := [9]) (by kernel_rfl) (by simp) ?_
      refine AllReadyK.cons rfl (fun K hK => ?_) AllReadyK.nil
      refine step_app w.heap.size (by rfl) (.tmp 65) (.tmp 69) 25 23 (.int .u64 0) 1 8 rfl Tryz.underlying25 It.infoU64 rfl (by decide) bv bl.length _ (by rfl) hR5.mm.rb (some ⟨W3.drew.heap.size, 0, none⟩) 1 1 [.int .u64 ev.block.root] (by rfl) rfl (Flat.one _ _ _) (by simp [Value.oneCell']) (by omega) (by omega) (by have := hR5.bel.size; exact this) ?_
      intro Ab kb w5 ho5 hg5 hn5
      have qm5 := blk_app hR5.mm.blk hR5.mm.rb (by decide) hg5
      have z5 := blk_frozen qm5 2
      have hc5 : w5.cell? ⟨w1.heap.size + 1, 2, none⟩ = some bv ∧ w5.cell? ⟨W1.heap.size, 2, none⟩ = some (.int .u64 ev.block.root) := ⟨by rw [blk_cell qm5]; rfl, by rw [blk_cell (blk_app qe5 hR5.mm.rb (by decide) hg5)]; rfl⟩
      refine hK.out _ _ (fun _ => hc5) ?_
      have hHeld := hc5
      clear hK K
      try simp only [Act.put, sA, sB, sC]
      refine kW 10 71 hHeld ?_
      refine kW 11 72 hHeld ?_
      refine readyK (rs := [12]) (by kernel_rfl) (by simp) ?_
      refine AllReadyK.cons rfl (fun K hK => ?_) AllReadyK.nil
      go_simp
      refine hK.out _ _ (fun h => absurd rfl h) ?_
      clear hK K
      try simp only [Act.put, sA, sB, sC]
      refine doneK (by kernel_rfl) ?_ _
      have hR6 := hR5.push hro hl1 ho5 hg5 hn5
      have qe6 := hR5.push_keep (v := .slice Ab (bl.length + 1) kb) hg5 (by decide) (by decide) _ _ qe5
      have heo6 := heo5.keep ⟨hR5.push_keep (v := .slice Ab (bl.length + 1) kb) hg5 (by decide) (by decide), hR5.push_keep (v := .slice Ab (bl.length + 1) kb) hg5 (by decide) (by decide), hR5.push_keep (v := .slice Ab (bl.length + 1) kb) hg5 (by decide) (by decide)⟩
      have hew := HEw.out
      clear hR5 hR4 K10 qe4 qe5 heo4 heo5
      generalize w5.setCell _ _ = W6 at hR6 qe6 heo6 ⊢
      have hbz := below_alloc (Below.refl W6.heap.size W6) (.cells #[.int .i64 ev.kind, .int .i64 ev.slot, .int .u64 ev.block.root, .int .u64 ev.block.parent, .int .i64 ev.block.slot, .slice A1 ev.block.votes.length c1, .slice A2 ev.block.proofs.length c2, .int .i64 ev.vote.slot, .int .u64 ev.vote.head, .int .i64 ev.vote.src.e, .int .u64 ev.vote.src.r, .int .i64 ev.vote.tgt.e, .int .u64 ev.vote.tgt.r, .slice A3 ev.vote.who.length c3, .int .i64 ev.proof.a.slot, .int .u64 ev.proof.a.head, .int .i64 ev.proof.a.src.e, .int .u64 ev.proof.a.src.r, .int .i64 ev.proof.a.tgt.e, .int .u64 ev.proof.a.tgt.r, .slice A4 ev.proof.a.who.length c4, .int .i64 ev.proof.b.slot, .int .u64 ev.proof.b.head, .int .i64 ev.proof.b.src.e, .int .u64 ev.proof.b.src.r, .int .i64 ev.proof.b.tgt.e, .int .u64 ev.proof.b.tgt.r, .slice A5 ev.proof.b.who.length c5] 57)
      have hRz := hR6.below hbz
      have hez := heo6.keep (Keeps.of_below hbz)
      have HEw2 := Lib.hid hew
      clear hew
      go_wp2_with (first
       | (refine wpList_loadB rfl 57 (.tmp 9) rfl W1.heap.size [.int .i64 ev.kind, .int .i64 ev.slot, .int .u64 ev.block.root, .int .u64 ev.block.parent, .int .i64 ev.block.slot, .slice A1 ev.block.votes.length c1, .slice A2 ev.block.proofs.length c2, .int .i64 ev.vote.slot, .int .u64 ev.vote.head, .int .i64 ev.vote.src.e, .int .u64 ev.vote.src.r, .int .i64 ev.vote.tgt.e, .int .u64 ev.vote.tgt.r, .slice A3 ev.vote.who.length c3, .int .i64 ev.proof.a.slot, .int .u64 ev.proof.a.head, .int .i64 ev.proof.a.src.e, .int .u64 ev.proof.a.src.r, .int .i64 ev.proof.a.tgt.e, .int .u64 ev.proof.a.tgt.r, .slice A4 ev.proof.a.who.length c4, .int .i64 ev.proof.b.slot, .int .u64 ev.proof.b.head, .int .i64 ev.proof.b.src.e, .int .u64 ev.proof.b.src.r, .int .i64 ev.proof.b.tgt.e, .int .u64 ev.proof.b.tgt.r, .slice A5 ev.proof.b.who.length c5] qe6 rfl _ Tryz.underlying57 rfl iEv ?_)
       | (at_builtin; refine wpList_app w.heap.size rfl (.tmp 73) (.tmp 75) 44 57 _ 28 304 rfl Tryz.underlying44 infoEv rfl (by decide) _ es.length gcs rfl hRz.ro (some ⟨W6.heap.size, 0, none⟩) 1 1 [.int .i64 ev.kind, .int .i64 ev.slot, .int .u64 ev.block.root, .int .u64 ev.block.parent, .int .i64 ev.block.slot, .slice A1 ev.block.votes.length c1, .slice A2 ev.block.proofs.length c2, .int .i64 ev.vote.slot, .int .u64 ev.vote.head, .int .i64 ev.vote.src.e, .int .u64 ev.vote.src.r, .int .i64 ev.vote.tgt.e, .int .u64 ev.vote.tgt.r, .slice A3 ev.vote.who.length c3, .int .i64 ev.proof.a.slot, .int .u64 ev.proof.a.head, .int .i64 ev.proof.a.src.e, .int .u64 ev.proof.a.src.r, .int .i64 ev.proof.a.tgt.e, .int .u64 ev.proof.a.tgt.r, .slice A4 ev.proof.a.who.length c4, .int .i64 ev.proof.b.slot, .int .u64 ev.proof.b.head, .int .i64 ev.proof.b.src.e, .int .u64 ev.proof.b.src.r, .int .i64 ev.proof.b.tgt.e, .int .u64 ev.proof.b.tgt.r, .slice A5 ev.proof.b.who.length c5] rfl rfl flat_newO (EvK.one hez.k) (by omega) (by omega) (by have := hRz.bel.size; exact this) ?_; intro A6 c6 w6 ho6 hg6 hn6))
      go_roundw
      case rel => exact ⟨es ++ [ev], A6, c6, by simp, by simp; omega, _, p3, _, k', vk', ch3, ns1, An1, kn1, _, _, hsb3, by simp; omega, hRz.snoc hez HEw2.out rfl ho6 hg6 hn6⟩
      case measure => simp [lenS]; omega
     ·have hkb : (ev.kind == 1) = false := by simp [hk]
      clear hk
      have hbz := below_alloc (Below.refl W3.heap.size W3) (.cells #[.int .i64 ev.kind, .int .i64 ev.slot, .int .u64 ev.block.root, .int .u64 ev.block.parent, .int .i64 ev.block.slot, .slice A1 ev.block.votes.length c1, .slice A2 ev.block.proofs.length c2, .int .i64 ev.vote.slot, .int .u64 ev.vote.head, .int .i64 ev.vote.src.e, .int .u64 ev.vote.src.r, .int .i64 ev.vote.tgt.e, .int .u64 ev.vote.tgt.r, .slice A3 ev.vote.who.length c3, .int .i64 ev.proof.a.slot, .int .u64 ev.proof.a.head, .int .i64 ev.proof.a.src.e, .int .u64 ev.proof.a.src.r, .int .i64 ev.proof.a.tgt.e, .int .u64 ev.proof.a.tgt.r, .slice A4 ev.proof.a.who.length c4, .int .i64 ev.proof.b.slot, .int .u64 ev.proof.b.head, .int .i64 ev.proof.b.src.e, .int .u64 ev.proof.b.src.r, .int .i64 ev.proof.b.tgt.e, .int .u64 ev.proof.b.tgt.r, .slice A5 ev.proof.b.who.length c5] 57)
      have hRz := hR3.below hbz
      have hez := heo3.keep (Keeps.of_below hbz)
      have HEw2 := Lib.hid hew
      clear hew
      go_wp2_with (first
       | (refine wpList_loadB rfl 57 (.tmp 9) rfl W1.heap.size [.int .i64 ev.kind, .int .i64 ev.slot, .int .u64 ev.block.root, .int .u64 ev.block.parent, .int .i64 ev.block.slot, .slice A1 ev.block.votes.length c1, .slice A2 ev.block.proofs.length c2, .int .i64 ev.vote.slot, .int .u64 ev.vote.head, .int .i64 ev.vote.src.e, .int .u64 ev.vote.src.r, .int .i64 ev.vote.tgt.e, .int .u64 ev.vote.tgt.r, .slice A3 ev.vote.who.length c3, .int .i64 ev.proof.a.slot, .int .u64 ev.proof.a.head, .int .i64 ev.proof.a.src.e, .int .u64 ev.proof.a.src.r, .int .i64 ev.proof.a.tgt.e, .int .u64 ev.proof.a.tgt.r, .slice A4 ev.proof.a.who.length c4, .int .i64 ev.proof.b.slot, .int .u64 ev.proof.b.head, .int .i64 ev.proof.b.src.e, .int .u64 ev.proof.b.src.r, .int .i64 ev.proof.b.tgt.e, .int .u64 ev.proof.b.tgt.r, .slice A5 ev.proof.b.who.length c5] qe3 rfl _ Tryz.underlying57 rfl iEv ?_)
       | (at_builtin; refine wpList_app w.heap.size rfl (.tmp 73) (.tmp 75) 44 57 _ 28 304 rfl Tryz.underlying44 infoEv rfl (by decide) _ es.length gcs rfl hRz.ro (some ⟨W3.heap.size, 0, none⟩) 1 1 [.int .i64 ev.kind, .int .i64 ev.slot, .int .u64 ev.block.root, .int .u64 ev.block.parent, .int .i64 ev.block.slot, .slice A1 ev.block.votes.length c1, .slice A2 ev.block.proofs.length c2, .int .i64 ev.vote.slot, .int .u64 ev.vote.head, .int .i64 ev.vote.src.e, .int .u64 ev.vote.src.r, .int .i64 ev.vote.tgt.e, .int .u64 ev.vote.tgt.r, .slice A3 ev.vote.who.length c3, .int .i64 ev.proof.a.slot, .int .u64 ev.proof.a.head, .int .i64 ev.proof.a.src.e, .int .u64 ev.proof.a.src.r, .int .i64 ev.proof.a.tgt.e, .int .u64 ev.proof.a.tgt.r, .slice A4 ev.proof.a.who.length c4, .int .i64 ev.proof.b.slot, .int .u64 ev.proof.b.head, .int .i64 ev.proof.b.src.e, .int .u64 ev.proof.b.src.r, .int .i64 ev.proof.b.tgt.e, .int .u64 ev.proof.b.tgt.r, .slice A5 ev.proof.b.who.length c5] rfl rfl flat_newO (EvK.one hez.k) (by omega) (by omega) (by have := hRz.bel.size; exact this) ?_; intro A6 c6 w6 ho6 hg6 hn6))
      go_roundw
      case rel => exact ⟨es ++ [ev], A6, c6, by simp, by simp; omega, _, p3, _, k', vk', ch3, ns1, An1, kn1, _, _, hsb3, by simp; omega, hRz.snoc hez HEw2.out rfl ho6 hg6 hn6⟩
      case measure => simp [lenS]; omega
    ·obtain rfl : er = .iface 91 (.int .i64 (applyS s ev).2) := by rw [← hE, errV, if_neg hz]
     clear hE hz
     generalize (applyS s ev).2 = en
     have hbz := below_alloc (Below.refl W3.heap.size W3) (.cells #[.int .i64 ev.kind, .int .i64 ev.slot, .int .u64 ev.block.root, .int .u64 ev.block.parent, .int .i64 ev.block.slot, .slice A1 ev.block.votes.length c1, .slice A2 ev.block.proofs.length c2, .int .i64 ev.vote.slot, .int .u64 ev.vote.head, .int .i64 ev.vote.src.e, .int .u64 ev.vote.src.r, .int .i64 ev.vote.tgt.e, .int .u64 ev.vote.tgt.r, .slice A3 ev.vote.who.length c3, .int .i64 ev.proof.a.slot, .int .u64 ev.proof.a.head, .int .i64 ev.proof.a.src.e, .int .u64 ev.proof.a.src.r, .int .i64 ev.proof.a.tgt.e, .int .u64 ev.proof.a.tgt.r, .slice A4 ev.proof.a.who.length c4, .int .i64 ev.proof.b.slot, .int .u64 ev.proof.b.head, .int .i64 ev.proof.b.src.e, .int .u64 ev.proof.b.src.r, .int .i64 ev.proof.b.tgt.e, .int .u64 ev.proof.b.tgt.r, .slice A5 ev.proof.b.who.length c5] 57)
     have hRz := hR3.below hbz
     have hez := heo3.keep (Keeps.of_below hbz)
     have HEw2 := Lib.hid hew
     clear hew
     go_wp2_with (first
      | (refine wpList_loadB rfl 57 (.tmp 9) rfl W1.heap.size [.int .i64 ev.kind, .int .i64 ev.slot, .int .u64 ev.block.root, .int .u64 ev.block.parent, .int .i64 ev.block.slot, .slice A1 ev.block.votes.length c1, .slice A2 ev.block.proofs.length c2, .int .i64 ev.vote.slot, .int .u64 ev.vote.head, .int .i64 ev.vote.src.e, .int .u64 ev.vote.src.r, .int .i64 ev.vote.tgt.e, .int .u64 ev.vote.tgt.r, .slice A3 ev.vote.who.length c3, .int .i64 ev.proof.a.slot, .int .u64 ev.proof.a.head, .int .i64 ev.proof.a.src.e, .int .u64 ev.proof.a.src.r, .int .i64 ev.proof.a.tgt.e, .int .u64 ev.proof.a.tgt.r, .slice A4 ev.proof.a.who.length c4, .int .i64 ev.proof.b.slot, .int .u64 ev.proof.b.head, .int .i64 ev.proof.b.src.e, .int .u64 ev.proof.b.src.r, .int .i64 ev.proof.b.tgt.e, .int .u64 ev.proof.b.tgt.r, .slice A5 ev.proof.b.who.length c5] qe3 rfl _ Tryz.underlying57 rfl iEv ?_)
      | (at_builtin; refine wpList_app w.heap.size rfl (.tmp 73) (.tmp 75) 44 57 _ 28 304 rfl Tryz.underlying44 infoEv rfl (by decide) _ es.length gcs rfl hRz.ro (some ⟨W3.heap.size, 0, none⟩) 1 1 [.int .i64 ev.kind, .int .i64 ev.slot, .int .u64 ev.block.root, .int .u64 ev.block.parent, .int .i64 ev.block.slot, .slice A1 ev.block.votes.length c1, .slice A2 ev.block.proofs.length c2, .int .i64 ev.vote.slot, .int .u64 ev.vote.head, .int .i64 ev.vote.src.e, .int .u64 ev.vote.src.r, .int .i64 ev.vote.tgt.e, .int .u64 ev.vote.tgt.r, .slice A3 ev.vote.who.length c3, .int .i64 ev.proof.a.slot, .int .u64 ev.proof.a.head, .int .i64 ev.proof.a.src.e, .int .u64 ev.proof.a.src.r, .int .i64 ev.proof.a.tgt.e, .int .u64 ev.proof.a.tgt.r, .slice A4 ev.proof.a.who.length c4, .int .i64 ev.proof.b.slot, .int .u64 ev.proof.b.head, .int .i64 ev.proof.b.src.e, .int .u64 ev.proof.b.src.r, .int .i64 ev.proof.b.tgt.e, .int .u64 ev.proof.b.tgt.r, .slice A5 ev.proof.b.who.length c5] rfl rfl flat_newO (EvK.one hez.k) (by omega) (by omega) (by have := hRz.bel.size; exact this) ?_; intro A6 c6 w6 ho6 hg6 hn6))
     go_roundw
     case rel => exact ⟨es ++ [ev], A6, c6, by simp, by simp; omega, _, p3, _, k', vk', ch3, ns1, An1, kn1, _, _, hsb3, by simp; omega, hRz.snoc hez HEw2.out rfl ho6 hg6 hn6⟩
     case measure => simp [lenS]; omega
end Go.Proofs.YtnppimhlfcjghaaGreat
