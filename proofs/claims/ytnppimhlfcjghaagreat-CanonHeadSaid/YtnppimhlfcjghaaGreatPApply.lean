import Derived.Test.YtnppimhlfcjghaaGreatPPropose
import Derived.Test.YtnppimhlfcjghaaGreatPTick
import Derived.Test.YtnppimhlfcjghaaGreatPOwn
import Derived.Test.YtnppimhlfcjghaaGreatPApp
set_option linter.all false
set_option linter.unusedVariables false
set_option linter.unusedSimpArgs false
namespace Go.Proofs.YtnppimhlfcjghaaGreat
open Go.RowKit
set_option maxRecDepth 100000
set_option maxHeartbeats 8000000
def RetApply (w : World) (p : Places) (s : St) (e : Ev) (k vk : Nat) (en : Ending) (w' : World) : Prop :=
 ∃ nb' ch', en = .returned (.tuple #[ch', errV (applyS s e).2]) ∧ p.NbOk w.heap.size nb' ∧ ApAt w' w.heap.size { p with nb := nb', w0 := w } (applyS s e).1 k vk ch' ∧ Ext (p.foot w.heap.size) w w'
theorem ints_lt {ok : Nat → Prop} {k : IntKind} {w : World} {b o : Nat} {xs : List Int} (h : Ints ok k w (some ⟨b, o, none⟩) xs) (hn : 0 < xs.length) : b < w.heap.size := by
 obtain ⟨b', o', e, _, hc⟩ := h.get hn
 injection e with e
 injection e with e1 e2 _
 subst e1 e2
 unfold World.cell? at hc
 cases hh : w.heap[b]? with
 | none => simp [hh] at hc
 | some o => exact blk_lt hh
theorem StoreAt.lt {w : World} {p : Places} {s : St} {k vk : Nat} {ch : Value} (h : StoreAt w p s k vk ch) (hs : s.ok) : ∀ i ∈ p.all, i < w.heap.size := by
 intro i hi
 obtain ⟨_, hm, _⟩ := h.led
 simp only [Places.all, List.mem_cons, List.not_mem_nil, or_false] at hi
 rcases hi with e | e | e | e | e | e | e
 ·rw [e]; exact blk_lt h.blk
 ·rw [e]; exact blk_lt h.tree.blk
 ·rw [e]; exact h.tree.map.lt
 ·rw [e]; exact blk_lt (show w.heap[p.vb]? = _ from h.votes)
 ·rw [e]; exact hm.lt
 ·rw [e]; exact h.gone.lt
 ·rw [e]; exact ints_lt h.bal hs.c.l1
theorem StoreAt.at0 {w w1 : World} {p : Places} {s : St} {k vk : Nat} {ch : Value} (h : StoreAt w p s k vk ch) : StoreAt w { p with w0 := w1 } s k vk ch := ⟨h.blk, h.bal, h.tree, h.votes, h.led, h.gone, h.nd⟩
theorem old_all (p : Places) {i : Nat} (h : i ∈ p.old) : i ∈ p.all := by
 simp only [Places.old, Places.all, List.mem_cons, List.not_mem_nil, or_false] at h ⊢
 rcases h with e | e | e | e | e | e <;> simp [e]
theorem StoreAt.clean {w w0 : World} {p : Places} {s : St} {k vk base : Nat} {ch : Value} (h : StoreAt w p s k vk ch) (hlt : ∀ i ∈ p.all, i < base) (hb : base ≤ w.heap.size) (hk : KeepN w0 w) : ApAt (w.setCell ⟨p.sb, 13, none⟩ (.slice none 0 0)) base { p with w0 := w0 } (s, []) k vk (.slice none 0 0) ∧ Ext (fun i => i = p.sb) w (w.setCell ⟨p.sb, 13, none⟩ (.slice none 0 0)) := by
 have hx : Ext (fun i => i = p.sb) w (w.setCell ⟨p.sb, 13, none⟩ (.slice none 0 0)) := (Ext.refl _ _).set1
 have hz := hx.size
 exact ⟨⟨(h.at0 (w1 := w0)).cell hx (blk_set h.blk 13 _) rfl rfl rfl rfl rfl, own_nil _ _ _ _, fun i hi => hlt i (old_all p hi), by omega, hk.trans (keepN_cells h.blk hx (by decide))⟩, hx⟩
theorem cs28 {w : World} {b : Nat} {T : TypeId} {f : Nat × Nat} {a0 a1 a2 a3 a4 a5 a6 a7 a8 a9 a10 a11 a12 a13 a14 a15 a16 a17 a18 a19 a20 a21 a22 a23 a24 a25 a26 a27 : Value} (h : w.heap[b]? = some (.cells #[a0, a1, a2, a3, a4, a5, a6, a7, a8, a9, a10, a11, a12, a13, a14, a15, a16, a17, a18, a19, a20, a21, a22, a23, a24, a25, a26, a27] T f)) : w.cell? ⟨b, 0, none⟩ = some a0 ∧ w.cell? ⟨b, 1, none⟩ = some a1 ∧ w.cell? ⟨b, 2, none⟩ = some a2 ∧ w.cell? ⟨b, 3, none⟩ = some a3 ∧ w.cell? ⟨b, 4, none⟩ = some a4 ∧ w.cell? ⟨b, 5, none⟩ = some a5 ∧ w.cell? ⟨b, 6, none⟩ = some a6 ∧ w.cell? ⟨b, 7, none⟩ = some a7 ∧ w.cell? ⟨b, 8, none⟩ = some a8 ∧ w.cell? ⟨b, 9, none⟩ = some a9 ∧ w.cell? ⟨b, 10, none⟩ = some a10 ∧ w.cell? ⟨b, 11, none⟩ = some a11 ∧ w.cell? ⟨b, 12, none⟩ = some a12 ∧ w.cell? ⟨b, 13, none⟩ = some a13 ∧ w.cell? ⟨b, 14, none⟩ = some a14 ∧ w.cell? ⟨b, 15, none⟩ = some a15 ∧ w.cell? ⟨b, 16, none⟩ = some a16 ∧ w.cell? ⟨b, 17, none⟩ = some a17 ∧ w.cell? ⟨b, 18, none⟩ = some a18 ∧ w.cell? ⟨b, 19, none⟩ = some a19 ∧ w.cell? ⟨b, 20, none⟩ = some a20 ∧ w.cell? ⟨b, 21, none⟩ = some a21 ∧ w.cell? ⟨b, 22, none⟩ = some a22 ∧ w.cell? ⟨b, 23, none⟩ = some a23 ∧ w.cell? ⟨b, 24, none⟩ = some a24 ∧ w.cell? ⟨b, 25, none⟩ = some a25 ∧ w.cell? ⟨b, 26, none⟩ = some a26 ∧ w.cell? ⟨b, 27, none⟩ = some a27 :=
 ⟨blk_cell h 0, blk_cell h 1, blk_cell h 2, blk_cell h 3, blk_cell h 4, blk_cell h 5, blk_cell h 6, blk_cell h 7, blk_cell h 8, blk_cell h 9, blk_cell h 10, blk_cell h 11, blk_cell h 12, blk_cell h 13, blk_cell h 14, blk_cell h 15, blk_cell h 16, blk_cell h 17, blk_cell h 18, blk_cell h 19, blk_cell h 20, blk_cell h 21, blk_cell h 22, blk_cell h 23, blk_cell h 24, blk_cell h 25, blk_cell h 26, blk_cell h 27⟩
theorem apply0 {s : St} {e : Ev} (h : e.kind = 0) : applyS s e = ((tickS s e.slot, []), tickE s e.slot) := by
 unfold applyS
 rw [if_pos h]
 by_cases h1 : e.slot ≤ s.slot
 ·have : tickE s e.slot = 3 := by rw [tickE, if_pos h1]
  rw [if_pos h1, tickS, this, if_neg (by decide)]
 ·by_cases h2 : 1099511627776 < e.slot
  ·have : tickE s e.slot = 4 := by rw [tickE, if_neg h1, if_pos h2]
   rw [if_neg h1, if_pos h2, tickS, this, if_neg (by decide)]
  ·have : tickE s e.slot = 0 := by rw [tickE, if_neg h1, if_neg h2]
   rw [if_neg h1, if_neg h2, tickS, this, if_pos rfl]
theorem apply1 {s : St} {e : Ev} (h : e.kind = 1) : applyS s e = (propR s e.block, proposeE s e.block) := by
 unfold applyS
 rw [if_neg (by omega), if_pos h, propR]
 split
 ·rename_i h1; rw [h1]
 ·rfl
theorem apply2 {s : St} {e : Ev} (h : e.kind = 2) : applyS s e = (attestS (s, []) e.vote false, attestE s e.vote false) := by
 unfold applyS
 rw [if_neg (by omega), if_neg (by omega), if_pos h]
theorem apply3 {s : St} {e : Ev} (h : e.kind = 3) : applyS s e = (slashS (s, []) e.proof, slashE s e.proof) := by
 unfold applyS
 rw [if_neg (by omega), if_neg (by omega), if_neg (by omega), if_pos h]
theorem apply4 {s : St} {e : Ev} (h0 : e.kind ≠ 0) (h1 : e.kind ≠ 1) (h2 : e.kind ≠ 2) (h3 : e.kind ≠ 3) : applyS s e = ((s, []), 1) := by
 unfold applyS
 rw [if_neg h0, if_neg h1, if_neg h2, if_neg h3]
def RelApply (w : World) (p : Places) (s : St) (e : Ev) (k vk : Nat) (er : Value) (w' : World) : Prop :=
 er = errV (applyS s e).2 ∧ ∃ nb' ch', p.NbOk w.heap.size nb' ∧ ApAt w' w.heap.size { p with nb := nb', w0 := w } (applyS s e).1 k vk ch' ∧ Ext (p.foot w.heap.size) w w'
theorem Apply_calls {w : World} {p : Places} {s : St} {k vk : Nat} {ch : Value} (h : StoreAt w p s k vk ch) (hs : s.ok) (e : Ev) (A1 : Option Addr) (c1 : Nat) (A2 : Option Addr) (c2 : Nat) (A3 : Option Addr) (c3 : Nat) (A4 : Option Addr) (c4 : Nat) (A5 : Option Addr) (c5 : Nat) (hwf : e.wf) (hR : EvR (fun i => ¬ p.has i ∧ i < w.heap.size) w e A1 c1 A2 c2 A3 c3 A4 c4 A5 c5) :
    Calls Tryz.prog 14 #[.pointer (some ⟨p.sb, 0, none⟩), .agg #[.int .i64 e.kind, .int .i64 e.slot, .int .u64 e.block.root, .int .u64 e.block.parent, .int .i64 e.block.slot, .slice A1 e.block.votes.length c1, .slice A2 e.block.proofs.length c2, .int .i64 e.vote.slot, .int .u64 e.vote.head, .int .i64 e.vote.src.e, .int .u64 e.vote.src.r, .int .i64 e.vote.tgt.e, .int .u64 e.vote.tgt.r, .slice A3 e.vote.who.length c3, .int .i64 e.proof.a.slot, .int .u64 e.proof.a.head, .int .i64 e.proof.a.src.e, .int .u64 e.proof.a.src.r, .int .i64 e.proof.a.tgt.e, .int .u64 e.proof.a.tgt.r, .slice A4 e.proof.a.who.length c4, .int .i64 e.proof.b.slot, .int .u64 e.proof.b.head, .int .i64 e.proof.b.src.e, .int .u64 e.proof.b.src.r, .int .i64 e.proof.b.tgt.e, .int .u64 e.proof.b.tgt.r, .slice A5 e.proof.b.who.length c5]] w (RetApply w p s e k vk) := by
 have q0 := heap_new w (.cells #[.int .i64 e.kind, .int .i64 e.slot, .int .u64 e.block.root, .int .u64 e.block.parent, .int .i64 e.block.slot, .slice A1 e.block.votes.length c1, .slice A2 e.block.proofs.length c2, .int .i64 e.vote.slot, .int .u64 e.vote.head, .int .i64 e.vote.src.e, .int .u64 e.vote.src.r, .int .i64 e.vote.tgt.e, .int .u64 e.vote.tgt.r, .slice A3 e.vote.who.length c3, .int .i64 e.proof.a.slot, .int .u64 e.proof.a.head, .int .i64 e.proof.a.src.e, .int .u64 e.proof.a.src.r, .int .i64 e.proof.a.tgt.e, .int .u64 e.proof.a.tgt.r, .slice A4 e.proof.a.who.length c4, .int .i64 e.proof.b.slot, .int .u64 e.proof.b.head, .int .i64 e.proof.b.src.e, .int .u64 e.proof.b.src.r, .int .i64 e.proof.b.tgt.e, .int .u64 e.proof.b.tgt.r, .slice A5 e.proof.b.who.length c5] 57)
 have hb0 : Below w.heap.size w (w.alloc (.cells #[.int .i64 e.kind, .int .i64 e.slot, .int .u64 e.block.root, .int .u64 e.block.parent, .int .i64 e.block.slot, .slice A1 e.block.votes.length c1, .slice A2 e.block.proofs.length c2, .int .i64 e.vote.slot, .int .u64 e.vote.head, .int .i64 e.vote.src.e, .int .u64 e.vote.src.r, .int .i64 e.vote.tgt.e, .int .u64 e.vote.tgt.r, .slice A3 e.vote.who.length c3, .int .i64 e.proof.a.slot, .int .u64 e.proof.a.head, .int .i64 e.proof.a.src.e, .int .u64 e.proof.a.src.r, .int .i64 e.proof.a.tgt.e, .int .u64 e.proof.a.tgt.r, .slice A4 e.proof.a.who.length c4, .int .i64 e.proof.b.slot, .int .u64 e.proof.b.head, .int .i64 e.proof.b.src.e, .int .u64 e.proof.b.src.r, .int .i64 e.proof.b.tgt.e, .int .u64 e.proof.b.tgt.r, .slice A5 e.proof.b.who.length c5] 57)) := below_alloc (Below.refl _ _) _
 have hlt := h.lt hs
 have hsb : p.sb < w.heap.size := hlt _ (by simp [Places.all])
 have h0 := h.below hb0
 go_enter Tryz.func14, Tryz.ntmps14
 go_upto_region 1 with fail
 generalize w.alloc (.cells #[.int .i64 e.kind, .int .i64 e.slot, .int .u64 e.block.root, .int .u64 e.block.parent, .int .i64 e.block.slot, .slice A1 e.block.votes.length c1, .slice A2 e.block.proofs.length c2, .int .i64 e.vote.slot, .int .u64 e.vote.head, .int .i64 e.vote.src.e, .int .u64 e.vote.src.r, .int .i64 e.vote.tgt.e, .int .u64 e.vote.tgt.r, .slice A3 e.vote.who.length c3, .int .i64 e.proof.a.slot, .int .u64 e.proof.a.head, .int .i64 e.proof.a.src.e, .int .u64 e.proof.a.src.r, .int .i64 e.proof.a.tgt.e, .int .u64 e.proof.a.tgt.r, .slice A4 e.proof.a.who.length c4, .int .i64 e.proof.b.slot, .int .u64 e.proof.b.head, .int .i64 e.proof.b.src.e, .int .u64 e.proof.b.src.r, .int .i64 e.proof.b.tgt.e, .int .u64 e.proof.b.tgt.r, .slice A5 e.proof.b.who.length c5] 57) = W0 at q0 hb0 h0 ⊢
 obtain ⟨hA, hx⟩ := h0.clean hlt hb0.size (KeepN.of_below hb0)
 have hX : Hid (Ext (p.foot w.heap.size) w (W0.setCell ⟨p.sb, 13, none⟩ (.slice none 0 0))) := (Ext.of_below hb0).trans hx (fun i _ e => .inl (.inl e))
 have q1 := blk_ext q0 hx (fun e => by have e' : w.heap.size = p.sb := e; omega)
 have hR1 : Hid (EvR (p.free w.heap.size) (W0.setCell ⟨p.sb, 13, none⟩ (.slice none 0 0)) e A1 c1 A2 c2 A3 c3 A4 c4 A5 c5) := hR.mono (fun i hi hf => hf.elim (fun a => hi.1 a) (fun a => by omega)) (fun i hi hlt' => hX.out.block i hlt' (fun hf => hf.elim (fun a => hi.1 a) (fun a => by omega)))
 obtain ⟨_, _, _, _, _, _, _, _, _, _, _, _, _, c13⟩ := h0.cells
 have z13 := blk_frozen h0.blk 13
 have HA := Lib.hid hA
 have HQ1 := Lib.hid q1
 clear hA q1 h0 hx hb0 hR h
 go_upto_region 3 with fail
 generalize W0.setCell _ _ = W1 at HA HQ1 hX hR1 ⊢
 clear q0 c13 z13
 obtain ⟨a0, a1, a2, a3, a4, a5, a6, a7, a8, a9, a10, a11, a12, a13, a14, a15, a16, a17, a18, a19, a20, a21, a22, a23, a24, a25, a26, a27⟩ := cs28 HQ1.out
 have hw1 := hwf.2.2.1
 have hw2 := hwf.2.2.2.1
 have hw3 := hwf.2.2.2.2
 have HW := Lib.hid (And.intro hw1 (And.intro hw2 hw3))
 have HSk := Lib.hid hs
 clear hw1 hw2 hw3 hwf hlt hs
 go_upto_block 0 with fail
 go_cut [6] (fun er w' => RelApply w p s e k vk er w')
 case first =>
  by_cases k0 : e.kind = 0
  ·have kb : (e.kind == 0) = true := by simp [k0]
   have cT := tick_calls HA.out e.slot
   have HK := Lib.hid k0
   clear k0
   go_wp2_with (go_at_call 36; refine cT.mono ?_; rintro en w5 ⟨rfl, hA5, hx5⟩)
   go_meet
   case rel => exact ⟨by rw [apply0 HK.out], p.nb, .slice none 0 0, .inl rfl, by rw [apply0 HK.out]; exact hA5, hX.out.trans hx5 (fun _ _ h => h)⟩
  ·have kb0 : (e.kind == 0) = false := by simp [k0]
   by_cases k1 : e.kind = 1
   ·have kb : (e.kind == 1) = true := by simp [k1]
    have cT := propose_calls HA.out HSk.out e.block A1 c1 A2 c2 HW.out.1 hR1.out.f1 hR1.out.f2 hR1.out.r1 hR1.out.r2
    have HK := Lib.hid k1
    clear k0 k1
    go_wp2_with (go_at_call 37; refine cT.mono ?_; rintro en w5 ⟨rfl, ⟨nb5, hnb5, ch5, hA5⟩, hx5⟩)
    go_meet
    case rel => exact ⟨by rw [apply1 HK.out], nb5, ch5, hnb5, by rw [apply1 HK.out]; exact hA5, hX.out.trans hx5 (fun _ _ h => h)⟩
   ·have kb1 : (e.kind == 1) = false := by simp [k1]
    by_cases k2 : e.kind = 2
    ·have kb : (e.kind == 2) = true := by simp [k2]
     have cT := attest_calls HA.out HSk.out (by simp) e.vote A3 c3 HW.out.2.1 hR1.out.f3.2 hR1.out.r3 false
     have HK := Lib.hid k2
     clear k0 k1 k2
     go_wp2_with (go_at_call 38; refine cT.mono ?_; rintro en w5 ⟨rfl, ⟨ch5, hA5⟩, hx5⟩)
     go_meet
     case rel => exact ⟨by rw [apply2 HK.out], p.nb, ch5, .inl rfl, by rw [apply2 HK.out]; exact hA5, hX.out.trans hx5 (fun _ _ h => h)⟩
    ·have kb2 : (e.kind == 2) = false := by simp [k2]
     by_cases k3 : e.kind = 3
     ·have kb : (e.kind == 3) = true := by simp [k3]
      have cT := slash_calls HA.out HSk.out (by simp) e.proof A4 c4 A5 c5 HW.out.2.2.1 HW.out.2.2.2 hR1.out.f4.2 hR1.out.f5.2 (Lie.any hR1.out.r4) (Lie.any hR1.out.r5)
      have HK := Lib.hid k3
      clear k0 k1 k2 k3
      go_wp2_with (go_at_call 39; refine cT.mono ?_; rintro en w5 ⟨rfl, ⟨ch5, hA5⟩, hx5⟩)
      go_meet
      case rel => exact ⟨by rw [apply3 HK.out], p.nb, ch5, .inl rfl, by rw [apply3 HK.out]; exact hA5, hX.out.trans hx5 (fun _ _ h => h)⟩
     ·have kb3 : (e.kind == 3) = false := by simp [k3]
      have HK := Lib.hid (And.intro k0 (And.intro k1 (And.intro k2 k3)))
      clear k0 k1 k2 k3
      go_wp2
      go_meet
      case rel =>
       have e4 := apply4 HK.out.1 HK.out.2.1 HK.out.2.2.1 HK.out.2.2.2 (s := s)
       exact ⟨by rw [e4]; rfl, p.nb, .slice none 0 0, .inl rfl, by rw [e4]; exact HA.out, hX.out⟩
 case rest =>
  obtain ⟨hre, nb', ch', hnb, hA', hX'⟩ := hcut
  obtain ⟨W2, rfl⟩ : ∃ W2 : World, W2 = wc := ⟨_, rfl⟩
  obtain ⟨_, _, _, _, _, _, _, _, _, _, _, _, _, c13⟩ := hA'.st.cells
  subst hre
  have c13' : W2.cell? ⟨p.sb, 13, none⟩ = some ch' := c13
  clear c13 a0 a1 a2 a3 a4 a5 a6 a7 a8 a9 a10 a11 a12 a13 a14 a15 a16 a17 a18 a19 a20 a21 a22 a23 a24 a25 a26 a27
  generalize hE : errV (applyS s e).2 = er at hX' ⊢
  go_wp2
  exact bodyPost_ret (v := .tuple #[ch', er]) (by simp [results, Tryz.results14, go_sem]) rfl ⟨nb', ch', by rw [← hE], hnb, hA', hX'⟩
end Go.Proofs.YtnppimhlfcjghaaGreat
namespace Go.Proofs.YtnppimhlfcjghaaGreat
open Go.RowKit
set_option maxRecDepth 100000
theorem KeepN.keep {w w' : World} (h : KeepN w w') {T : TypeId} (h1 : T ≠ 140 ∧ T ≠ 43 ∧ T ≠ 120 ∧ T ≠ 114) : Keep T w w' := fun g cs hg => h g cs T h1.1 h1.2.1 h1.2.2.1 h1.2.2.2 hg
theorem KeepN.keeps {w w' : World} (h : KeepN w w') : Keeps w w' := ⟨h.keep (by decide), h.keep (by decide), h.keep (by decide)⟩
theorem EvO.r {B : Nat} {w : World} {e : Ev} {A1 : Option Addr} {c1 : Nat} {A2 : Option Addr} {c2 : Nat} {A3 : Option Addr} {c3 : Nat} {A4 : Option Addr} {c4 : Nat} {A5 : Option Addr} {c5 : Nat} (h : EvO B w e [.int .i64 e.kind, .int .i64 e.slot, .int .u64 e.block.root, .int .u64 e.block.parent, .int .i64 e.block.slot, .slice A1 e.block.votes.length c1, .slice A2 e.block.proofs.length c2, .int .i64 e.vote.slot, .int .u64 e.vote.head, .int .i64 e.vote.src.e, .int .u64 e.vote.src.r, .int .i64 e.vote.tgt.e, .int .u64 e.vote.tgt.r, .slice A3 e.vote.who.length c3, .int .i64 e.proof.a.slot, .int .u64 e.proof.a.head, .int .i64 e.proof.a.src.e, .int .u64 e.proof.a.src.r, .int .i64 e.proof.a.tgt.e, .int .u64 e.proof.a.tgt.r, .slice A4 e.proof.a.who.length c4, .int .i64 e.proof.b.slot, .int .u64 e.proof.b.head, .int .i64 e.proof.b.src.e, .int .u64 e.proof.b.src.r, .int .i64 e.proof.b.tgt.e, .int .u64 e.proof.b.tgt.r, .slice A5 e.proof.b.who.length c5]) : EvR (fun b => B ≤ b ∧ b < w.heap.size) w e A1 c1 A2 c2 A3 c3 A4 c4 A5 c5 := by
 obtain ⟨B1, k1, B2, k2, B3, k3, B4, k4, B5, k5, hr, he⟩ := h.k.lt.open_
 simp only [List.cons.injEq, Value.slice.injEq, true_and, and_true] at he
 obtain ⟨⟨rfl, rfl⟩, ⟨rfl, rfl⟩, ⟨rfl, rfl⟩, ⟨rfl, rfl⟩, ⟨rfl, rfl⟩⟩ := he
 exact hr
structure RunAt (B S1 S2 sb : Nat) (A : Option Addr) (es : List Ev) (s : St) (ch : Value) (w : World) : Prop where
 run : ∃ p k vk, p.sb = sb ∧ StoreAt w p s k vk ch ∧ (∀ i ∈ p.all, B ≤ i ∧ (i < S1 ∨ S2 ≤ i))
 ok : s.ok
 row : Evs (fun b => S1 ≤ b ∧ b < S2) w A es
 wf : ∀ e ∈ es, e.wf
 b : B ≤ S1 ∧ S1 ≤ S2 ∧ S2 ≤ w.heap.size
theorem RunAt.below {B S1 S2 sb : Nat} {A : Option Addr} {es : List Ev} {s : St} {ch : Value} {w w' : World} (h : RunAt B S1 S2 sb A es s ch w) (hb : Below w.heap.size w w') : RunAt B S1 S2 sb A es s ch w' := by
 obtain ⟨⟨p, k, vk, h1, h2, h3⟩, ok, row, wf, b⟩ := h
 exact ⟨⟨p, k, vk, h1, h2.below hb, h3⟩, ok, row.below hb, wf, ⟨b.1, b.2.1, by have := hb.size; omega⟩⟩
def RetRun (B S1 S2 sb : Nat) (A : Option Addr) (es : List Ev) (s : St) (e : Ev) (w : World) (en : Ending) (w' : World) : Prop :=
 ∃ ch', en = .returned (.tuple #[ch', errV (applyS s e).2]) ∧ RunAt B S1 S2 sb A es (applyS s e).1.1 ch' w' ∧ w'.ownsRow w.heap.size 140 6 ch' (applyS s e).1.2.length ((applyS s e).1.2.flatMap chgC) ∧ KeepN w w' ∧ Ext (fun i => B ≤ i ∧ (i < S1 ∨ S2 ≤ i)) w w'
theorem RunAt.apply {B S1 S2 sb : Nat} {A : Option Addr} {es : List Ev} {s : St} {ch : Value} {w : World} (h : RunAt B S1 S2 sb A es s ch w) {e : Ev} (hwf : e.wf) {A1 : Option Addr} {c1 : Nat} {A2 : Option Addr} {c2 : Nat} {A3 : Option Addr} {c3 : Nat} {A4 : Option Addr} {c4 : Nat} {A5 : Option Addr} {c5 : Nat} (hR : EvR (fun b => S1 ≤ b ∧ b < S2) w e A1 c1 A2 c2 A3 c3 A4 c4 A5 c5) :
    Calls Tryz.prog 14 #[.pointer (some ⟨sb, 0, none⟩), .agg #[.int .i64 e.kind, .int .i64 e.slot, .int .u64 e.block.root, .int .u64 e.block.parent, .int .i64 e.block.slot, .slice A1 e.block.votes.length c1, .slice A2 e.block.proofs.length c2, .int .i64 e.vote.slot, .int .u64 e.vote.head, .int .i64 e.vote.src.e, .int .u64 e.vote.src.r, .int .i64 e.vote.tgt.e, .int .u64 e.vote.tgt.r, .slice A3 e.vote.who.length c3, .int .i64 e.proof.a.slot, .int .u64 e.proof.a.head, .int .i64 e.proof.a.src.e, .int .u64 e.proof.a.src.r, .int .i64 e.proof.a.tgt.e, .int .u64 e.proof.a.tgt.r, .slice A4 e.proof.a.who.length c4, .int .i64 e.proof.b.slot, .int .u64 e.proof.b.head, .int .i64 e.proof.b.src.e, .int .u64 e.proof.b.src.r, .int .i64 e.proof.b.tgt.e, .int .u64 e.proof.b.tgt.r, .slice A5 e.proof.b.who.length c5]] w (RetRun B S1 S2 sb A es s e w) := by
 obtain ⟨⟨p, k, vk, rfl, hS, hp⟩, ok, row, wf, b⟩ := h
 have hb := b
 refine (Apply_calls hS ok e A1 c1 A2 c2 A3 c3 A4 c4 A5 c5 hwf (hR.mono (fun i hi => ⟨fun hh => by have := hp i (p.mem hh); omega, by omega⟩) (fun _ _ _ => rfl))).mono ?_
 rintro en w' ⟨nb', ch', rfl, hnb, hA, hx⟩
 have hx' : Ext (fun i => B ≤ i ∧ (i < S1 ∨ S2 ≤ i)) w w' := hx.mono (fun i hi hF => by
  rcases hF with hF | hF
  ·exact hp i (p.mem hF)
  ·omega)
 refine ⟨ch', rfl, ⟨⟨{ p with nb := nb', w0 := w }, k, vk, rfl, hA.st, fun i hi => ?_⟩, ok_apply ok hwf, row.mono (fun _ x => x) (fun b hb hlt => hx'.block b hlt (fun hF => by omega)), wf, ⟨b.1, b.2.1, by have := hx'.size; omega⟩⟩, hA.chs, hA.kb, hx'⟩
 simp only [Places.all, List.mem_cons, List.not_mem_nil, or_false] at hi hp
 rcases hi with e | e | e | e | e | e | e
 ·exact hp i (by simp [e])
 ·exact hp i (by simp [e])
 ·rcases hnb with h | h
  ·exact hp i (by simp [e, h])
  ·omega
 ·exact hp i (by simp [e])
 ·exact hp i (by simp [e])
 ·exact hp i (by simp [e])
 ·exact hp i (by simp [e])
theorem MkAt.apply {w w' : World} {mb base sb : Nat} {ns : List Int} {A : Option Addr} {kn : Nat} {bl : List Int} {bv : Value} (h : MkAt w mb base sb ns A kn bl bv) {F : Nat → Prop} (hk : KeepN w w') (hx : Ext F w w') (hF : ∀ i, i < base → ¬ F i) : MkAt w' mb base sb ns A kn bl bv :=
 ⟨hk _ _ _ (by decide) (by decide) (by decide) (by decide) h.blk, h.rn.keep hx hF, (hk.keep (by decide)).own h.rb, h.b0, h.b1, h.nr, h.nl, h.br, h.mb⟩
end Go.Proofs.YtnppimhlfcjghaaGreat
