import Derived.Test.YtnppimhlfcjghaaGreatPApp
import Derived.Test.YtnppimhlfcjghaaGreatPFlag
import Derived.Test.YtnppimhlfcjghaaGreatPWho2
set_option linter.all false
set_option linter.unusedVariables false
set_option linter.unusedSimpArgs false
namespace Go.Proofs.YtnppimhlfcjghaaGreat
open Go.RowKit
set_option maxRecDepth 100000
set_option maxHeartbeats 4000000
def tickE (s : St) (t : Int) : Int := if t ≤ s.slot then 3 else if 1099511627776 < t then 4 else 0
def tickS (s : St) (t : Int) : St := if tickE s t = 0 then { s with slot := t, boosted := 0 } else s
theorem StoreAt.cells {w : World} {p : Places} {s : St} {k vk : Nat} {ch : Value} (h : StoreAt w p s k vk ch) : (w.cell? ⟨p.sb, 0, none⟩ = some (.slice (some ⟨p.bb, 0, none⟩) s.c.bal.length k) ∧ w.cell? ⟨p.sb, 1, none⟩ = some (.int .i64 s.c.slots) ∧ w.cell? ⟨p.sb, 2, none⟩ = some (.int .i64 s.c.boost) ∧ w.cell? ⟨p.sb, 3, none⟩ = some (.pointer (some ⟨p.tb, 0, none⟩)) ∧ w.cell? ⟨p.sb, 4, none⟩ = some (.slice (some ⟨p.vb, 0, none⟩) s.votes.length vk) ∧ w.cell? ⟨p.sb, 5, none⟩ = some (.int .i64 s.slot) ∧ w.cell? ⟨p.sb, 6, none⟩ = some (.int .u64 s.boosted) ∧ w.cell? ⟨p.sb, 7, none⟩ = some (.int .i64 s.just.e) ∧ w.cell? ⟨p.sb, 8, none⟩ = some (.int .u64 s.just.r) ∧ w.cell? ⟨p.sb, 9, none⟩ = some (.int .i64 s.fin.e) ∧ w.cell? ⟨p.sb, 10, none⟩ = some (.int .u64 s.fin.r) ∧ w.cell? ⟨p.sb, 11, none⟩ = some (.map (some p.lb)) ∧ w.cell? ⟨p.sb, 12, none⟩ = some (.map (some p.gb)) ∧ w.cell? ⟨p.sb, 13, none⟩ = some (ch)) := cs14 h.blk
theorem tick_calls {w : World} {base : Nat} {p : Places} {x : SC} {k vk : Nat} {ch : Value} (h : ApAt w base p x k vk ch) (t : Int) :
    Calls Tryz.prog 36 #[.pointer (some ⟨p.sb, 0, none⟩), .int .i64 t] w fun e w' => e = .returned (errV (tickE x.1 t)) ∧ ApAt w' base p (tickS x.1 t, x.2) k vk ch ∧ Ext (p.foot base) w w' := by
 obtain ⟨c0, c1, c2, c3, c4, c5, c6, c7, c8, c9, c10, c11, c12, c13⟩ := h.st.cells
 have hq := h.st.blk
 have z := blk_frozen hq
 have z5 := z 5
 have z6 := z 6
 clear z
 by_cases h1 : t ≤ x.1.slot
 ·have HE : Hid (tickE x.1 t = 3) := by show _ = _; rw [tickE, if_pos h1]
  clear hq
  go_enter Tryz.func36, Tryz.ntmps36
  go_wp2
  go_ret
  refine ⟨by rw [HE.out]; rfl, ?_, Ext.refl _ _⟩
  rw [tickS, HE.out]
  exact h
 ·by_cases h2 : 1099511627776 < t
  ·have HE : Hid (tickE x.1 t = 4) := by show _ = _; rw [tickE, if_neg h1, if_pos h2]
   clear hq
   go_enter Tryz.func36, Tryz.ntmps36
   go_wp2
   go_ret
   refine ⟨by rw [HE.out]; rfl, ?_, Ext.refl _ _⟩
   rw [tickS, HE.out]
   exact h
  ·have HE : Hid (tickE x.1 t = 0) := by show _ = _; rw [tickE, if_neg h1, if_neg h2]
   have HQ := Lib.hid hq
   clear hq
   go_enter Tryz.func36, Tryz.ntmps36
   go_wp2
   go_ret
   have hx : Ext (fun i => i = p.sb) w ((w.setCell ⟨p.sb, 5, none⟩ (.int .i64 t)).setCell ⟨p.sb, 6, none⟩ (.int .u64 0)) := (Ext.refl _ _).set1.set1
   refine ⟨by rw [HE.out]; rfl, ?_, hx.mono (fun i _ e => .inl (.inl e))⟩
   rw [tickS, HE.out]
   have hsb : p.sb < base := h.hi _ (by simp [Places.old])
   refine ⟨h.st.cell hx (blk_set (blk_set HQ.out 5 _) 6 _) rfl rfl rfl rfl rfl, ?_, h.hi, ?_, h.kb.trans (keepN_cells h.st.blk hx (by decide))⟩
   ·exact own_ext h.chs hx (fun b hb e => by
       obtain ⟨ds, hd, hle⟩ := own_kind h.chs hb
       have e' : b = p.sb := e
       omega)
   ·have := h.hb; have := hx.size; omega
end Go.Proofs.YtnppimhlfcjghaaGreat
namespace Go.Proofs.YtnppimhlfcjghaaGreat
open Go.RowKit
set_option maxRecDepth 100000
set_option maxHeartbeats 8000000
theorem infoChg : (Tryz.prog.info? 140).map (fun i => (i.zero, i.size, i.bytes)) = some (some (.agg #[.int .i64 0, .int .u64 0, .int .u64 0, .int .i64 0, .int .u64 0, .bool false]), 6, 48) := by kernel_rfl
theorem chgC_one (c : Chg) : ∀ u ∈ chgC c, u.oneCell' = true := by
 intro u hu
 simp only [chgC, List.mem_cons, List.not_mem_nil, or_false] at hu
 rcases hu with rfl | rfl | rfl | rfl | rfl | rfl <;> rfl
theorem foldl_snoc {α β : Type} (f : β → α → β) (l : List α) (x : β) (j : Nat) (h : j < l.length) : (l.take (j + 1)).foldl f x = f ((l.take j).foldl f x) l[j] := by
 rw [List.take_succ_eq_append_getElem h, List.foldl_append]; rfl
theorem banV_length (v : List En) (k : Int) : (banV v k).length = v.length := by
 unfold banV; split <;> simp
theorem banOne_bd (x : SC) (k : Int) : (banOne x k).2.length ≤ x.2.length + 1 ∧ (banOne x k).1.c = x.1.c ∧ (banOne x k).1.votes.length = x.1.votes.length := by
 unfold banOne
 split
 ·exact ⟨by simp, rfl, banV_length _ _⟩
 ·exact ⟨by omega, rfl, rfl⟩
theorem banAll_bd (who : List Int) : ∀ (x : SC), (who.foldl banOne x).2.length ≤ x.2.length + who.length ∧ (who.foldl banOne x).1.c = x.1.c ∧ (who.foldl banOne x).1.votes.length = x.1.votes.length := by
 induction who with
 | nil => intro x; exact ⟨Nat.le_refl _, rfl, rfl⟩
 | cons k r ih =>
  intro x
  obtain ⟨a1, a2, a3⟩ := ih (banOne x k)
  obtain ⟨b1, b2, b3⟩ := banOne_bd x k
  refine ⟨?_, a2.trans b2, a3.trans b3⟩
  simp only [List.foldl_cons, List.length_cons]
  omega
def Places.foot2 (p : Places) (base lo hi : Nat) (i : Nat) : Prop := p.foot base i ∧ ¬ (lo ≤ i ∧ i < hi)
theorem ApAt.vote {w w' : World} {base : Nat} {p : Places} {x : SC} {k vk : Nat} {ch : Value} (h : ApAt w base p x k vk ch) {v' : List En} (hx : Ext (fun i => i = p.vb) w w') (hv : VotesAt w' p.vb v') (hl : v'.length = x.1.votes.length) : ApAt w' base p ({ x.1 with votes := v' }, x.2) k vk ch := by
 have hvb : p.vb < base := h.hi _ (by simp [Places.old])
 refine ⟨h.st.vote hx hv hl, own_ext h.chs hx (fun b hb e => ?_), h.hi, ?_, h.kb.trans (keepN_cells h.st.votes hx (by decide))⟩
 ·obtain ⟨ds, hd, hle⟩ := own_kind h.chs hb
  have e' : b = p.vb := e
  omega
 ·have := h.hb; have := hx.size; omega
theorem slashWho_in {c : Cf} {p : Pf} (x : Int) (hx : x ∈ slashWho c p) : 0 ≤ x ∧ x < c.bal.length := by
 unfold slashWho at hx
 split at hx
 ·next h =>
  simp only [Bool.and_eq_true] at h
  have hw := rightB_who h.1.1
  unfold bothL at hx
  obtain ⟨hm, _⟩ := List.mem_filter.1 hx
  obtain ⟨i, hi, he⟩ := List.getElem_of_mem hm
  have := whoOk_get hw hi
  rw [List.getD_eq_getElem?_getD, List.getElem?_eq_getElem hi] at this
  simp only [Option.getD_some, he] at this
  exact ⟨this.1, this.2.1⟩
 ·simp at hx
theorem slashWho_len {c : Cf} {p : Pf} : (slashWho c p).length ≤ c.bal.length := by
 unfold slashWho
 split
 ·next h =>
  simp only [Bool.and_eq_true] at h
  have := whoOk_len (rightB_who h.1.1)
  have h2 : (bothL p.a p.b).length ≤ p.a.who.length := List.length_filter_le _ _
  omega
 ·simp
theorem flat_new (w : World) (cs : List Value) (T : TypeId) : Flat (w.alloc (.cells cs.toArray T)) (some ⟨w.heap.size, 0, none⟩) cs := fun _ => ⟨_, rfl, fun j u hu => by
 rw [Addr.add_mid, blk_cell (heap_new w _), Nat.zero_add, List.getElem?_toArray]
 exact hu⟩
def OffB (ch : Value) (lo hi : Nat) : Prop := ∀ b, ch.ownBlock = some b → ¬ (lo ≤ b ∧ b < hi)
theorem foot2_has {p : Places} {base lo hi i : Nat} (h : p.has i) (hlt : i < base) (hl : base ≤ lo) : p.foot2 base lo hi i := ⟨.inl h, fun hh => by omega⟩
theorem push_all {W1 w w6 w7 : World} {base lo hi : Nat} {p : Places} {x : SC} {k vk : Nat} {ch : Value} {c : Chg} {A' : Option Addr} {c' : Nat} (hX : Ext (p.foot2 base lo hi) W1 w) (hlo : base ≤ lo) (hhi : hi ≤ W1.heap.size) (hC : OffB ch lo hi) (hA : ApAt w base p x k vk ch) (h6 : w6 = w.alloc (.cells (chgC c).toArray 140))
    (hg : w6.grownBy w7 ch.ownBlock) (hown : w7.ownsRow base 140 6 (.slice A' (x.2.length + 1) c') (x.2.length + 1) (x.2.flatMap chgC ++ chgC c)) (hnew : (Value.slice A' (x.2.length + 1) c').ownBlock = ch.ownBlock ∨ (Value.slice A' (x.2.length + 1) c').ownBlock = some w6.heap.size) :
    ApAt (w7.setCell ⟨p.sb, 13, none⟩ (.slice A' (x.2.length + 1) c')) base p (x.1, x.2 ++ [c]) k vk (.slice A' (x.2.length + 1) c') ∧ OffB (.slice A' (x.2.length + 1) c') lo hi ∧ Ext (p.foot2 base lo hi) W1 (w7.setCell ⟨p.sb, 13, none⟩ (.slice A' (x.2.length + 1) c')) := by
 have hA6 : ApAt w6 base p x k vk ch := by rw [h6]; exact hA.below (below_alloc (Below.refl _ _) _)
 have hs6 : w6.heap.size = w.heap.size + 1 := by rw [h6]; simp
 obtain ⟨h1, h2⟩ := hA6.push hg hown
 have hXs := hX.size
 refine ⟨h1, fun b hb => ?_, ?_⟩
 ·rcases hnew with e | e
  ·exact hC b (e ▸ hb)
  ·rw [e] at hb
   injection hb with hb
   omega
 ·have hX6 : Ext (p.foot2 base lo hi) W1 w6 := by rw [h6]; exact hX.alloc _
  have hX7 : Ext (p.foot2 base lo hi) W1 w7 := hX6.grown hg (fun b hb => by
   obtain ⟨ds, hd, hle⟩ := own_kind hA6.chs hb
   exact .inl ⟨.inr hle, hC b hb⟩)
  exact hX7.setCell (.inl (foot2_has (.inl rfl) (hA.hi _ (by simp [Places.old])) hlo)) _
theorem slash_calls {w : World} {base : Nat} {p : Places} {x : SC} {k vk : Nat} {ch : Value} (h : ApAt w base p x k vk ch) (hs : x.1.ok) (hn : x.2.length ≤ 1000000) (pf : Pf) (A1 : Option Addr) (k1 : Nat) (A2 : Option Addr) (k2 : Nat) (wa : pf.a.wf) (wb : pf.b.wf) (la : pf.a.who.length ≤ maxLen) (lb : pf.b.who.length ≤ maxLen) (ha : Ints anyB .i64 w A1 pf.a.who) (hb : Ints anyB .i64 w A2 pf.b.who) :
    Calls Tryz.prog 39 #[.pointer (some ⟨p.sb, 0, none⟩), .agg #[.int .i64 pf.a.slot, .int .u64 pf.a.head, .int .i64 pf.a.src.e, .int .u64 pf.a.src.r, .int .i64 pf.a.tgt.e, .int .u64 pf.a.tgt.r, .slice A1 pf.a.who.length k1, .int .i64 pf.b.slot, .int .u64 pf.b.head, .int .i64 pf.b.src.e, .int .u64 pf.b.src.r, .int .i64 pf.b.tgt.e, .int .u64 pf.b.tgt.r, .slice A2 pf.b.who.length k2]] w fun e w' => e = .returned (errV (slashE x.1 pf)) ∧ (∃ ch', ApAt w' base p (slashS x pf) k vk ch') ∧ Ext (p.foot base) w w' := by
 have hch : ∀ b, ch.ownBlock = some b → b < w.heap.size := fun b hb => own_lt h.chs b hb
 have q0 := heap_new w (.cells #[.int .i64 pf.a.slot, .int .u64 pf.a.head, .int .i64 pf.a.src.e, .int .u64 pf.a.src.r, .int .i64 pf.a.tgt.e, .int .u64 pf.a.tgt.r, .slice A1 pf.a.who.length k1, .int .i64 pf.b.slot, .int .u64 pf.b.head, .int .i64 pf.b.src.e, .int .u64 pf.b.src.r, .int .i64 pf.b.tgt.e, .int .u64 pf.b.tgt.r, .slice A2 pf.b.who.length k2] 55)
 have hb0 : Below w.heap.size w (w.alloc (.cells #[.int .i64 pf.a.slot, .int .u64 pf.a.head, .int .i64 pf.a.src.e, .int .u64 pf.a.src.r, .int .i64 pf.a.tgt.e, .int .u64 pf.a.tgt.r, .slice A1 pf.a.who.length k1, .int .i64 pf.b.slot, .int .u64 pf.b.head, .int .i64 pf.b.src.e, .int .u64 pf.b.src.r, .int .i64 pf.b.tgt.e, .int .u64 pf.b.tgt.r, .slice A2 pf.b.who.length k2] 55)) := below_alloc (Below.refl _ _) _
 have h0 := h.below hb0
 have ha0 := ha.below hb0
 have hbb0 := hb.below hb0
 clear ha hb
 go_enter Tryz.func39, Tryz.ntmps39
 go_upto_region 1 with fail
 obtain ⟨W0, hW0⟩ : ∃ W0, W0 = w.alloc (.cells #[.int .i64 pf.a.slot, .int .u64 pf.a.head, .int .i64 pf.a.src.e, .int .u64 pf.a.src.r, .int .i64 pf.a.tgt.e, .int .u64 pf.a.tgt.r, .slice A1 pf.a.who.length k1, .int .i64 pf.b.slot, .int .u64 pf.b.head, .int .i64 pf.b.src.e, .int .u64 pf.b.src.r, .int .i64 pf.b.tgt.e, .int .u64 pf.b.tgt.r, .slice A2 pf.b.who.length k2] 55) := ⟨_, rfl⟩
 rw [← hW0] at q0 hb0 h0 ha0 hbb0
 change Code.wp _ _ _ _ (w.alloc (.cells #[.int .i64 pf.a.slot, .int .u64 pf.a.head, .int .i64 pf.a.src.e, .int .u64 pf.a.src.r, .int .i64 pf.a.tgt.e, .int .u64 pf.a.tgt.r, .slice A1 pf.a.who.length k1, .int .i64 pf.b.slot, .int .u64 pf.b.head, .int .i64 pf.b.src.e, .int .u64 pf.b.src.r, .int .i64 pf.b.tgt.e, .int .u64 pf.b.tgt.r, .slice A2 pf.b.who.length k2] 55))
 rw [← hW0]
 generalize hB : w.heap.size = B at q0 hb0 ⊢
 have HB := Lib.hid hB
 have hBb : base ≤ B := by have := h.hb; omega
 clear hW0 hB
 have KJ : ∀ W, Below W0.heap.size W0 W → (W.cell? ⟨p.sb, 0, none⟩ = some (.slice (some ⟨p.bb, 0, none⟩) x.1.c.bal.length k) ∧ W.cell? ⟨p.sb, 1, none⟩ = some (.int .i64 x.1.c.slots) ∧ W.cell? ⟨p.sb, 2, none⟩ = some (.int .i64 x.1.c.boost)) ∧ (W.cell? ⟨B, 0, none⟩ = some (.int .i64 pf.a.slot) ∧ W.cell? ⟨B, 1, none⟩ = some (.int .u64 pf.a.head) ∧ W.cell? ⟨B, 2, none⟩ = some (.int .i64 pf.a.src.e) ∧ W.cell? ⟨B, 3, none⟩ = some (.int .u64 pf.a.src.r) ∧ W.cell? ⟨B, 4, none⟩ = some (.int .i64 pf.a.tgt.e) ∧ W.cell? ⟨B, 5, none⟩ = some (.int .u64 pf.a.tgt.r) ∧ W.cell? ⟨B, 6, none⟩ = some (.slice A1 pf.a.who.length k1) ∧ W.cell? ⟨B, 7, none⟩ = some (.int .i64 pf.b.slot) ∧ W.cell? ⟨B, 8, none⟩ = some (.int .u64 pf.b.head) ∧ W.cell? ⟨B, 9, none⟩ = some (.int .i64 pf.b.src.e) ∧ W.cell? ⟨B, 10, none⟩ = some (.int .u64 pf.b.src.r) ∧ W.cell? ⟨B, 11, none⟩ = some (.int .i64 pf.b.tgt.e) ∧ W.cell? ⟨B, 12, none⟩ = some (.int .u64 pf.b.tgt.r) ∧ W.cell? ⟨B, 13, none⟩ = some (.slice A2 pf.b.who.length k2)) := fun W hW => by
  obtain ⟨c0, c1, c2, _⟩ := (h0.st.below hW).cells
  exact ⟨⟨c0, c1, c2⟩, cs14 (blk_below q0 hW)⟩
 have cW : ∀ (W : World), Below W0.heap.size W0 W → Calls Tryz.prog 67 #[cfC x.1.c (some ⟨p.bb, 0, none⟩) k, .agg #[.int .i64 pf.a.slot, .int .u64 pf.a.head, .int .i64 pf.a.src.e, .int .u64 pf.a.src.r, .int .i64 pf.a.tgt.e, .int .u64 pf.a.tgt.r, .slice A1 pf.a.who.length k1, .int .i64 pf.b.slot, .int .u64 pf.b.head, .int .i64 pf.b.src.e, .int .u64 pf.b.src.r, .int .i64 pf.b.tgt.e, .int .u64 pf.b.tgt.r, .slice A2 pf.b.who.length k2]] W fun e w' => ∃ A c, e = .returned (.tuple #[.slice A (slashWho x.1.c pf).length c, errV (slashE x.1 pf)]) ∧ Ints (fun b => W.heap.size ≤ b) .i64 w' A (slashWho x.1.c pf) ∧ Below W.heap.size W w' := fun (W : World) (hW : Below W0.heap.size W0 W) => Who_calls W x.1.c (some ⟨p.bb, 0, none⟩) k pf A1 k1 A2 k2 hs.c wa wb la lb (ha0.below hW) (hbb0.below hW)
 have hD : Below W0.heap.size W0 W0.drew := (Below.refl _ _).drew
 obtain ⟨L, hL⟩ : ∃ L, L = slashWho x.1.c pf := ⟨_, rfl⟩
 rw [← hL] at cW
 have hLl : L.length ≤ 4096 := by rw [hL]; exact Nat.le_trans slashWho_len hs.c.l2
 have HIn : Hid (∀ k ∈ L, 0 ≤ k ∧ k < x.1.c.bal.length) := fun k hk => slashWho_in k (hL ▸ hk)
 have HS : Hid (slashS x pf = L.foldl banOne x) := by show _ = _; rw [hL]; rfl
 obtain ⟨ER, hER⟩ : ∃ ER, ER = errV (slashE x.1 pf) := ⟨_, rfl⟩
 rw [← hER] at cW
 have HER := Lib.hid hER
 clear hL hER
 go_region_held3 (fun w' => (w'.cell? ⟨p.sb, 0, none⟩ = some (.slice (some ⟨p.bb, 0, none⟩) x.1.c.bal.length k) ∧ w'.cell? ⟨p.sb, 1, none⟩ = some (.int .i64 x.1.c.slots) ∧ w'.cell? ⟨p.sb, 2, none⟩ = some (.int .i64 x.1.c.boost)) ∧ (w'.cell? ⟨B, 0, none⟩ = some (.int .i64 pf.a.slot) ∧ w'.cell? ⟨B, 1, none⟩ = some (.int .u64 pf.a.head) ∧ w'.cell? ⟨B, 2, none⟩ = some (.int .i64 pf.a.src.e) ∧ w'.cell? ⟨B, 3, none⟩ = some (.int .u64 pf.a.src.r) ∧ w'.cell? ⟨B, 4, none⟩ = some (.int .i64 pf.a.tgt.e) ∧ w'.cell? ⟨B, 5, none⟩ = some (.int .u64 pf.a.tgt.r) ∧ w'.cell? ⟨B, 6, none⟩ = some (.slice A1 pf.a.who.length k1) ∧ w'.cell? ⟨B, 7, none⟩ = some (.int .i64 pf.b.slot) ∧ w'.cell? ⟨B, 8, none⟩ = some (.int .u64 pf.b.head) ∧ w'.cell? ⟨B, 9, none⟩ = some (.int .i64 pf.b.src.e) ∧ w'.cell? ⟨B, 10, none⟩ = some (.int .u64 pf.b.src.r) ∧ w'.cell? ⟨B, 11, none⟩ = some (.int .i64 pf.b.tgt.e) ∧ w'.cell? ⟨B, 12, none⟩ = some (.int .u64 pf.b.tgt.r) ∧ w'.cell? ⟨B, 13, none⟩ = some (.slice A2 pf.b.who.length k2)))
  (first | (with_reducible exact KJ _ hD) | (with_reducible exact KJ _ (by assumption)))
  (first | (go_at_call 67; refine (cW _ hD).mono ?_; rintro e w1 ⟨Aw, cw, rfl, hI', hb1'⟩; have hb1 := hD.trans (hb1'.mono hD.size)))
 have hBw : w.heap.size ≤ W0.heap.size := by rw [HB.out]; exact Nat.le_of_lt (blk_lt q0)
 have hbw1 : Below w.heap.size w w1 := (HB.out ▸ hb0).trans (hb1.mono hBw)
 have HI : Hid (Ints (fun b => W0.heap.size ≤ b ∧ b < w1.heap.size) .i64 w1 Aw L) := Lie.lt hI' (by decide)
 have h1 := h0.below hb1
 have hlo : base ≤ W0.heap.size ∧ W0.heap.size ≤ w1.heap.size := ⟨by have := h.hb; omega, hb1.size⟩
 clear KJ cW q0 ha0 hbb0 hD hI' hb1'
 go_wp2
 go_loopw [22] (fun i wr => ∃ (j : Nat) (chj : Value), j ≤ L.length ∧ i = .int .i64 j ∧ Hid (ApAt wr base p ((L.take j).foldl banOne x) k vk chj) ∧ Hid (OffB chj W0.heap.size w1.heap.size) ∧ Hid (Ext (p.foot2 base W0.heap.size w1.heap.size) w1 wr)) (fun i _ => L.length - (intOf i).toNat)
 case atStart => exact ⟨0, ch, Nat.zero_le _, rfl, h1, fun b hb hc => by have := hch b hb; omega, Ext.refl _ _⟩
 case round =>
  obtain ⟨j, chj, hj, rfl, HA, HC, HX⟩ := hrel
  by_cases hlt : j < L.length
  ·obtain ⟨b, o, rfl, hbk, hc⟩ := (HI.out.keep HX.out (fun i hi hf => hf.2 hi)).get hlt
   have HT : Hid ((L.take (j + 1)).foldl banOne x = banOne ((L.take j).foldl banOne x) (L.getD j 0)) := by
    show _ = _
    rw [foldl_snoc _ _ _ _ hlt, List.getD_eq_getElem?_getD, List.getElem?_eq_getElem hlt]; rfl
   have hkk : 0 ≤ L.getD j 0 ∧ L.getD j 0 < x.1.c.bal.length := HIn.out _ (by rw [List.getD_eq_getElem?_getD, List.getElem?_eq_getElem hlt]; exact List.getElem_mem hlt)
   obtain ⟨g1, g2, g3⟩ := banAll_bd (L.take j) x
   rw [List.length_take] at g1
   generalize (L.take j).foldl banOne x = X at HA HT g1 g2 g3
   generalize L.getD j 0 = kk at hc HT hkk
   have hvl : X.1.votes.length ≤ 4096 := by rw [g3, hs.vl]; exact hs.c.l2
   have hki : inI kk := by have := hs.c.l2; unfold inI; omega
   obtain ⟨_, _, _, _, c4, _, _, _, _, _, _, _, _, c13⟩ := HA.out.st.cells
   have cG := VGet_calls HA.out.st.votes vk kk hki hvl
   have cB := VBan_calls HA.out.st.votes vk kk hki hvl
   have hsbv : p.sb ≠ p.vb := HA.out.st.ne.1.2.2.1
   have hvb : Hid (p.foot2 base W0.heap.size w1.heap.size p.vb) := foot2_has (by simp [Places.has]) (h.hi _ (by simp [Places.old])) hlo.1
   have hxl : X.2.length ≤ 1010000 := by omega
   clear g1 g2 g3 hkk
   cases hban : bans X.1.votes kk with
   | false =>
    rw [hban] at cB
    have HBn := Lib.hid hban
    go_wp2_with (first
     | (go_at_call 65; refine cG.mono ?_; rintro e w4 ⟨rfl, rfl⟩)
     | (go_at_call 68; refine cB.mono ?_; rintro e w5 ⟨rfl, hv5, hx5⟩))
    go_roundw
    case rel =>
     have e : banV X.1.votes kk = X.1.votes := by rw [banV, HBn.out]; rfl
     rw [e] at hv5
     refine ⟨j + 1, chj, by omega, by go_num, ?_, HC, HX.out.trans hx5 (fun i _ hi => by have e : i = p.vb := hi; subst e; exact hvb.out)⟩
     show ApAt _ _ _ _ _ _ _
     rw [HT.out, banOne, HBn.out]
     exact HA.out.vote hx5 hv5 rfl
    case measure => simp [intOf]; omega
   | true =>
    rw [hban] at cB
    have HBn := Lib.hid hban
    go_upto_region 7 with (first
     | (go_at_call 65; refine cG.mono ?_; rintro e w4 ⟨rfl, rfl⟩)
     | (go_at_call 68; refine cB.mono ?_; rintro e w5 ⟨rfl, hv5, hx5⟩))
    obtain ⟨cc, hcc⟩ : ∃ cc : Chg, cc = ⟨2, 0, 0, kk, (getV X.1.votes kk).1, (getV X.1.votes kk).2⟩ := ⟨_, rfl⟩
    have hA5 := HA.out.vote hx5 hv5 (banV_length _ _)
    have hX5 := Lib.hid (HX.out.trans hx5 (fun i _ hi => by have e : i = p.vb := hi; subst e; exact hvb.out))
    have hA6 := hA5.below (below_alloc (Below.refl _ _) (.cells (chgC cc).toArray 140))
    obtain ⟨_, _, _, _, _, _, _, _, _, _, _, _, _, d13⟩ := hA5.st.cells
    have HCC := Lib.hid hcc
    have hfl := flat_new w5 (chgC cc) 140
    have hbnd : (X.2.length + 1) * 48 ≤ 140737488355328 := by omega
    have hbnd2 : X.2.length + 1 ≤ 140737488355328 := by omega
    have HOw := Lib.hid hA6.chs
    have hb6 := hA6.hb
    have hsz6 : (w5.alloc (.cells (chgC cc).toArray 140)).heap.size = w5.heap.size + 1 := by simp
    clear hx5 hv5 c4 c13 cG cB
    rw [hcc] at hfl HOw hb6 hsz6
    simp only [chgC] at hfl hb6 hsz6
    go_wp2_with (at_builtin; refine wpList_app base rfl (.tmp 45) (.tmp 50) 41 140 (.agg #[.int .i64 0, .int .u64 0, .int .u64 0, .int .i64 0, .int .u64 0, .bool false]) 6 48 rfl Tryz.underlying41 infoChg rfl (by decide) chj X.2.length _ rfl HOw.out (some ⟨w5.heap.size, 0, none⟩) 1 1 _ rfl rfl hfl (chgC_one ⟨2, 0, 0, kk, (getV X.1.votes kk).1, (getV X.1.votes kk).2⟩) hbnd hbnd2 hb6 ?_; intro A7 k7 w7 hown hg hnew; have hA7 := (hA6.grown (by rw [HCC.out]; exact hg)).1; obtain ⟨_, _, _, _, _, _, _, _, _, _, _, _, _, e13⟩ := hA7.cells; have ez := blk_frozen hA7.blk 13)
    go_roundw
    case rel =>
     obtain ⟨r1, r2, r3⟩ := push_all (w6 := w5.alloc (.cells (chgC cc).toArray 140)) hX5.out hlo.1 (Nat.le_refl _) HC.out hA5 rfl (by rw [HCC.out]; exact hg) (by rw [HCC.out]; exact hown) (by rw [HCC.out]; exact hnew)
     refine ⟨j + 1, _, by omega, by go_num, ?_, r2, r3⟩
     show ApAt _ _ _ _ _ _ _
     rw [HT.out, banOne, HBn.out]
     rw [HCC.out] at r1
     exact r1
    case measure => simp [intOf]; omega
  ·obtain rfl : j = L.length := by omega
   rw [List.take_length] at HA
   go_wp2
   go_ret
   exact ⟨by rw [← HER.out]; rfl, ⟨chj, by rw [HS.out]; exact HA.out⟩, (Ext.of_below hbw1).trans HX.out (fun i _ hi => hi.1)⟩
end Go.Proofs.YtnppimhlfcjghaaGreat
