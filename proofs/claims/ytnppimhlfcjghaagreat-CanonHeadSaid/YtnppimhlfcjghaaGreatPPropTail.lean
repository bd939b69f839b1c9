import Derived.Test.YtnppimhlfcjghaaGreatPOpsK
import Derived.Test.YtnppimhlfcjghaaGreatPPmOk
import Derived.Test.YtnppimhlfcjghaaGreatPRaise
import Derived.Test.YtnppimhlfcjghaaGreatPSteps
import Derived.Test.YtnppimhlfcjghaaGreatPCount
import Derived.Test.YtnppimhlfcjghaaGreatPAdv2
import Derived.Deep.CutBlock
import Derived.Deep.RegionWith
set_option linter.all false
set_option linter.unusedVariables false
set_option linter.unusedSimpArgs false
namespace Go.Proofs.YtnppimhlfcjghaaGreat
open Go.RowKit
set_option maxRecDepth 100000
set_option maxHeartbeats 40000000
theorem cs5 {w : World} {b : Nat} {T : TypeId} {f : Nat × Nat} {a0 a1 a2 a3 a4 : Value} (h : w.heap[b]? = some (.cells #[a0, a1, a2, a3, a4] T f)) : w.cell? ⟨b, 0, none⟩ = some a0 ∧ w.cell? ⟨b, 1, none⟩ = some a1 ∧ w.cell? ⟨b, 2, none⟩ = some a2 ∧ w.cell? ⟨b, 3, none⟩ = some a3 ∧ w.cell? ⟨b, 4, none⟩ = some a4 :=
 ⟨blk_cell h 0, blk_cell h 1, blk_cell h 2, blk_cell h 3, blk_cell h 4⟩
theorem ApAt.addT {w w' : World} {base : Nat} {p : Places} {x : SC} {k vk : Nat} {ch : Value} (h : ApAt w base p x k vk ch) {t' : Tr} (hx : Ext (fun i => i = p.nb) w w') (hT : TreeAt w' p.tb p.nb t') : ApAt w' base p ({ x.1 with tree := t' }, x.2) k vk ch := by
 obtain ⟨⟨_, n1, _, _, _, _⟩, _, ⟨n3, n4, n5, n6⟩, _⟩ := h.st.ne
 have hs := hx.size
 have hb := h.hb
 exact ⟨⟨blk_ext h.st.blk hx n1, h.st.bal.keep hx (fun i e e2 => n6 (e2.symm.trans e)), hT, h.st.votes.ext hx (Ne.symm n3), h.st.led.ext hx (Ne.symm n4) (keep_map' h.st.tree.map hx), h.st.gone.ext hx (Ne.symm n5), h.st.nd⟩, own_map h.chs h.st.tree.map hx, h.hi, by omega, h.kb.trans (keepN_map h.st.tree.map hx)⟩
theorem StoreAt.cells_ext {w w' : World} {p : Places} {s : St} {k vk : Nat} {ch : Value} {F : Nat → Prop} (h : StoreAt w p s k vk ch) (hx : Ext F w w') (hF : ¬ F p.sb) : (w'.cell? ⟨p.sb, 0, none⟩ = some (.slice (some ⟨p.bb, 0, none⟩) s.c.bal.length k) ∧ w'.cell? ⟨p.sb, 1, none⟩ = some (.int .i64 s.c.slots) ∧ w'.cell? ⟨p.sb, 2, none⟩ = some (.int .i64 s.c.boost) ∧ w'.cell? ⟨p.sb, 3, none⟩ = some (.pointer (some ⟨p.tb, 0, none⟩)) ∧ w'.cell? ⟨p.sb, 4, none⟩ = some (.slice (some ⟨p.vb, 0, none⟩) s.votes.length vk) ∧ w'.cell? ⟨p.sb, 5, none⟩ = some (.int .i64 s.slot) ∧ w'.cell? ⟨p.sb, 6, none⟩ = some (.int .u64 s.boosted) ∧ w'.cell? ⟨p.sb, 7, none⟩ = some (.int .i64 s.just.e) ∧ w'.cell? ⟨p.sb, 8, none⟩ = some (.int .u64 s.just.r) ∧ w'.cell? ⟨p.sb, 9, none⟩ = some (.int .i64 s.fin.e) ∧ w'.cell? ⟨p.sb, 10, none⟩ = some (.int .u64 s.fin.r) ∧ w'.cell? ⟨p.sb, 11, none⟩ = some (.map (some p.lb)) ∧ w'.cell? ⟨p.sb, 12, none⟩ = some (.map (some p.gb)) ∧ w'.cell? ⟨p.sb, 13, none⟩ = some (ch)) := by
 have hb := blk_ext h.blk hx hF
 exact cs14 hb
theorem zBl (W : World) : (zeroValue 4).run Tryz.prog W = .ok (.bool false) W := by kernel_rfl
theorem look_gone {w : World} {p : Places} {s : St} {k vk : Nat} {ch : Value} (h : StoreAt w p s k vk ch) (r : Int) : (Instr.lookup 40 (.map (some p.gb)) (.int .u64 r) false).run Tryz.prog w = .ok (.bool ((lk s.gone r).getD false)) w := by
 rw [run_look h.gone Tryz.underlying40 Tryz.underlying23 (zBl w) r false]
 unfold goneKV
 rw [lk_map]
 cases lk s.gone r <;> rfl
theorem look_led {w : World} {p : Places} {s : St} {k vk : Nat} {ch : Value} (h : StoreAt w p s k vk ch) {r : Int} {l : Ls} (hl : lk s.ledgers r = some l) : ∃ A k A2 k2, (∀ w', Below w.heap.size w w' → (Instr.lookup 39 (.map (some p.lb)) (.int .u64 r) false).run Tryz.prog w' = .ok (.agg #[.bool l.j.b0, .bool l.j.b1, .bool l.j.b2, .bool l.j.b3, .int .i64 l.j.prev.e, .int .u64 l.j.prev.r, .int .i64 l.j.cur.e, .int .u64 l.j.cur.r, .int .i64 l.j.fin.e, .int .u64 l.j.fin.r, .int .i64 l.epoch, .slice A l.before.length k, .slice A2 l.now.length k2]) w') ∧ LsR w l A A2 := by
 obtain ⟨kvs, hm, hr⟩ := h.led
 rcases hr.lk r with ⟨e, _⟩ | ⟨x, y, e1, e2, hxy⟩
 ·rw [hl] at e; cases e
 ·rw [hl] at e1
  injection e1 with e1
  subst e1
  obtain ⟨A, k, A2, k2, rfl, hR⟩ := hxy
  refine ⟨A, k, A2, k2, fun w' hb => ?_, hR⟩
  rw [run_look (hm.below hb) Tryz.underlying39 Tryz.underlying23 (zLs w') r false, e2]
  rfl
theorem ls_leaf {W13 W w' : World} {Bl : Nat} {cs : Array Value} {L1 : Ls} {A A2 : Option Addr} {k k2 : Nat} (hb : Below W13.heap.size W13 W) (hq : W.heap[Bl]? = some (.cells cs 99 (0, 0))) (hBl : W13.heap.size ≤ Bl) (hr : LsR W L1 A A2)
    (hq' : w'.heap[Bl]? = some (.cells #[.bool L1.j.b0, .bool L1.j.b1, .bool L1.j.b2, .bool L1.j.b3, .int .i64 L1.j.prev.e, .int .u64 L1.j.prev.r, .int .i64 L1.j.cur.e, .int .u64 L1.j.cur.r, .int .i64 L1.j.fin.e, .int .u64 L1.j.fin.r, .int .i64 L1.epoch, .slice A L1.before.length k, .slice A2 L1.now.length k2] 99 (0, 0))) (hx : Ext (fun i => i = Bl) W w') :
    ∃ Bl' A' k' A2' k2', Value.pointer (some ⟨Bl, 0, none⟩) = .pointer (some ⟨Bl', 0, none⟩) ∧ W13.heap.size ≤ Bl' ∧ w'.heap[Bl']? = some (.cells #[.bool L1.j.b0, .bool L1.j.b1, .bool L1.j.b2, .bool L1.j.b3, .int .i64 L1.j.prev.e, .int .u64 L1.j.prev.r, .int .i64 L1.j.cur.e, .int .u64 L1.j.cur.r, .int .i64 L1.j.fin.e, .int .u64 L1.j.fin.r, .int .i64 L1.epoch, .slice A' L1.before.length k', .slice A2' L1.now.length k2'] 99 (0, 0)) ∧ Hid (LsR w' L1 A' A2') ∧ Hid (Below W13.heap.size W13 w') :=
 ⟨Bl, A, k, A2, k2, rfl, hBl, hq', hr.ext hx hq (by decide), below_ext hb hx (Nat.le_refl _) hBl⟩
theorem attestS_len {x : SC} (h : x.1.ok) (v : Vt) (i : Bool) : (attestS x v i).2.length ≤ x.2.length + 4096 := by
 unfold attestS
 split
 ·rename_i he
  have h1 := (rightB_epoch (attestE_right he).1).2.2.2.2.2
  have h2 := whoOk_len h1
  have h3 := h.c.l2
  have := (moveAll_bd v.tgt.e v.head v.who x).1
  omega
 ·omega
theorem slashS_len {x : SC} (h : x.1.ok) (p : Pf) : (slashS x p).2.length ≤ x.2.length + 4096 := by
 have h2 := slashWho_len (c := x.1.c) (p := p)
 have h3 := h.c.l2
 have := (banAll_bd (slashWho x.1.c p) x).1
 unfold slashS
 omega
theorem attests_len (i : Bool) (vs : List Vt) : ∀ (x : SC), x.1.ok → (∀ v ∈ vs, v.wf) → (vs.foldl (fun x v => attestS x v i) x).2.length ≤ x.2.length + vs.length * 4096 := by
 induction vs with
 | nil => intro x _ _; simp
 | cons v r ih =>
  intro x h hw
  have h1 := attestS_len h v i
  have h2 := ih _ (ok_attest h (hw v (List.mem_cons_self ..)) i) (fun v hv => hw v (List.mem_cons_of_mem _ hv))
  simp only [List.foldl_cons, List.length_cons]
  omega
theorem slashes_len (ps : List Pf) : ∀ (x : SC), x.1.ok → (ps.foldl slashS x).2.length ≤ x.2.length + ps.length * 4096 := by
 induction ps with
 | nil => intro x _; simp
 | cons p r ih =>
  intro x h
  have h1 := slashS_len h p
  have h2 := ih _ (ok_slash h p)
  simp only [List.foldl_cons, List.length_cons]
  omega
theorem raiseS_len (x : SC) (j f : Pt) : (raiseS x j f).2.length ≤ x.2.length + 1 := by
 unfold raiseS
 simp only
 split
 ·show x.2.length ≤ x.2.length + 1
  omega
 ·simp
theorem foot_nb {p : Places} {base nb' i : Nat} (hn : nb' = p.nb ∨ base ≤ nb') (h : { p with nb := nb' }.foot base i) : p.foot base i := by
 rcases h with h | h
 ·rcases h with h | h | h | h | h | h
  ·exact .inl (.inl h)
  ·exact .inl (.inr (.inl h))
  ·have h1' : i = nb' := h
   rcases hn with hn | hn
   ·exact .inl (.inr (.inr (.inl (h1'.trans hn))))
   ·exact .inr (by omega)
  ·exact .inl (.inr (.inr (.inr (.inl h))))
  ·exact .inl (.inr (.inr (.inr (.inr (.inl h)))))
  ·exact .inl (.inr (.inr (.inr (.inr (.inr h)))))
 ·exact .inr h
theorem ApAt.boost {w : World} {base : Nat} {p : Places} {x : SC} {k vk : Nat} {ch : Value} (h : ApAt w base p x k vk ch) (r : Int) : ApAt (w.setCell ⟨p.sb, 6, none⟩ (.int .u64 r)) base p ({ x.1 with boosted := r }, x.2) k vk ch ∧ Ext (p.foot base) w (w.setCell ⟨p.sb, 6, none⟩ (.int .u64 r)) := by
 have hx : Ext (fun i => i = p.sb) w (w.setCell ⟨p.sb, 6, none⟩ (.int .u64 r)) := (Ext.refl _ _).set1
 have hsb := h.hi p.sb (by simp [Places.old])
 refine ⟨⟨h.st.cell hx (blk_set h.st.blk 6 _) rfl rfl rfl rfl rfl, own_ext h.chs hx (fun b hb e => ?_), h.hi, by have := h.hb; have := hx.size; omega, h.kb.trans (keepN_cells h.st.blk hx (by decide))⟩, hx.mono (fun i _ e => ?_)⟩
 ·obtain ⟨ds, hd, hle⟩ := own_kind h.chs hb
  have e' : b = p.sb := e
  omega
 ·have e' : i = p.sb := e
  exact .inl (.inl e')
theorem chain_calls2 (w : World) {sb : Nat} {r : Int} :
    Calls Tryz.prog 55 #[.pointer (some ⟨sb, 0, none⟩), .int .u64 r] w fun e w' => e = .returned (.func (.func 78) #[] (chainV w.heap.size (w.heap.size + 1))) ∧ (∃ T1, (T1 ≠ 140 ∧ T1 ≠ 43 ∧ T1 ≠ 120 ∧ T1 ≠ 114) ∧ w'.heap[w.heap.size]? = some (.cells #[.pointer (some ⟨sb, 0, none⟩)] T1 (0, 0))) ∧ w'.heap[w.heap.size + 1]? = some (.cells #[.int .u64 r] 23 (0, 0)) ∧ w'.heap.size = w.heap.size + 2 ∧ Below w.heap.size w w' := by
 go_enter Tryz.func55, Tryz.ntmps55
 go_wp2
 go_ret
 exact ⟨rfl, ⟨_, by decide, (alloc2 w _ _).1⟩, (alloc2 w _ _).2.1, by simp, (alloc2 w _ _).2.2.1⟩
def propR (s : St) (b : Bk) : SC := if proposeE s b = 0 then proposeS s b else (s, [])
def sndSeq : Code → Code
 | .seq _ b => b
 | c => c
theorem propose_tail {w W20 : World} {base B Bl S12 k vk : Nat} {p p20 : Places} {s sA : St} {b : Bk} {A1 A2 Aj A2j : Option Addr} {k1 k2 kj k2j : Nat} {lj : Ls} {x0 : SC} {ch12 : Value} {caps : Array Value} {T1 : TypeId} {y1 y2 y4 y5 y8 y9 y10 y11 y12 y13 y14 y15 y16 y17 y18 y19 y20 y21 y22 y23 y24 y25 y26 y27 y28 y29 y30 y31 y32 y33 y34 y35 y36 y37 y38 y39 y40 y41 y42 y43 y44 y45 y46 y47 y48 y49 y50 y51 y52 y53 y54 y55 y56 y57 y58 y59 y60 y61 y62 y63 y64 y65 y66 y67 y68 y69 y70 y71 y72 y73 y74 y75 y76 y77 y78 y79 y80 y81 y82 y83 y84 y85 y86 y87 y88 y89 y90 y91 y92 y93 y94 y95 y96 y97 y98 y99 y100 y101 y102 y103 y104 y105 y106 y107 y108 y109 y110 y111 y112 y113 y114 y115 y116 y117 y118 y119 y120 y121 y122 y123 y124 y125 y126 y127 y128 y129 y130 y131 y132 y133 y134 y135 y136 y137 y138 y139 y140 y141 y142 y143 y144 y145 y146 y147 y148 y149 y150 y151 y152 y153 y154 y155 y156 y157 y158 y159 y160 y161 y162 y163 y164 y165 y166 y167 y168 y169 y170 y171 y172 y173 y174 y175 y176 y177 y178 y179 y180 y181 y182 y183 y184 y185 y186 y187 y188 y189 y190 y191 y192 y193 y194 y195 y196 y197 y198 y199 y200 y201 y202 y203 : Value}
    (hs : s.ok) (hw1 : 0 ≤ b.root) (hw1' : b.root ≤ 18446744073709551615) (hw2 : inU b.parent) (hw3 : inI b.slot) (HW4 : Hid (∀ v ∈ b.votes, v.wf)) (HW5 : Hid (∀ q ∈ b.proofs, q.wf)) (HE0 : Hid (proposeE s b = 0)) (hbs0 : 0 ≤ b.slot) (hbs1 : b.slot ≤ 1099511627776) (e3 : ¬ 16 < b.votes.length) (e4 : ¬ 16 < b.proofs.length)
    (h20' : ApAt W20 base p20 x0 k vk ch12) (HPsb : Hid (p20.sb = p.sb)) (HPw : Hid (p20.w0 = W20)) (HPf : Hid (p20.foot base = p.foot base)) (HPr : Hid (p20.free base = p.free base)) (HPn : Hid (p20.nb = p.nb)) (HPb : Hid (∀ nb, ({ ({ p20 with nb := nb } : Places) with w0 := p.w0 } : Places) = { p with nb := nb })) (HKp : Hid (KeepN p.w0 W20))
    (HQa : Hid (W20.heap[S12]? = some (.cells #[.pointer (some ⟨p.sb, 0, none⟩)] T1 (0, 0)))) (HQb : Hid (W20.heap[S12 + 1]? = some (.cells #[.int .u64 b.root] 23 (0, 0)))) (HQl : Hid (W20.heap[Bl]? = some (.cells #[.bool lj.j.b0, .bool lj.j.b1, .bool lj.j.b2, .bool lj.j.b3, .int .i64 lj.j.prev.e, .int .u64 lj.j.prev.r, .int .i64 lj.j.cur.e, .int .u64 lj.j.cur.r, .int .i64 lj.j.fin.e, .int .u64 lj.j.fin.r, .int .i64 lj.epoch, .slice Aj lj.before.length kj, .slice A2j lj.now.length k2j] 99 (0, 0)))) (HQ : Hid (W20.heap[B]? = some (.cells #[.int .u64 b.root, .int .u64 b.parent, .int .i64 b.slot, .slice A1 b.votes.length k1, .slice A2 b.proofs.length k2] 50 (0, 0)))) (HR20 : Hid (LsR W20 lj Aj A2j)) (HXw : Hid (Ext (p.foot base) w W20))
    (HP1 : Hid (prop1 s b = b.votes.foldl (fun x v => attestS x v true) x0)) (HX0ok : Hid x0.1.ok) (HX0l : Hid (x0.2.length = 1)) (HV20 : Hid (Vts (p.free base) W20 A1 b.votes)) (HP20 : Hid (Pfs (p.free base) W20 A2 b.proofs)) (HT1 : Hid (T1 ≠ 140 ∧ T1 ≠ 43 ∧ T1 ≠ 120 ∧ T1 ≠ 114)) (HCaps : Hid (caps = chainV S12 (S12 + 1))) (HCA : Hid (sA.c = s.c)) (HLPj : Hid (ledgerP s b = lj)) (HOkj : Hid (LsOk sA.c.bal.length lj)) :
    Code.wp Tryz.prog (sndSeq (sndSeq (sndSeq (sndSeq (sndSeq (sndSeq (sndSeq (sndSeq ((Tryz.f37.body).getD .skip))))))))) (bodyPost Tryz.prog Tryz.f37 fun e w' => e = .returned (errV (proposeE s b)) ∧ (∃ nb', p.NbOk base nb' ∧ ∃ ch', ApAt w' base { p with nb := nb' } (propR s b) k vk ch') ∧ Ext (p.foot base) w w') { tmps := #[.pointer (some ⟨p.sb, 0, none⟩), y1, y2, .pointer (some ⟨B, 0, none⟩), y4, y5, .func (.func 78) #[] caps, .pointer (some ⟨Bl, 0, none⟩), y8, y9, y10, y11, y12, y13, y14, y15, y16, y17, y18, y19, y20, y21, y22, y23, y24, y25, y26, y27, y28, y29, y30, y31, y32, y33, y34, y35, y36, y37, y38, y39, y40, y41, y42, y43, y44, y45, y46, y47, y48, y49, y50, y51, y52, y53, y54, y55, y56, y57, y58, y59, y60, y61, y62, y63, y64, y65, y66, y67, y68, y69, y70, y71, y72, y73, y74, y75, y76, y77, y78, y79, y80, y81, y82, y83, y84, y85, y86, y87, y88, y89, y90, y91, y92, y93, y94, y95, y96, y97, y98, y99, y100, y101, y102, y103, y104, y105, y106, y107, y108, y109, y110, y111, y112, y113, y114, y115, y116, y117, y118, y119, y120, y121, y122, y123, y124, y125, y126, y127, y128, y129, y130, y131, y132, y133, y134, y135, y136, y137, y138, y139, y140, y141, y142, y143, y144, y145, y146, y147, y148, y149, y150, y151, y152, y153, y154, y155, y156, y157, y158, y159, y160, y161, y162, y163, y164, y165, y166, y167, y168, y169, y170, y171, y172, y173, y174, y175, y176, y177, y178, y179, y180, y181, y182, y183, y184, y185, y186, y187, y188, y189, y190, y191, y192, y193, y194, y195, y196, y197, y198, y199, y200, y201, y202, y203], defers := [] } W20 := by
 conv in (sndSeq _) => simp only [Tryz.f37, sndSeq, Option.getD_some]
 obtain ⟨-, -, -, d3, d4⟩ := cs5 HQ.out
 go_upto_block 3 with fail
 clear d3
 go_cut [] (fun w' => ∃ ch1, ApAt w' base p20 (prop1 s b) k vk ch1 ∧ Ext (p.foot base) W20 w')
 case first =>
  have HA0 := Lib.hid h20'
  clear h20' d4
  go_wp2
  go_loopw [126] (fun i wr => ∃ (j : Nat) (xj : SC) (chj : Value), j ≤ b.votes.length ∧ i = .int .i64 j ∧ Hid (xj = (b.votes.take j).foldl (fun x v => attestS x v true) x0) ∧ Hid (ApAt wr base p20 xj k vk chj) ∧ Hid (Ext (p.foot base) W20 wr)) (fun i _ => b.votes.length - (intOf i).toNat)
  case atStart => exact ⟨0, x0, ch12, Nat.zero_le _, rfl, rfl, HA0.out, Ext.refl _ _⟩
  case round =>
   obtain ⟨j, xj, chj, hj, rfl, HXj, HAj, HEj⟩ := hrel
   by_cases hlt : j < b.votes.length
   ·obtain ⟨v, hx⟩ : ∃ v, b.votes[j]? = some v := ⟨_, List.getElem?_eq_getElem hlt⟩
    have hvr : Vts (p.free base) wr A1 b.votes := HV20.out.mono (fun _ h => h) (fun i hi hlt' => HEj.out.block i hlt' hi)
    obtain ⟨bb, o, rfl, _, A3, c3, hf, hi, hc⟩ := hvr.get hx
    have HWv : Hid v.wf := HW4.out v (List.mem_of_getElem? hx)
    have HT : Hid ((b.votes.take (j + 1)).foldl (fun x v => attestS x v true) x0 = attestS xj v true) := by
     show _ = _
     rw [HXj.out, foldl_snoc _ _ _ _ hlt]
     have : b.votes[j] = v := by have := hx; rw [List.getElem?_eq_getElem hlt] at this; injection this
     rw [this]
    have HOkx : Hid xj.1.ok := by
     rw [HXj.out]
     exact ok_attests true _ _ HX0ok.out (fun v hv => HW4.out v (List.mem_of_mem_take hv))
    have HLnx : Hid (xj.2.length ≤ 1000000) := by
     have a := attests_len true (b.votes.take j) x0 HX0ok.out (fun v hv => HW4.out v (List.mem_of_mem_take hv))
     have a2 := HX0l.out
     rw [List.length_take] at a
     show _ ≤ _
     rw [HXj.out]
     omega
    have hI : Ints (p20.free base) .i64 wr A3 v.who := by rw [HPr.out]; exact hi
    clear hx hvr hi
    obtain ⟨hc0, hc1, hc2, hc3, hc4, hc5, hc6⟩ := hc
    have hbv : Below wr.heap.size wr (wr.alloc (.cells #[.int .i64 v.slot, .int .u64 v.head, .int .i64 v.src.e, .int .u64 v.src.r, .int .i64 v.tgt.e, .int .u64 v.tgt.r, .slice A3 v.who.length c3] 53)) := below_alloc (Below.refl _ _) _
    have cAt := attest_calls (HAj.out.below hbv) HOkx.out HLnx.out v A3 c3 HWv.out hf.2 (hI.below hbv) true
    rw [HPsb.out] at cAt
    have HBv := Lib.hid hbv
    clear hbv hI
    go_wp2_with (go_at_call 38; refine cAt.mono ?_; rintro e w5 ⟨rfl, ⟨ch5, hA5⟩, hx5⟩)
    go_roundw
    case rel =>
     refine ⟨j + 1, attestS xj v true, ch5, by omega, by go_num, HT.out.symm, hA5, (HEj.out.thenBelow HBv.out).trans hx5 (fun i _ h => HPf.out ▸ h)⟩
    case measure => simp [intOf]; omega
   ·obtain rfl : j = b.votes.length := by omega
    rw [List.take_length] at HXj
    go_wp2
    go_meet
    case rel =>
     refine ⟨chj, ?_, HEj.out⟩
     rw [HP1.out, ← HXj.out]
     exact HAj.out
 case rest =>
  obtain ⟨ch1, hA1, hEx1⟩ := hcut
  obtain ⟨W25, rfl⟩ : ∃ W25 : World, W25 = wc := ⟨_, rfl⟩
  have HEx1 := Lib.hid hEx1
  have hK25 : KeepN W20 W25 := HPw.out ▸ hA1.kb
  have q25 := hK25 B _ _ (by decide) (by decide) (by decide) (by decide) HQ.out
  obtain ⟨-, -, -, -, e4⟩ := cs5 q25
  obtain ⟨x1, hx1⟩ : ∃ x1 : SC, x1 = prop1 s b := ⟨_, rfl⟩
  rw [← hx1] at hA1
  have HP2 : Hid (prop2 s b = b.proofs.foldl slashS x1) := by show _ = _; rw [hx1]; rfl
  have HX1ok : Hid x1.1.ok := by rw [hx1]; exact ok_prop1 hs ⟨⟨hw1, hw1'⟩, hw2, hw3, HW4.out, HW5.out⟩ HE0.out
  have HX1l : Hid (x1.2.length ≤ 70000) := by
   have a := attests_len true b.votes x0 HX0ok.out (fun v hv => HW4.out v hv)
   have a2 := HX0l.out
   show _ ≤ _
   rw [hx1, HP1.out]
   omega
  clear hx1 hEx1 hK25 q25 h20' d4
  go_upto_block 5 with fail
  clear e4
  go_cut [] (fun w' => ∃ ch2, ApAt w' base p20 (prop2 s b) k vk ch2 ∧ Ext (p.foot base) W20 w')
  case first =>
   have HA0 := Lib.hid hA1
   clear hA1
   go_wp2
   go_loopw [137] (fun i wr => ∃ (j : Nat) (xj : SC) (chj : Value), j ≤ b.proofs.length ∧ i = .int .i64 j ∧ Hid (xj = (b.proofs.take j).foldl slashS x1) ∧ Hid (ApAt wr base p20 xj k vk chj) ∧ Hid (Ext (p.foot base) W20 wr)) (fun i _ => b.proofs.length - (intOf i).toNat)
   case atStart => exact ⟨0, x1, ch1, Nat.zero_le _, rfl, rfl, HA0.out, HEx1.out⟩
   case round =>
    obtain ⟨j, xj, chj, hj, rfl, HXj, HAj, HEj⟩ := hrel
    by_cases hlt : j < b.proofs.length
    ·obtain ⟨v, hx⟩ : ∃ v, b.proofs[j]? = some v := ⟨_, List.getElem?_eq_getElem hlt⟩
     have hvr : Pfs (p.free base) wr A2 b.proofs := HP20.out.mono (fun _ h => h) (fun i hi hlt' => HEj.out.block i hlt' hi)
     obtain ⟨bb, o, rfl, _, A3, c3, A4, c4, hf, hi, hc, hf2, hi2, hc'⟩ := hvr.get hx
     have HWv : Hid v.wf := HW5.out v (List.mem_of_getElem? hx)
     have HT : Hid ((b.proofs.take (j + 1)).foldl slashS x1 = slashS xj v) := by
      show _ = _
      rw [HXj.out, foldl_snoc _ _ _ _ hlt]
      have : b.proofs[j] = v := by have := hx; rw [List.getElem?_eq_getElem hlt] at this; injection this
      rw [this]
     have HOkx : Hid xj.1.ok := by
      rw [HXj.out]
      exact ok_slashes _ _ HX1ok.out
     have HLnx : Hid (xj.2.length ≤ 1000000) := by
      have a := slashes_len (b.proofs.take j) x1 HX1ok.out
      have a2 := HX1l.out
      rw [List.length_take] at a
      show _ ≤ _
      rw [HXj.out]
      omega
     clear hx hvr
     obtain ⟨hc0, hc1, hc2, hc3, hc4, hc5, hc6⟩ := hc
     obtain ⟨hd0, hd1, hd2, hd3, hd4, hd5, hd6⟩ := hc'
     have qv := heap_new wr (.cells #[.int .i64 v.a.slot, .int .u64 v.a.head, .int .i64 v.a.src.e, .int .u64 v.a.src.r, .int .i64 v.a.tgt.e, .int .u64 v.a.tgt.r, .slice A3 v.a.who.length c3, .int .i64 v.b.slot, .int .u64 v.b.head, .int .i64 v.b.src.e, .int .u64 v.b.src.r, .int .i64 v.b.tgt.e, .int .u64 v.b.tgt.r, .slice A4 v.b.who.length c4] 55)
     have hbv : Below wr.heap.size wr (wr.alloc (.cells #[.int .i64 v.a.slot, .int .u64 v.a.head, .int .i64 v.a.src.e, .int .u64 v.a.src.r, .int .i64 v.a.tgt.e, .int .u64 v.a.tgt.r, .slice A3 v.a.who.length c3, .int .i64 v.b.slot, .int .u64 v.b.head, .int .i64 v.b.src.e, .int .u64 v.b.src.r, .int .i64 v.b.tgt.e, .int .u64 v.b.tgt.r, .slice A4 v.b.who.length c4] 55)) := below_alloc (Below.refl _ _) _
     have cSl := slash_calls (HAj.out.below hbv) HOkx.out HLnx.out v A3 c3 A4 c4 HWv.out.1 HWv.out.2 hf.2 hf2.2 (Lie.any (hi.below hbv)) (Lie.any (hi2.below hbv))
     rw [HPsb.out] at cSl
     have HBv := Lib.hid hbv
     clear hbv hi hi2
     go_upto_region 29 with fail
     clear hc0 hc1 hc2 hc3 hc4 hc5 hc6 hd0 hd1 hd2 hd3 hd4 hd5 hd6
     generalize hW28 : wr.alloc (.cells #[.int .i64 v.a.slot, .int .u64 v.a.head, .int .i64 v.a.src.e, .int .u64 v.a.src.r, .int .i64 v.a.tgt.e, .int .u64 v.a.tgt.r, .slice A3 v.a.who.length c3, .int .i64 v.b.slot, .int .u64 v.b.head, .int .i64 v.b.src.e, .int .u64 v.b.src.r, .int .i64 v.b.tgt.e, .int .u64 v.b.tgt.r, .slice A4 v.b.who.length c4] 55) = W28 at qv cSl HBv ⊢
     clear hW28
     go_wp2_with (first
      | (refine wpList_loadB rfl 55 (.tmp 13) rfl wr.heap.size [.int .i64 v.a.slot, .int .u64 v.a.head, .int .i64 v.a.src.e, .int .u64 v.a.src.r, .int .i64 v.a.tgt.e, .int .u64 v.a.tgt.r, .slice A3 v.a.who.length c3, .int .i64 v.b.slot, .int .u64 v.b.head, .int .i64 v.b.src.e, .int .u64 v.b.src.r, .int .i64 v.b.tgt.e, .int .u64 v.b.tgt.r, .slice A4 v.b.who.length c4] qv rfl _ Tryz.underlying55 rfl iPf ?_)
      | (go_at_call 39; refine cSl.mono ?_; rintro e w5 ⟨rfl, ⟨ch5, hA5⟩, hx5⟩))
     go_roundw
     case rel =>
      refine ⟨j + 1, slashS xj v, ch5, by omega, by go_num, HT.out.symm, hA5, (HEj.out.thenBelow HBv.out).trans hx5 (fun i _ h => HPf.out ▸ h)⟩
     case measure => simp [intOf]; omega
    ·obtain rfl : j = b.proofs.length := by omega
     rw [List.take_length] at HXj
     go_wp2
     go_meet
     case rel =>
      refine ⟨chj, ?_, HEj.out⟩
      rw [HP2.out, ← HXj.out]
      exact HAj.out
  case rest =>
   obtain ⟨ch2, hA2, hEx2⟩ := hcut
   obtain ⟨W30, rfl⟩ : ∃ W30 : World, W30 = wc := ⟨_, rfl⟩
   have HEx2 := Lib.hid hEx2
   have hK30 : KeepN W20 W30 := HPw.out ▸ hA2.kb
   have q30 := hK30 B _ _ (by decide) (by decide) (by decide) (by decide) HQ.out
   have HX2ok : Hid (prop2 s b).1.ok := ok_prop2 hs ⟨⟨hw1, hw1'⟩, hw2, hw3, HW4.out, HW5.out⟩ HE0.out
   have HX2l : Hid ((prop2 s b).2.length ≤ 140000) := by
    have a := slashes_len b.proofs x1 HX1ok.out
    have a2 := HX1l.out
    show _ ≤ _
    rw [HP2.out]
    omega
   have HP3 : Hid (prop3 s b = (boostS (prop2 s b).1 b, (prop2 s b).2)) := rfl
   clear hEx2 hK30 hA1
   generalize prop2 s b = x2 at hA2 HX2ok HX2l HP3
   go_upto_region 31 with fail
   have K31 : ∀ W', Below W30.heap.size W30 W' → (W'.cell? ⟨p.sb, 0, none⟩ = some (.slice (some ⟨p20.bb, 0, none⟩) x2.1.c.bal.length k) ∧ W'.cell? ⟨p.sb, 1, none⟩ = some (.int .i64 x2.1.c.slots) ∧ W'.cell? ⟨p.sb, 2, none⟩ = some (.int .i64 x2.1.c.boost) ∧ W'.cell? ⟨p.sb, 3, none⟩ = some (.pointer (some ⟨p20.tb, 0, none⟩)) ∧ W'.cell? ⟨p.sb, 4, none⟩ = some (.slice (some ⟨p20.vb, 0, none⟩) x2.1.votes.length vk) ∧ W'.cell? ⟨p.sb, 5, none⟩ = some (.int .i64 x2.1.slot) ∧ W'.cell? ⟨p.sb, 6, none⟩ = some (.int .u64 x2.1.boosted) ∧ W'.cell? ⟨p.sb, 7, none⟩ = some (.int .i64 x2.1.just.e) ∧ W'.cell? ⟨p.sb, 8, none⟩ = some (.int .u64 x2.1.just.r) ∧ W'.cell? ⟨p.sb, 9, none⟩ = some (.int .i64 x2.1.fin.e) ∧ W'.cell? ⟨p.sb, 10, none⟩ = some (.int .u64 x2.1.fin.r) ∧ W'.cell? ⟨p.sb, 11, none⟩ = some (.map (some p20.lb)) ∧ W'.cell? ⟨p.sb, 12, none⟩ = some (.map (some p20.gb)) ∧ W'.cell? ⟨p.sb, 13, none⟩ = some (ch2)) ∧ (W'.cell? ⟨B, 0, none⟩ = some (.int .u64 b.root) ∧ W'.cell? ⟨B, 1, none⟩ = some (.int .u64 b.parent) ∧ W'.cell? ⟨B, 2, none⟩ = some (.int .i64 b.slot) ∧ W'.cell? ⟨B, 3, none⟩ = some (.slice A1 b.votes.length k1) ∧ W'.cell? ⟨B, 4, none⟩ = some (.slice A2 b.proofs.length k2)) := fun W' hW => ⟨by have := (hA2.st.below hW).cells; rw [HPsb.out] at this; exact this, cs5 (blk_below q30 hW)⟩
   have hD30 : Below W30.heap.size W30 W30.drew := (Below.refl _ _).drew
   obtain ⟨E31, hE31⟩ : ∃ E31, E31 = ((b.slot == x2.1.slot) && (x2.1.boosted == 0)) := ⟨_, rfl⟩
   have HE31 := Lib.hid hE31
   clear hE31
   go_cut [158] (fun c w' => c = .bool E31 ∧ Below W30.heap.size W30 w')
   case first =>
    cases h1 : (b.slot == x2.1.slot) with
    | true =>
     refine wp_region_held_drew (S := fun w' => (w'.cell? ⟨p.sb, 0, none⟩ = some (.slice (some ⟨p20.bb, 0, none⟩) x2.1.c.bal.length k) ∧ w'.cell? ⟨p.sb, 1, none⟩ = some (.int .i64 x2.1.c.slots) ∧ w'.cell? ⟨p.sb, 2, none⟩ = some (.int .i64 x2.1.c.boost) ∧ w'.cell? ⟨p.sb, 3, none⟩ = some (.pointer (some ⟨p20.tb, 0, none⟩)) ∧ w'.cell? ⟨p.sb, 4, none⟩ = some (.slice (some ⟨p20.vb, 0, none⟩) x2.1.votes.length vk) ∧ w'.cell? ⟨p.sb, 5, none⟩ = some (.int .i64 x2.1.slot) ∧ w'.cell? ⟨p.sb, 6, none⟩ = some (.int .u64 x2.1.boosted) ∧ w'.cell? ⟨p.sb, 7, none⟩ = some (.int .i64 x2.1.just.e) ∧ w'.cell? ⟨p.sb, 8, none⟩ = some (.int .u64 x2.1.just.r) ∧ w'.cell? ⟨p.sb, 9, none⟩ = some (.int .i64 x2.1.fin.e) ∧ w'.cell? ⟨p.sb, 10, none⟩ = some (.int .u64 x2.1.fin.r) ∧ w'.cell? ⟨p.sb, 11, none⟩ = some (.map (some p20.lb)) ∧ w'.cell? ⟨p.sb, 12, none⟩ = some (.map (some p20.gb)) ∧ w'.cell? ⟨p.sb, 13, none⟩ = some (ch2)) ∧ (w'.cell? ⟨B, 0, none⟩ = some (.int .u64 b.root) ∧ w'.cell? ⟨B, 1, none⟩ = some (.int .u64 b.parent) ∧ w'.cell? ⟨B, 2, none⟩ = some (.int .i64 b.slot) ∧ w'.cell? ⟨B, 3, none⟩ = some (.slice A1 b.votes.length k1) ∧ w'.cell? ⟨B, 4, none⟩ = some (.slice A2 b.proofs.length k2))) (by kernel_rfl) (K31 _ hD30) (fun hHeld => ?_)
     refine tW 0 145 hHeld ?_
     refine tW 1 146 hHeld ?_
     refine tW 2 147 hHeld ?_
     refine tW 3 148 hHeld ?_
     refine tW 4 149 hHeld ?_
     refine tW 5 150 hHeld ?_
     refine tW 6 151 hHeld ?_
     refine tW 7 152 hHeld ?_
     refine tW 8 153 hHeld ?_
     refine tW 9 154 hHeld ?_
     refine tW 10 155 hHeld ?_
     refine tW 11 156 hHeld ?_
     refine tW 12 157 hHeld ?_
     refine tW 13 158 hHeld ?_
     refine wpAnyH_done (by kernel_rfl) ?_ _
     go_wp2
     go_meet
     case rel => exact ⟨by rw [HE31.out, h1]; rfl, hD30⟩
    | false =>
     refine wp_region_held_drew (S := fun w' => (w'.cell? ⟨p.sb, 0, none⟩ = some (.slice (some ⟨p20.bb, 0, none⟩) x2.1.c.bal.length k) ∧ w'.cell? ⟨p.sb, 1, none⟩ = some (.int .i64 x2.1.c.slots) ∧ w'.cell? ⟨p.sb, 2, none⟩ = some (.int .i64 x2.1.c.boost) ∧ w'.cell? ⟨p.sb, 3, none⟩ = some (.pointer (some ⟨p20.tb, 0, none⟩)) ∧ w'.cell? ⟨p.sb, 4, none⟩ = some (.slice (some ⟨p20.vb, 0, none⟩) x2.1.votes.length vk) ∧ w'.cell? ⟨p.sb, 5, none⟩ = some (.int .i64 x2.1.slot) ∧ w'.cell? ⟨p.sb, 6, none⟩ = some (.int .u64 x2.1.boosted) ∧ w'.cell? ⟨p.sb, 7, none⟩ = some (.int .i64 x2.1.just.e) ∧ w'.cell? ⟨p.sb, 8, none⟩ = some (.int .u64 x2.1.just.r) ∧ w'.cell? ⟨p.sb, 9, none⟩ = some (.int .i64 x2.1.fin.e) ∧ w'.cell? ⟨p.sb, 10, none⟩ = some (.int .u64 x2.1.fin.r) ∧ w'.cell? ⟨p.sb, 11, none⟩ = some (.map (some p20.lb)) ∧ w'.cell? ⟨p.sb, 12, none⟩ = some (.map (some p20.gb)) ∧ w'.cell? ⟨p.sb, 13, none⟩ = some (ch2)) ∧ (w'.cell? ⟨B, 0, none⟩ = some (.int .u64 b.root) ∧ w'.cell? ⟨B, 1, none⟩ = some (.int .u64 b.parent) ∧ w'.cell? ⟨B, 2, none⟩ = some (.int .i64 b.slot) ∧ w'.cell? ⟨B, 3, none⟩ = some (.slice A1 b.votes.length k1) ∧ w'.cell? ⟨B, 4, none⟩ = some (.slice A2 b.proofs.length k2))) (by kernel_rfl) (K31 _ hD30) (fun hHeld => ?_)
     refine tW 0 145 hHeld ?_
     refine tW 1 146 hHeld ?_
     refine tW 2 147 hHeld ?_
     refine tW 3 148 hHeld ?_
     refine tW 4 149 hHeld ?_
     refine tW 5 150 hHeld ?_
     refine tW 6 151 hHeld ?_
     refine tW 7 152 hHeld ?_
     refine tU 8 153 hHeld ?_
     refine tU 9 154 hHeld ?_
     refine tU 10 155 hHeld ?_
     refine tU 11 156 hHeld ?_
     refine tU 12 157 hHeld ?_
     refine tW 13 158 hHeld ?_
     refine wpAnyH_done (by kernel_rfl) ?_ _
     go_wp2
     go_meet
     case rel => exact ⟨by rw [HE31.out, h1]; rfl, hD30⟩
   case rest =>
    obtain ⟨rfl, hb31⟩ := hcut
    obtain ⟨W31, rfl⟩ : ∃ W31 : World, W31 = wc := ⟨_, rfl⟩
    clear K31 hD30
    have hA31 := hA2.below hb31
    have hEx31 := HEx2.out.thenBelow hb31
    have q31 := blk_below q30 hb31
    clear hA2 q30
    go_upto_if 158 with fail
    go_cut [] (fun w' => ApAt w' base p20 (prop3 s b) k vk ch2 ∧ Ext (p.foot base) W20 w')
    case first =>
     cases E31 with
     | true =>
      have e1 : prop3 s b = ({ x2.1 with boosted := b.root }, x2.2) := by
       have := HE31.out
       simp at this
       rw [HP3.out, boostS, if_pos this]
      have HE3p := Lib.hid e1
      clear e1
      obtain ⟨d0, -⟩ := cs5 q31
      have z6 := blk_frozen hA31.st.blk 6
      have hbo := Lib.hid (hA31.boost b.root)
      rw [HPsb.out] at z6 hbo
      obtain ⟨_, _, _, _, _, _, c6, _⟩ := hA31.st.cells
      rw [HPsb.out] at c6
      go_wp2
      go_meet
      case rel =>
       rw [HE3p.out]
       exact ⟨hbo.out.1, hEx31.trans hbo.out.2 (fun i _ h => HPf.out ▸ h)⟩
     | false =>
      have e1 : prop3 s b = x2 := by
       have := HE31.out
       rw [HP3.out, boostS, if_neg (fun h => by simp [h.1, h.2] at this)]
      have HE3p := Lib.hid e1
      clear e1
      go_wp2
      go_meet
      case rel =>
       rw [HE3p.out]
       exact ⟨hA31, hEx31⟩
    case rest =>
     obtain ⟨hA3, hEx3⟩ := hcut
     obtain ⟨W32, rfl⟩ : ∃ W32 : World, W32 = wc := ⟨_, rfl⟩
     have HEx3 := Lib.hid hEx3
     have hK32 : KeepN W20 W32 := HPw.out ▸ hA3.kb
     have ql32 := hK32 Bl _ _ (by decide) (by decide) (by decide) (by decide) HQl.out
     have HX3ok : Hid (prop3 s b).1.ok := ok_prop3 hs ⟨⟨hw1, hw1'⟩, hw2, hw3, HW4.out, HW5.out⟩ HE0.out
     have HX3l : (prop3 s b).2.length ≤ 1000000 := by
      have a := HX2l.out
      rw [HP3.out]
      show x2.2.length ≤ _
      omega
     obtain ⟨hlo1, hlo2⟩ := ledgerP_ok hs ⟨⟨hw1, hw1'⟩, hw2, hw3, HW4.out, HW5.out⟩ HE0.out
     have HP4 : Hid (prop4 s b = raiseS (prop3 s b) lj.j.cur lj.j.fin) := by show _ = _; rw [← HLPj.out]; rfl
     have HPP : Hid (propP s b = pullL (prop4 s b).1.c lj ((prop4 s b).1.tree.at_ b.root)) := by show _ = _; rw [← HLPj.out]; rfl
     have hcR := raise_calls hA3 HX3ok.out HX3l lj.j.cur lj.j.fin (HLPj.out ▸ hlo2.c) (HLPj.out ▸ hlo2.f)
     rw [HPsb.out, ← HP4.out] at hcR
     have HX4ok : Hid (prop4 s b).1.ok := ok_prop4 hs ⟨⟨hw1, hw1'⟩, hw2, hw3, HW4.out, HW5.out⟩ HE0.out
     have HX4l : Hid ((prop4 s b).2.length ≤ 1000000) := by
      have a := HX2l.out
      have a2 := raiseS_len (prop3 s b) lj.j.cur lj.j.fin
      have a3 : (prop3 s b).2 = x2.2 := by rw [HP3.out]
      show _ ≤ _
      rw [HP4.out]
      rw [a3] at a2
      omega
     have HX4c : Hid ((prop4 s b).1.c = sA.c) := (prop4_c s b).trans HCA.out.symm
     have HPU : Hid (JsB (propP s b) ∧ LsU { ledgerP s b with j := propP s b }) := propP_ok hs ⟨⟨hw1, hw1'⟩, hw2, hw3, HW4.out, HW5.out⟩ HE0.out
     have HPE : Hid (propR s b = if epochOf b.slot (prop4 s b).1.c.slots < epochOf (prop4 s b).1.slot (prop4 s b).1.c.slots then raiseS (prop4 s b) (propP s b).cur (propP s b).fin else prop4 s b) := by show _ = _; rw [propR, if_pos HE0.out]; exact proposeS_eq s b
     clear hEx3 hK32 hA3 HX3l hlo1 hlo2 hA31 hEx31 q31
     generalize prop4 s b = x4 at hcR HX4ok HX4l HX4c HPE HPP
     go_upto_region 34 with (first
      | (refine wpList_loadP rfl 38 (.tmp 166) rfl Bl 6 [.int .i64 lj.j.cur.e, .int .u64 lj.j.cur.r] [.bool lj.j.b0, .bool lj.j.b1, .bool lj.j.b2, .bool lj.j.b3, .int .i64 lj.j.prev.e, .int .u64 lj.j.prev.r, .int .i64 lj.j.cur.e, .int .u64 lj.j.cur.r, .int .i64 lj.j.fin.e, .int .u64 lj.j.fin.r, .int .i64 lj.epoch, .slice Aj lj.before.length kj, .slice A2j lj.now.length k2j] ql32 rfl rfl _ Tryz.underlying38 rfl iPt ?_)
      | (refine wpList_loadP rfl 38 (.tmp 169) rfl Bl 8 [.int .i64 lj.j.fin.e, .int .u64 lj.j.fin.r] [.bool lj.j.b0, .bool lj.j.b1, .bool lj.j.b2, .bool lj.j.b3, .int .i64 lj.j.prev.e, .int .u64 lj.j.prev.r, .int .i64 lj.j.cur.e, .int .u64 lj.j.cur.r, .int .i64 lj.j.fin.e, .int .u64 lj.j.fin.r, .int .i64 lj.epoch, .slice Aj lj.before.length kj, .slice A2j lj.now.length k2j] ql32 rfl rfl _ Tryz.underlying38 rfl iPt ?_)
      | (go_at_call 62; refine hcR.mono ?_; rintro e W33 ⟨rfl, ⟨nb3, hnb3, ch3, hA4⟩, hx4⟩))
     obtain ⟨p4, hp4⟩ : ∃ p4 : Places, p4 = { sb := p.sb, tb := p20.tb, nb := nb3, vb := p20.vb, lb := p20.lb, gb := p20.gb, bb := p20.bb, w0 := p20.w0 } := ⟨_, rfl⟩
     rw [← hp4] at hA4
     rw [← HPsb.out] at hp4
     have HP4sb : Hid (p4.sb = p.sb) := by rw [hp4]; exact HPsb.out
     have HP4w : Hid (p4.w0 = W20) := by rw [hp4]; exact HPw.out
     have HP4b : Hid (∀ nb, ({ ({ p4 with nb := nb } : Places) with w0 := p.w0 } : Places) = { p with nb := nb }) := fun nb => by rw [hp4]; exact HPb.out nb
     have HP4n : Hid (p4.nb = p.nb ∨ base ≤ p4.nb) := by rw [hp4]; exact Or.imp (fun h => h.trans HPn.out) id hnb3
     have HP4f : Hid (∀ i, p4.foot base i → p.foot base i) := fun i hi => by
      rw [hp4] at hi
      rw [← HPf.out]
      exact foot_nb hnb3 hi
     have HEx4 := Lib.hid (HEx3.out.trans hx4 (fun i _ h => HPf.out ▸ h))
     have hK33 : KeepN W20 W33 := HP4w.out ▸ hA4.kb
     have ql33 := hK33 Bl _ _ (by decide) (by decide) (by decide) (by decide) HQl.out
     have q33 := hK33 B _ _ (by decide) (by decide) (by decide) (by decide) HQ.out
     have qa33 := hK33 _ _ _ HT1.out.1 HT1.out.2.1 HT1.out.2.2.1 HT1.out.2.2.2 HQa.out
     have qb33 := hK33 _ _ _ (by decide) (by decide) (by decide) (by decide) HQb.out
     have hr33 : LsR W33 lj Aj A2j := ⟨HR20.out.b.keep hK33.bools, HR20.out.n.keep hK33.bools⟩
     have hCh : ChainAt W33 78 caps (x4.1.tree.at_ b.root) := by
      rw [HCaps.out]
      obtain ⟨_, _, _, c3, _⟩ := hA4.st.cells
      rw [HP4sb.out] at c3
      exact chain_at qa33 qb33 (Below.refl _ _) c3 hA4.st.tree HX4ok.out.t ⟨hw1, hw1'⟩
     have K34 : ∀ W', Below W33.heap.size W33 W' → (W'.cell? ⟨p.sb, 0, none⟩ = some (.slice (some ⟨p4.bb, 0, none⟩) x4.1.c.bal.length k) ∧ W'.cell? ⟨p.sb, 1, none⟩ = some (.int .i64 x4.1.c.slots) ∧ W'.cell? ⟨p.sb, 2, none⟩ = some (.int .i64 x4.1.c.boost) ∧ W'.cell? ⟨p.sb, 3, none⟩ = some (.pointer (some ⟨p4.tb, 0, none⟩)) ∧ W'.cell? ⟨p.sb, 4, none⟩ = some (.slice (some ⟨p4.vb, 0, none⟩) x4.1.votes.length vk) ∧ W'.cell? ⟨p.sb, 5, none⟩ = some (.int .i64 x4.1.slot) ∧ W'.cell? ⟨p.sb, 6, none⟩ = some (.int .u64 x4.1.boosted) ∧ W'.cell? ⟨p.sb, 7, none⟩ = some (.int .i64 x4.1.just.e) ∧ W'.cell? ⟨p.sb, 8, none⟩ = some (.int .u64 x4.1.just.r) ∧ W'.cell? ⟨p.sb, 9, none⟩ = some (.int .i64 x4.1.fin.e) ∧ W'.cell? ⟨p.sb, 10, none⟩ = some (.int .u64 x4.1.fin.r) ∧ W'.cell? ⟨p.sb, 11, none⟩ = some (.map (some p4.lb)) ∧ W'.cell? ⟨p.sb, 12, none⟩ = some (.map (some p4.gb)) ∧ W'.cell? ⟨p.sb, 13, none⟩ = some (ch3)) ∧ (W'.cell? ⟨Bl, 0, none⟩ = some (.bool lj.j.b0) ∧ W'.cell? ⟨Bl, 1, none⟩ = some (.bool lj.j.b1) ∧ W'.cell? ⟨Bl, 2, none⟩ = some (.bool lj.j.b2) ∧ W'.cell? ⟨Bl, 3, none⟩ = some (.bool lj.j.b3) ∧ W'.cell? ⟨Bl, 4, none⟩ = some (.int .i64 lj.j.prev.e) ∧ W'.cell? ⟨Bl, 5, none⟩ = some (.int .u64 lj.j.prev.r) ∧ W'.cell? ⟨Bl, 6, none⟩ = some (.int .i64 lj.j.cur.e) ∧ W'.cell? ⟨Bl, 7, none⟩ = some (.int .u64 lj.j.cur.r) ∧ W'.cell? ⟨Bl, 8, none⟩ = some (.int .i64 lj.j.fin.e) ∧ W'.cell? ⟨Bl, 9, none⟩ = some (.int .u64 lj.j.fin.r) ∧ W'.cell? ⟨Bl, 10, none⟩ = some (.int .i64 lj.epoch) ∧ W'.cell? ⟨Bl, 11, none⟩ = some (.slice Aj lj.before.length kj) ∧ W'.cell? ⟨Bl, 12, none⟩ = some (.slice A2j lj.now.length k2j)) := fun W' hW => ⟨by have := (hA4.st.below hW).cells; rw [HP4sb.out] at this; exact this, cs13 (blk_below ql33 hW)⟩
     have cPull := fun (W : World) (hW : Below W33.heap.size W33 W) => Pull_calls W x4.1.c (some ⟨p4.bb, 0, none⟩) k lj Aj kj A2j k2j 78 caps (x4.1.tree.at_ b.root) HX4ok.out.c (Lie.any (hA4.st.bal.below hW)) (HX4c.out.symm ▸ HOkj.out) (hr33.below hW) (hCh.below hW)
     rw [← HPP.out] at cPull
     generalize propP s b = P at cPull HPU HPE
     have hD33 : Below W33.heap.size W33 W33.drew := (Below.refl _ _).drew
     clear hp4 hK33 qa33 qb33 hr33 hCh hcR ql32 hx4 hnb3
     go_cut [14] (fun l w' => ∃ Bj, l = .pointer (some ⟨Bj, 0, none⟩) ∧ w'.heap[Bj]? = some (.cells #[.bool P.b0, .bool P.b1, .bool P.b2, .bool P.b3, .int .i64 P.prev.e, .int .u64 P.prev.r, .int .i64 P.cur.e, .int .u64 P.cur.r, .int .i64 P.fin.e, .int .u64 P.fin.r] 96 (0, 0)) ∧ Below W33.heap.size W33 w')
     case first =>
      refine beginK (fun w' => (w'.cell? ⟨p.sb, 0, none⟩ = some (.slice (some ⟨p4.bb, 0, none⟩) x4.1.c.bal.length k) ∧ w'.cell? ⟨p.sb, 1, none⟩ = some (.int .i64 x4.1.c.slots) ∧ w'.cell? ⟨p.sb, 2, none⟩ = some (.int .i64 x4.1.c.boost) ∧ w'.cell? ⟨p.sb, 3, none⟩ = some (.pointer (some ⟨p4.tb, 0, none⟩)) ∧ w'.cell? ⟨p.sb, 4, none⟩ = some (.slice (some ⟨p4.vb, 0, none⟩) x4.1.votes.length vk) ∧ w'.cell? ⟨p.sb, 5, none⟩ = some (.int .i64 x4.1.slot) ∧ w'.cell? ⟨p.sb, 6, none⟩ = some (.int .u64 x4.1.boosted) ∧ w'.cell? ⟨p.sb, 7, none⟩ = some (.int .i64 x4.1.just.e) ∧ w'.cell? ⟨p.sb, 8, none⟩ = some (.int .u64 x4.1.just.r) ∧ w'.cell? ⟨p.sb, 9, none⟩ = some (.int .i64 x4.1.fin.e) ∧ w'.cell? ⟨p.sb, 10, none⟩ = some (.int .u64 x4.1.fin.r) ∧ w'.cell? ⟨p.sb, 11, none⟩ = some (.map (some p4.lb)) ∧ w'.cell? ⟨p.sb, 12, none⟩ = some (.map (some p4.gb)) ∧ w'.cell? ⟨p.sb, 13, none⟩ = some (ch3)) ∧ (w'.cell? ⟨Bl, 0, none⟩ = some (.bool lj.j.b0) ∧ w'.cell? ⟨Bl, 1, none⟩ = some (.bool lj.j.b1) ∧ w'.cell? ⟨Bl, 2, none⟩ = some (.bool lj.j.b2) ∧ w'.cell? ⟨Bl, 3, none⟩ = some (.bool lj.j.b3) ∧ w'.cell? ⟨Bl, 4, none⟩ = some (.int .i64 lj.j.prev.e) ∧ w'.cell? ⟨Bl, 5, none⟩ = some (.int .u64 lj.j.prev.r) ∧ w'.cell? ⟨Bl, 6, none⟩ = some (.int .i64 lj.j.cur.e) ∧ w'.cell? ⟨Bl, 7, none⟩ = some (.int .u64 lj.j.cur.r) ∧ w'.cell? ⟨Bl, 8, none⟩ = some (.int .i64 lj.j.fin.e) ∧ w'.cell? ⟨Bl, 9, none⟩ = some (.int .u64 lj.j.fin.r) ∧ w'.cell? ⟨Bl, 10, none⟩ = some (.int .i64 lj.epoch) ∧ w'.cell? ⟨Bl, 11, none⟩ = some (.slice Aj lj.before.length kj) ∧ w'.cell? ⟨Bl, 12, none⟩ = some (.slice A2j lj.now.length k2j))) 8 (by rfl) ?_
      have hHeld := K34 _ hD33
      refine kW 0 172 hHeld ?_
      refine kW 1 173 hHeld ?_
      refine kW 2 174 hHeld ?_
      refine kW 3 175 hHeld ?_
      refine kW 4 176 hHeld ?_
      refine kW 5 177 hHeld ?_
      refine readyK (rs := [6, 7]) (by kernel_rfl) (by simp) ?_
      refine AllReadyK.cons rfl (fun K hK => ?_) ?_
      ·go_simp
       refine (cPull _ hD33).mono ?_
       rintro e W14 ⟨rfl, hb14'⟩
       have hW14 := hD33.trans (hb14'.mono hD33.size)
       refine hK.out _ _ (fun _ => K34 _ hW14) ?_
       have hHeld := K34 _ hW14
       clear hK K
       try simp only [Act.put, sA, sB, sC]
       refine readyK (rs := [7]) (by kernel_rfl) (by simp) ?_
       refine AllReadyK.cons rfl (fun K hK => ?_) AllReadyK.nil
       go_simp
       have hWa := hW14.trans ((below_alloc (Below.refl _ _) (.cells #[.bool false, .bool false, .bool false, .bool false, .int .i64 0, .int .u64 0, .int .i64 0, .int .u64 0, .int .i64 0, .int .u64 0] 96)).mono hW14.size)
       refine hK.out _ _ (fun _ => K34 _ hWa) ?_
       have hHeld := K34 _ hWa
       clear hK K
       try simp only [Act.put, sA, sB, sC]
       refine readyK (rs := [8]) (by kernel_rfl) (by simp) ?_
       refine AllReadyK.cons rfl (fun K hK => ?_) AllReadyK.nil
       have hqz := heap_new W14 (.cells #[.bool false, .bool false, .bool false, .bool false, .int .i64 0, .int .u64 0, .int .i64 0, .int .u64 0, .int .i64 0, .int .u64 0] 96)
       refine step_storeB (by rfl) 96 (.tmp 14) (.tmp 178) rfl W14.heap.size [.bool false, .bool false, .bool false, .bool false, .int .i64 0, .int .u64 0, .int .i64 0, .int .u64 0, .int .i64 0, .int .u64 0] [.bool P.b0, .bool P.b1, .bool P.b2, .bool P.b3, .int .i64 P.prev.e, .int .u64 P.prev.r, .int .i64 P.cur.e, .int .u64 P.cur.r, .int .i64 P.fin.e, .int .u64 P.fin.r] hqz rfl rfl rfl iJs rfl ?_
       intro W15 q15 hx15 hs15
       refine hK.out _ _ (fun h => absurd rfl h) ?_
       clear hK K
       try simp only [Act.put, sA, sB, sC]
       refine doneK (by kernel_rfl) ?_ _
       go_wp2
       go_meet
       case rel => exact ⟨_, rfl, q15, below_ext hWa hx15 (Nat.le_refl _) hW14.size⟩
      refine AllReadyK.cons rfl (fun K hK => ?_) AllReadyK.nil
      go_simp
      have hDa := hD33.trans ((below_alloc (Below.refl _ _) (.cells #[.bool false, .bool false, .bool false, .bool false, .int .i64 0, .int .u64 0, .int .i64 0, .int .u64 0, .int .i64 0, .int .u64 0] 96)).mono hD33.size)
      refine hK.out _ _ (fun _ => K34 _ hDa) ?_
      have hHeld := K34 _ hDa
      clear hK K
      try simp only [Act.put, sA, sB, sC]
      refine readyK (rs := [6]) (by kernel_rfl) (by simp) ?_
      refine AllReadyK.cons rfl (fun K hK => ?_) AllReadyK.nil
      go_simp
      refine (cPull _ hDa).mono ?_
      rintro e W14 ⟨rfl, hb14'⟩
      have hW14 := hDa.trans (hb14'.mono hDa.size)
      refine hK.out _ _ (fun _ => K34 _ hW14) ?_
      have hHeld := K34 _ hW14
      clear hK K
      try simp only [Act.put, sA, sB, sC]
      refine readyK (rs := [8]) (by kernel_rfl) (by simp) ?_
      refine AllReadyK.cons rfl (fun K hK => ?_) AllReadyK.nil
      have hqz := blk_below (heap_new W33.drew (.cells #[.bool false, .bool false, .bool false, .bool false, .int .i64 0, .int .u64 0, .int .i64 0, .int .u64 0, .int .i64 0, .int .u64 0] 96)) hb14'
      refine step_storeB (by rfl) 96 (.tmp 14) (.tmp 178) rfl W33.drew.heap.size [.bool false, .bool false, .bool false, .bool false, .int .i64 0, .int .u64 0, .int .i64 0, .int .u64 0, .int .i64 0, .int .u64 0] [.bool P.b0, .bool P.b1, .bool P.b2, .bool P.b3, .int .i64 P.prev.e, .int .u64 P.prev.r, .int .i64 P.cur.e, .int .u64 P.cur.r, .int .i64 P.fin.e, .int .u64 P.fin.r] hqz rfl rfl rfl iJs rfl ?_
      intro W15 q15 hx15 hs15
      refine hK.out _ _ (fun h => absurd rfl h) ?_
      clear hK K
      try simp only [Act.put, sA, sB, sC]
      refine doneK (by kernel_rfl) ?_ _
      go_wp2
      go_meet
      case rel => exact ⟨_, rfl, q15, below_ext hW14 hx15 (Nat.le_refl _) (Nat.le_refl _)⟩
     case rest =>
      obtain ⟨Bj, rfl, qj, hb34⟩ := hcut
      obtain ⟨W34, rfl⟩ : ∃ W34 : World, W34 = wc := ⟨_, rfl⟩
      clear K34 cPull hD33 ql33
      have hA5 := hA4.below hb34
      have q34 := blk_below q33 hb34
      have HEx5 := Lib.hid (HEx4.out.thenBelow hb34)
      clear hA4 q33
      have K35 : ∀ W', Below W34.heap.size W34 W' → (W'.cell? ⟨p.sb, 0, none⟩ = some (.slice (some ⟨p4.bb, 0, none⟩) x4.1.c.bal.length k) ∧ W'.cell? ⟨p.sb, 1, none⟩ = some (.int .i64 x4.1.c.slots) ∧ W'.cell? ⟨p.sb, 2, none⟩ = some (.int .i64 x4.1.c.boost) ∧ W'.cell? ⟨p.sb, 3, none⟩ = some (.pointer (some ⟨p4.tb, 0, none⟩)) ∧ W'.cell? ⟨p.sb, 4, none⟩ = some (.slice (some ⟨p4.vb, 0, none⟩) x4.1.votes.length vk) ∧ W'.cell? ⟨p.sb, 5, none⟩ = some (.int .i64 x4.1.slot) ∧ W'.cell? ⟨p.sb, 6, none⟩ = some (.int .u64 x4.1.boosted) ∧ W'.cell? ⟨p.sb, 7, none⟩ = some (.int .i64 x4.1.just.e) ∧ W'.cell? ⟨p.sb, 8, none⟩ = some (.int .u64 x4.1.just.r) ∧ W'.cell? ⟨p.sb, 9, none⟩ = some (.int .i64 x4.1.fin.e) ∧ W'.cell? ⟨p.sb, 10, none⟩ = some (.int .u64 x4.1.fin.r) ∧ W'.cell? ⟨p.sb, 11, none⟩ = some (.map (some p4.lb)) ∧ W'.cell? ⟨p.sb, 12, none⟩ = some (.map (some p4.gb)) ∧ W'.cell? ⟨p.sb, 13, none⟩ = some (ch3)) ∧ (W'.cell? ⟨B, 0, none⟩ = some (.int .u64 b.root) ∧ W'.cell? ⟨B, 1, none⟩ = some (.int .u64 b.parent) ∧ W'.cell? ⟨B, 2, none⟩ = some (.int .i64 b.slot) ∧ W'.cell? ⟨B, 3, none⟩ = some (.slice A1 b.votes.length k1) ∧ W'.cell? ⟨B, 4, none⟩ = some (.slice A2 b.proofs.length k2)) := fun W' hW => ⟨by have := (hA5.st.below hW).cells; rw [HP4sb.out] at this; exact this, cs5 (blk_below q34 hW)⟩
      have hD34 : Below W34.heap.size W34 W34.drew := (Below.refl _ _).drew
      have cE1 := fun W => EpochOf_calls W b.slot x4.1.c.slots (by unfold inI; omega) (by have := HX4ok.out.c.s1; have := HX4ok.out.c.s2; unfold inI; omega)
      have cE2 := fun W => EpochOf_calls W x4.1.slot x4.1.c.slots (by have := HX4ok.out.sl0; have := HX4ok.out.sl1; unfold inI; omega) (by have := HX4ok.out.c.s1; have := HX4ok.out.c.s2; unfold inI; omega)
      generalize hEa : epochOf b.slot x4.1.c.slots = ea at cE1 HPE
      generalize hEb : epochOf x4.1.slot x4.1.c.slots = eb at cE2 HPE
      clear hEa hEb
      go_upto_region 35 with fail
      go_region_held3 (fun w' => (w'.cell? ⟨p.sb, 0, none⟩ = some (.slice (some ⟨p4.bb, 0, none⟩) x4.1.c.bal.length k) ∧ w'.cell? ⟨p.sb, 1, none⟩ = some (.int .i64 x4.1.c.slots) ∧ w'.cell? ⟨p.sb, 2, none⟩ = some (.int .i64 x4.1.c.boost) ∧ w'.cell? ⟨p.sb, 3, none⟩ = some (.pointer (some ⟨p4.tb, 0, none⟩)) ∧ w'.cell? ⟨p.sb, 4, none⟩ = some (.slice (some ⟨p4.vb, 0, none⟩) x4.1.votes.length vk) ∧ w'.cell? ⟨p.sb, 5, none⟩ = some (.int .i64 x4.1.slot) ∧ w'.cell? ⟨p.sb, 6, none⟩ = some (.int .u64 x4.1.boosted) ∧ w'.cell? ⟨p.sb, 7, none⟩ = some (.int .i64 x4.1.just.e) ∧ w'.cell? ⟨p.sb, 8, none⟩ = some (.int .u64 x4.1.just.r) ∧ w'.cell? ⟨p.sb, 9, none⟩ = some (.int .i64 x4.1.fin.e) ∧ w'.cell? ⟨p.sb, 10, none⟩ = some (.int .u64 x4.1.fin.r) ∧ w'.cell? ⟨p.sb, 11, none⟩ = some (.map (some p4.lb)) ∧ w'.cell? ⟨p.sb, 12, none⟩ = some (.map (some p4.gb)) ∧ w'.cell? ⟨p.sb, 13, none⟩ = some (ch3)) ∧ (w'.cell? ⟨B, 0, none⟩ = some (.int .u64 b.root) ∧ w'.cell? ⟨B, 1, none⟩ = some (.int .u64 b.parent) ∧ w'.cell? ⟨B, 2, none⟩ = some (.int .i64 b.slot) ∧ w'.cell? ⟨B, 3, none⟩ = some (.slice A1 b.votes.length k1) ∧ w'.cell? ⟨B, 4, none⟩ = some (.slice A2 b.proofs.length k2))) (first | exact K35 _ hD34 | exact K35 _ (by assumption)) (first | (go_at_call_of 53 (Value.int IntKind.i64 b.slot); refine (cE1 _).mono ?_; rintro e w2 ⟨rfl, rfl⟩) | (go_at_call_of 53 (Value.int IntKind.i64 x4.1.slot); refine (cE2 _).mono ?_; rintro e w2 ⟨rfl, rfl⟩))
      go_upto_if 197 with fail
      have q35 := blk_below q34 hD34
      have hA6 := hA5.below hD34
      have qj6 := blk_below qj hD34
      have HEx6 := Lib.hid (HEx5.out.thenBelow hD34)
      clear K35 hD34 cE1 cE2 hA5 q34 q35 qj
      have HFin : Hid (∀ (W' : World) (p5 : Places) (y : SC) (c5 : Value), (∀ nb, ({ ({ p5 with nb := nb } : Places) with w0 := p.w0 } : Places) = { p with nb := nb }) → p5.w0 = W20 → ApAt W' base p5 y k vk c5 → (p5.nb = p.nb ∨ base ≤ p5.nb) → y = propR s b → Ext (p.foot base) W20 W' → Ending.returned Value.nilIface = .returned (errV (proposeE s b)) ∧ (∃ nb', p.NbOk base nb' ∧ ∃ ch', ApAt W' base { p with nb := nb' } (propR s b) k vk ch') ∧ Ext (p.foot base) w W') := fun W' p5 y c5 h1 h2 h3 h4 h5 h6 => by
       refine ⟨by rw [HE0.out]; rfl, ⟨p5.nb, h4, c5, ?_⟩, ?_⟩
       ·have := h3.here p.w0 (HKp.out.trans (h2 ▸ h3.kb))
        have e := h1 p5.nb
        rw [← h5]
        exact e ▸ this
       ·exact HXw.out.trans h6 (fun _ _ h => h)
      by_cases e36 : ea < eb
      ·have e37 : propR s b = raiseS x4 P.cur P.fin := by rw [HPE.out, if_pos e36]
       have HE37 := Lib.hid e37
       have hcR := raise_calls hA6 HX4ok.out HX4l.out P.cur P.fin HPU.out.2.c HPU.out.2.f
       rw [HP4sb.out] at hcR
       clear e37
       go_wp2_with (first
        | (refine wpList_loadP rfl 38 (.tmp 199) rfl Bj 6 [.int .i64 P.cur.e, .int .u64 P.cur.r] [.bool P.b0, .bool P.b1, .bool P.b2, .bool P.b3, .int .i64 P.prev.e, .int .u64 P.prev.r, .int .i64 P.cur.e, .int .u64 P.cur.r, .int .i64 P.fin.e, .int .u64 P.fin.r] qj6 rfl rfl _ Tryz.underlying38 rfl iPt ?_)
        | (refine wpList_loadP rfl 38 (.tmp 201) rfl Bj 8 [.int .i64 P.fin.e, .int .u64 P.fin.r] [.bool P.b0, .bool P.b1, .bool P.b2, .bool P.b3, .int .i64 P.prev.e, .int .u64 P.prev.r, .int .i64 P.cur.e, .int .u64 P.cur.r, .int .i64 P.fin.e, .int .u64 P.fin.r] qj6 rfl rfl _ Tryz.underlying38 rfl iPt ?_)
        | (go_at_call 62; refine hcR.mono ?_; rintro e W37 ⟨rfl, ⟨nb5, hnb5, ch5, hA7⟩, hx7⟩))
       go_ret
       obtain ⟨p5, hp5⟩ : ∃ p5 : Places, p5 = { sb := p.sb, tb := p4.tb, nb := nb5, vb := p4.vb, lb := p4.lb, gb := p4.gb, bb := p4.bb, w0 := p4.w0 } := ⟨_, rfl⟩
       rw [← hp5] at hA7
       rw [← HP4sb.out] at hp5
       refine HFin.out _ p5 _ ch5 (fun nb => by rw [hp5]; exact HP4b.out nb) (by rw [hp5]; exact HP4w.out) hA7 ?_ HE37.out.symm (HEx6.out.trans hx7 (fun i _ h => HP4f.out i h))
       rw [hp5]
       rcases hnb5 with h | h
       ·rcases HP4n.out with h2 | h2
        ·exact .inl (h.trans h2)
        ·exact .inr (by show base ≤ nb5; omega)
       ·exact .inr h
      ·have e37 : propR s b = x4 := by rw [HPE.out, if_neg e36]
       have HE37 := Lib.hid e37
       clear e37
       go_wp2
       go_ret
       exact HFin.out _ p4 x4 ch3 HP4b.out HP4w.out hA6 HP4n.out HE37.out.symm HEx6.out
end Go.Proofs.YtnppimhlfcjghaaGreat
