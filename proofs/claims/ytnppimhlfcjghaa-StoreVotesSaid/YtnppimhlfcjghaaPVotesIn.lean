import Derived.Test.YtnppimhlfcjghaaPVotesP
import Derived.Test.YtnppimhlfcjghaaPPmAwake
import Derived.Test.YtnppimhlfcjghaaPOpsK
import Derived.BigQuiet
set_option linter.all false
set_option linter.unusedVariables false
set_option linter.unusedSimpArgs false
namespace Go.Proofs.Ytnppimhlfcjghaa
open Go.RowKit
set_option maxRecDepth 100000
set_option maxHeartbeats 40000000
theorem votes_in2 {Q : Exit → Act → World → Prop} {W3 W4 : World} {E g cw cc' Bx : Nat} {s : St} {e : Ev} {X : List Chg} {A' A1 A2 A3 A4 A5 : Option Addr} {c1 c2 c3 c4 c5 : Nat} {y0 y1 y2 y3 y4 y5 y6 y7 y8 y9 y10 y14 y16 y18 y19 y20 y21 y22 y23 y24 y25 y26 y27 y28 y29 y30 y31 y32 y33 y34 y35 y36 y37 y38 y39 y40 y41 y42 y43 y44 y45 y46 y47 y48 y49 y50 y51 y52 y53 y54 y55 y56 y57 y58 y59 y60 y61 y62 y63 y64 y65 y66 y67 y68 y69 y70 y71 y72 y73 y74 y75 y76 y77 y78 y79 y80 y81 y82 y83 y84 y85 y86 y87 y88 y89 y90 y91 y92 y93 y94 y95 y96 y97 y98 y99 y100 y101 y102 y103 y104 y105 y106 y107 y108 y109 y110 y111 y112 y113 y114 y115 y116 y117 y118 y119 y120 y121 y122 y123 y124 y125 y126 y127 y128 y129 y130 y131 y132 y133 y134 y135 y136 y137 y138 y139 y140 y141 y142 y143 y144 y145 y146 y147 y148 y149 y150 y151 y152 y153 y154 y155 y156 y157 y158 y159 y160 y161 y162 y163 y164 y165 y166 y167 y168 y169 y170 y171 y172 y173 y174 y175 y176 : Value}
    (HQE3 : Hid (W3.heap[E]? = some (.cells #[.int .i64 e.kind, .int .i64 e.slot, .int .u64 e.block.root, .int .u64 e.block.parent, .int .i64 e.block.slot, .slice A1 e.block.votes.length c1, .slice A2 e.block.proofs.length c2, .int .i64 e.vote.slot, .int .u64 e.vote.head, .int .i64 e.vote.src.e, .int .u64 e.vote.src.r, .int .i64 e.vote.tgt.e, .int .u64 e.vote.tgt.r, .slice A3 e.vote.who.length c3, .int .i64 e.proof.a.slot, .int .u64 e.proof.a.head, .int .i64 e.proof.a.src.e, .int .u64 e.proof.a.src.r, .int .i64 e.proof.a.tgt.e, .int .u64 e.proof.a.tgt.r, .slice A4 e.proof.a.who.length c4, .int .i64 e.proof.b.slot, .int .u64 e.proof.b.head, .int .i64 e.proof.b.src.e, .int .u64 e.proof.b.src.r, .int .i64 e.proof.b.tgt.e, .int .u64 e.proof.b.tgt.r, .slice A5 e.proof.b.who.length c5] 66 (0, 0)))) (HV3 : Hid (VotesR W3 g s.votes)) (HVL : Hid (s.votes.length = s.c.bal.length)) (hvn : 1 ≤ s.votes.length ∧ s.votes.length ≤ 4096) (HKk : Hid (e.kind = 2)) (hb4 : Below W3.heap.size W3 W4)
    (HCH : Hid (W3.ownsRow Bx 75 6 (.slice A' X.length cc') X.length (X.flatMap chgC))) (HIN : Hid (∀ (i : Nat) (k : Int), e.vote.who[i]? = some k → 0 ≤ k ∧ k < s.c.bal.length)) (HX : Hid (X = (e.vote.who.filter (fun k => takes s.votes k e.vote.tgt.e)).map (movedC s.votes e.vote.head)))
    (hwi : Hid (Ints (fun _ => True) .i64 W4 A3 e.vote.who)) (hlw : e.vote.who.length ≤ 9223372036854775807)
    (hPan : ∀ c a (d : Tmp) v w, Q (.panic c) (Act.put a (some d) v) w → Q (.panic c) a w) (hQ : ∀ (z6 z19 z20 z21 z22 z23 z96 z97 z98 z99 z100 z101 z102 z103 z104 z105 z106 z107 z108 z109 z110 z111 z112 z113 z114 z115 z116 z117 z118 z119 z120 z121 z122 z123 z124 z125 z126 z127 z128 z129 z130 z131 z132 z133 z134 z135 z136 z137 z138 z139 z140 z141 z142 z143 z144 z145 z146 z147 z148 z149 z150 z151 z152 z153 z154 z155 z156 z157 z158 z159 z160 z161 z162 z163 z164 z165 z166 z167 z168 z169 z170 z171 : Value) (w' : World), Below W4.heap.size W4 w' → Q .normal { tmps := #[y0, y1, y2, y3, y4, y5, z6, y7, y8, y9, y10, .pointer (some ⟨E, 0, none⟩), .slice (some ⟨g, 0, none⟩) s.votes.length cw, .slice A' X.length cc', y14, .slice A3 e.vote.who.length c3, y16, .int .i64 X.length, y18, z19, z20, z21, z22, z23, y24, y25, y26, y27, y28, y29, y30, y31, y32, y33, y34, y35, y36, y37, y38, y39, y40, y41, y42, y43, y44, y45, y46, y47, y48, y49, y50, y51, y52, y53, y54, y55, y56, y57, y58, y59, y60, y61, y62, y63, y64, y65, y66, y67, y68, y69, y70, y71, y72, y73, y74, y75, y76, y77, y78, y79, y80, y81, y82, y83, y84, y85, y86, y87, y88, y89, y90, y91, y92, y93, y94, y95, z96, z97, z98, z99, z100, z101, z102, z103, z104, z105, z106, z107, z108, z109, z110, z111, z112, z113, z114, z115, z116, z117, z118, z119, z120, z121, z122, z123, z124, z125, z126, z127, z128, z129, z130, z131, z132, z133, z134, z135, z136, z137, z138, z139, z140, z141, z142, z143, z144, z145, z146, z147, z148, z149, z150, z151, z152, z153, z154, z155, z156, z157, z158, z159, z160, z161, z162, z163, z164, z165, z166, z167, z168, z169, z170, z171, y172, y173, y174, y175, y176], defers := [] } w') :
    Code.wp Try.prog (pth [1, 1, 1, 1, 1, 0, 1, 2, 3, 1, 1, 0, 2, 1, 1, 1, 1, 1, 1, 1, 0] ((Try.f4.body).getD .skip)) Q { tmps := #[y0, y1, y2, y3, y4, y5, y6, y7, y8, y9, y10, .pointer (some ⟨E, 0, none⟩), .slice (some ⟨g, 0, none⟩) s.votes.length cw, .slice A' X.length cc', y14, .slice A3 e.vote.who.length c3, y16, .int .i64 0, y18, y19, y20, y21, y22, y23, y24, y25, y26, y27, y28, y29, y30, y31, y32, y33, y34, y35, y36, y37, y38, y39, y40, y41, y42, y43, y44, y45, y46, y47, y48, y49, y50, y51, y52, y53, y54, y55, y56, y57, y58, y59, y60, y61, y62, y63, y64, y65, y66, y67, y68, y69, y70, y71, y72, y73, y74, y75, y76, y77, y78, y79, y80, y81, y82, y83, y84, y85, y86, y87, y88, y89, y90, y91, y92, y93, y94, y95, y96, y97, y98, y99, y100, y101, y102, y103, y104, y105, y106, y107, y108, y109, y110, y111, y112, y113, y114, y115, y116, y117, y118, y119, y120, y121, y122, y123, y124, y125, y126, y127, y128, y129, y130, y131, y132, y133, y134, y135, y136, y137, y138, y139, y140, y141, y142, y143, y144, y145, y146, y147, y148, y149, y150, y151, y152, y153, y154, y155, y156, y157, y158, y159, y160, y161, y162, y163, y164, y165, y166, y167, y168, y169, y170, y171, y172, y173, y174, y175, y176], defers := [] } W4 := by
 have HQ := Lib.hid hQ
 clear hQ
 conv in (pth _ _) => simp only [Try.f4, pth, Option.getD_some]
 go_wp2
 go_loopw [17, 98] (fun x y wi => ∃ i : Nat, x = .int .i64 (cnt (fun k => takes s.votes k e.vote.tgt.e) e.vote.who i) ∧ y = .int .i64 i ∧ i ≤ e.vote.who.length ∧ Below W4.heap.size W4 wi) (fun _ y _ => e.vote.who.length - (intOf y).toNat)
 case atStart => exact ⟨0, by rw [cnt_zero]; rfl, rfl, Nat.zero_le _, Below.refl _ _⟩
 case round =>
  obtain ⟨i, rfl, rfl, hi, hbi⟩ := hrel
  by_cases hlti : i < e.vote.who.length
  ·obtain ⟨k, hk⟩ : ∃ k, e.vote.who[i]? = some k := ⟨_, List.getElem?_eq_getElem hlti⟩
   obtain ⟨hk0, hk1⟩ := HIN.out i k hk
   obtain ⟨kn, rfl⟩ : ∃ kn : Nat, k = kn := ⟨k.toNat, by omega⟩
   rw [← HVL.out] at hk1
   obtain ⟨bw, ow, hAw, -, hc⟩ := (hwi.out.below hbi).get hlti
   subst hAw
   rw [show e.vote.who.getD i 0 = (kn : Int) from by rw [List.getD_eq_getElem?_getD, hk]; rfl] at hc
   have hknl : kn < s.votes.length := by omega
   have hx := List.getElem?_eq_getElem hknl
   generalize s.votes[kn] = x at hx
   have hvi := HV3.out.below (below_then hb4 hb4.size hbi)
   have cG := VGetR_calls hvi cw kn hknl (by omega)
   have hm := takes_in hx e.vote.tgt.e
   have hcg := fun hp => cnt_get (P := (fun k => takes s.votes k e.vote.tgt.e)) (movedC s.votes e.vote.head) hk hp
   have hcy := fun hp => cnt_yes (P := (fun k => takes s.votes k e.vote.tgt.e)) hk hp
   have hcn := fun hp => cnt_no (P := (fun k => takes s.votes k e.vote.tgt.e)) hk hp
   generalize hgv : getV s.votes (kn : Int) = gv at cG
   have hfk : (movedC s.votes e.vote.head) (kn : Int) = ⟨1, e.vote.head, 0, kn, gv.1, gv.2⟩ := by rw [← hgv]; rfl
   obtain ⟨x0, x1, x2, x3⟩ := hvi kn x hx
   have HG := Lib.hid (And.intro hcg (And.intro hcy hcn))
   have HM := Lib.hid hm
   have HFK := Lib.hid hfk
   have HK := Lib.hid (And.intro hk hx)
   clear hcg hcy hcn hm hfk hk hx hgv hvi
   have hbi4 := below_then hb4 hb4.size hbi
   have qei := cs28 (blk_below HQE3.out hbi4)
   rw [HKk.out] at qei
   obtain ⟨v0, -, -, -, -, -, -, -, v8, -, -, v11, -⟩ := qei
   cases hbn : x.banned with
   | true =>
    rw [hbn] at x3
    have hgZ := cell_lt x0
    have hEZ := cell_lt v0
    go_upto_region 24 with (go_at_call 20; refine cG.mono ?_; rintro en5 W5 ⟨rfl, rfl⟩)
    have hbz := below_alloc (Below.refl wr.heap.size wr) (.cells #[.int .i64 2, .int .u64 0, .int .u64 0, .int .i64 kn, .int .u64 gv.1, .bool gv.2] 75)
    have qz := heap_new wr (.cells #[.int .i64 2, .int .u64 0, .int .u64 0, .int .i64 kn, .int .u64 gv.1, .bool gv.2] 75)
    have hbiz := below_then hbi hbi.size hbz
    have hsz := hbi.size
    replace x0 := cell_below x0 hbz
    replace x1 := cell_below x1 hbz
    replace x3 := cell_below x3 hbz
    replace v0 := cell_below v0 hbz
    replace v8 := cell_below v8 hbz
    replace v11 := cell_below v11 hbz
    clear x2
    generalize wr.alloc (.cells #[.int .i64 2, .int .u64 0, .int .u64 0, .int .i64 kn, .int .u64 gv.1, .bool gv.2] 75) = W6 at qz hbiz x0 x1 x3 v0 v8 v11 hbz ⊢
    generalize wr.heap.size = Z at qz hgZ hEZ hsz hbz ⊢
    clear cG hbz
    go_upto_region 26 with fail
    have hDz : Below W6.heap.size W6 W6.drew := (Below.refl _ W6).drew
    have qz1 := blk_below qz hDz
    have h26 := cell_below v8 hDz
    have bz0 : W6.drew.cell? ⟨Z, 0, none⟩ = some (.int .i64 2) := by rw [blk_cell qz1]; rfl
    have fz0 := blk_frozen qz1 0
    have bz1 : W6.cell? ⟨Z, 1, none⟩ = some (.int .u64 0) := by rw [blk_cell qz]; rfl
    have fz1 := blk_frozen qz 1
    refine beginK (fun w' => w'.cell? ⟨E, 8, none⟩ = some (.int .u64 e.vote.head)) 6 (by rfl) ?_
    have hHeld := h26
    refine kW 0 129 hHeld ?_ (hQ := fun c a w h => hPan c a _ _ w h)
    refine kW 1 130 hHeld ?_ (hQ := fun c a w h => hPan c a _ _ w h)
    refine kW 2 131 hHeld ?_ (hQ := fun c a w h => hPan c a _ _ w h)
    refine kW 3 132 hHeld ?_ (hQ := fun c a w h => hPan c a _ _ w h)
    refine readyK (rs := [4]) (by kernel_rfl) (by simp) ?_
    refine AllReadyK.cons rfl (fun K hK => ?_) AllReadyK.nil
    go_simp
    have h27 : (W6.drew.setCell ⟨Z, 0, none⟩ (.int .i64 1)).cell? ⟨E, 8, none⟩ = some (.int .u64 e.vote.head) := cell_ext h26 (F := fun i => i = Z) ((Ext.refl _ _).set1) (fun e => by have e' : E = Z := e; omega)
    refine hK.out _ _ (fun _ => h27) ?_
    have hHeld := h27
    clear hK K
    try simp only [Act.put, sA, sB, sC]
    refine kW 5 133 hHeld ?_ (hQ := fun c a w h => hPan c a _ _ w h)
    refine readyK (rs := [6]) (by kernel_rfl) (by simp) ?_
    refine AllReadyK.cons rfl (fun K hK => ?_) AllReadyK.nil
    go_simp
    refine hK.out _ _ (fun h => absurd rfl h) ?_
    clear hK K
    try simp only [Act.put, sA, sB, sC]
    refine doneK (by kernel_rfl) ?_ _
    have qz3 : (((W6.setCell ⟨Z, 0, none⟩ (.int .i64 1)).setCell ⟨Z, 1, none⟩ (.int .u64 e.vote.head)).drew).heap[Z]? = some (.cells #[.int .i64 1, .int .u64 e.vote.head, .int .u64 0, .int .i64 kn, .int .u64 gv.1, .bool gv.2] 75 (0, 0)) := blk_set (blk_set qz 0 _) 1 _
    have hxa : Ext (fun i => i = Z) W6 (W6.setCell ⟨Z, 0, none⟩ (.int .i64 1)) := (Ext.refl _ _).set1
    have hxb : Ext (fun i => i = Z) (W6.setCell ⟨Z, 0, none⟩ (.int .i64 1)) ((W6.setCell ⟨Z, 0, none⟩ (.int .i64 1)).setCell ⟨Z, 1, none⟩ (.int .u64 e.vote.head)) := (Ext.refl _ _).set1
    have hx : Ext (fun i => i = Z) W6 (((W6.setCell ⟨Z, 0, none⟩ (.int .i64 1)).setCell ⟨Z, 1, none⟩ (.int .u64 e.vote.head)).drew) := (hxa.trans hxb (fun _ _ h => h)).drew
    replace x0 := cell_ext x0 hx (fun e => by have e' : g = Z := e; omega)
    replace x1 := cell_ext x1 hx (fun e => by have e' : g = Z := e; omega)
    replace x3 := cell_ext x3 hx (fun e => by have e' : g = Z := e; omega)
    replace v0 := cell_ext v0 hx (fun e => by have e' : E = Z := e; omega)
    replace v11 := cell_ext v11 hx (fun e => by have e' : E = Z := e; omega)
    have hbw8 := below_ext hbiz hx (Nat.le_refl _) hsz
    clear hx hxa hxb qz qz1 bz0 bz1 fz0 fz1 h26 h27 hHeld hDz hbiz v8
    generalize (((W6.setCell ⟨Z, 0, none⟩ (.int .i64 1)).setCell ⟨Z, 1, none⟩ (.int .u64 e.vote.head)).drew) = W8 at qz3 x0 x1 x3 v0 v11 hbw8 ⊢
    go_upto_region 27 with fail
    go_quiet (fail)
    have hcz := HG.out.2.2 (by show takes s.votes (kn : Int) e.vote.tgt.e = _; rw [HM.out, hbn]; rfl)
    clear HG HM HFK HK
    go_wp2
    go_roundw
    case rel => exact ⟨i + 1, by rw [hcz], by go_num, by omega, (by first | exact hbw8 | exact below_then hbw8 hbw8.size (below_drewN (Below.refl _ _) _))⟩
    case measure => simp [intOf]; omega
   | false =>
    rw [hbn] at x3
    have HBN := Lib.hid hbn
    clear hbn
    cases hhs : x.has with
    | false =>
     rw [hhs] at x0
     have hgZ := cell_lt x0
     have hEZ := cell_lt v0
     go_upto_region 24 with (go_at_call 20; refine cG.mono ?_; rintro en5 W5 ⟨rfl, rfl⟩)
     have hbz := below_alloc (Below.refl wr.heap.size wr) (.cells #[.int .i64 2, .int .u64 0, .int .u64 0, .int .i64 kn, .int .u64 gv.1, .bool gv.2] 75)
     have qz := heap_new wr (.cells #[.int .i64 2, .int .u64 0, .int .u64 0, .int .i64 kn, .int .u64 gv.1, .bool gv.2] 75)
     have hbiz := below_then hbi hbi.size hbz
     have hsz := hbi.size
     replace x0 := cell_below x0 hbz
     replace x1 := cell_below x1 hbz
     replace x3 := cell_below x3 hbz
     replace v0 := cell_below v0 hbz
     replace v8 := cell_below v8 hbz
     replace v11 := cell_below v11 hbz
     clear x2
     generalize wr.alloc (.cells #[.int .i64 2, .int .u64 0, .int .u64 0, .int .i64 kn, .int .u64 gv.1, .bool gv.2] 75) = W6 at qz hbiz x0 x1 x3 v0 v8 v11 hbz ⊢
     generalize wr.heap.size = Z at qz hgZ hEZ hsz hbz ⊢
     clear cG hbz
     go_upto_region 26 with fail
     have hDz : Below W6.heap.size W6 W6.drew := (Below.refl _ W6).drew
     have qz1 := blk_below qz hDz
     have h26 := cell_below v8 hDz
     have bz0 : W6.drew.cell? ⟨Z, 0, none⟩ = some (.int .i64 2) := by rw [blk_cell qz1]; rfl
     have fz0 := blk_frozen qz1 0
     have bz1 : W6.cell? ⟨Z, 1, none⟩ = some (.int .u64 0) := by rw [blk_cell qz]; rfl
     have fz1 := blk_frozen qz 1
     refine beginK (fun w' => w'.cell? ⟨E, 8, none⟩ = some (.int .u64 e.vote.head)) 6 (by rfl) ?_
     have hHeld := h26
     refine kW 0 129 hHeld ?_ (hQ := fun c a w h => hPan c a _ _ w h)
     refine kW 1 130 hHeld ?_ (hQ := fun c a w h => hPan c a _ _ w h)
     refine kW 2 131 hHeld ?_ (hQ := fun c a w h => hPan c a _ _ w h)
     refine kW 3 132 hHeld ?_ (hQ := fun c a w h => hPan c a _ _ w h)
     refine readyK (rs := [4]) (by kernel_rfl) (by simp) ?_
     refine AllReadyK.cons rfl (fun K hK => ?_) AllReadyK.nil
     go_simp
     have h27 : (W6.drew.setCell ⟨Z, 0, none⟩ (.int .i64 1)).cell? ⟨E, 8, none⟩ = some (.int .u64 e.vote.head) := cell_ext h26 (F := fun i => i = Z) ((Ext.refl _ _).set1) (fun e => by have e' : E = Z := e; omega)
     refine hK.out _ _ (fun _ => h27) ?_
     have hHeld := h27
     clear hK K
     try simp only [Act.put, sA, sB, sC]
     refine kW 5 133 hHeld ?_ (hQ := fun c a w h => hPan c a _ _ w h)
     refine readyK (rs := [6]) (by kernel_rfl) (by simp) ?_
     refine AllReadyK.cons rfl (fun K hK => ?_) AllReadyK.nil
     go_simp
     refine hK.out _ _ (fun h => absurd rfl h) ?_
     clear hK K
     try simp only [Act.put, sA, sB, sC]
     refine doneK (by kernel_rfl) ?_ _
     have qz3 : (((W6.setCell ⟨Z, 0, none⟩ (.int .i64 1)).setCell ⟨Z, 1, none⟩ (.int .u64 e.vote.head)).drew).heap[Z]? = some (.cells #[.int .i64 1, .int .u64 e.vote.head, .int .u64 0, .int .i64 kn, .int .u64 gv.1, .bool gv.2] 75 (0, 0)) := blk_set (blk_set qz 0 _) 1 _
     have hxa : Ext (fun i => i = Z) W6 (W6.setCell ⟨Z, 0, none⟩ (.int .i64 1)) := (Ext.refl _ _).set1
     have hxb : Ext (fun i => i = Z) (W6.setCell ⟨Z, 0, none⟩ (.int .i64 1)) ((W6.setCell ⟨Z, 0, none⟩ (.int .i64 1)).setCell ⟨Z, 1, none⟩ (.int .u64 e.vote.head)) := (Ext.refl _ _).set1
     have hx : Ext (fun i => i = Z) W6 (((W6.setCell ⟨Z, 0, none⟩ (.int .i64 1)).setCell ⟨Z, 1, none⟩ (.int .u64 e.vote.head)).drew) := (hxa.trans hxb (fun _ _ h => h)).drew
     replace x0 := cell_ext x0 hx (fun e => by have e' : g = Z := e; omega)
     replace x1 := cell_ext x1 hx (fun e => by have e' : g = Z := e; omega)
     replace x3 := cell_ext x3 hx (fun e => by have e' : g = Z := e; omega)
     replace v0 := cell_ext v0 hx (fun e => by have e' : E = Z := e; omega)
     replace v11 := cell_ext v11 hx (fun e => by have e' : E = Z := e; omega)
     have hbw8 := below_ext hbiz hx (Nat.le_refl _) hsz
     clear hx hxa hxb qz qz1 bz0 bz1 fz0 fz1 h26 h27 hHeld hDz hbiz v8
     generalize (((W6.setCell ⟨Z, 0, none⟩ (.int .i64 1)).setCell ⟨Z, 1, none⟩ (.int .u64 e.vote.head)).drew) = W8 at qz3 x0 x1 x3 v0 v11 hbw8 ⊢
     go_upto_region 27 with fail
     go_quiet (fail)
     have hp : (fun k => takes s.votes k e.vote.tgt.e) (kn : Int) = true := by show takes s.votes (kn : Int) e.vote.tgt.e = _; rw [HM.out, HBN.out, hhs]; rfl
     have hxg := HG.out.1 hp
     have hcz := HG.out.2.1 hp
     rw [HFK.out, ← HX.out] at hxg
     have hNl := (List.getElem?_eq_some_iff.1 hxg).1
     have hXm : X.length ≤ 9223372036854775807 := by have h1 := (own_fits2 HCH.out).2.2; unfold maxLen at h1; omega
     obtain ⟨g3, hA3, hcc3⟩ := chg_cellsV HCH.out hxg
     subst hA3
     have HCZ := Lib.hid hcz
     generalize cnt (fun k => takes s.votes k e.vote.tgt.e) e.vote.who i = N0 at hcc3 hNl HCZ ⊢
     have hB := below_then hb4 hb4.size hbw8
     have c0 := cell_below (hcc3 0 _ rfl) hB
     have c1 := cell_below (hcc3 1 _ rfl) hB
     have c2 := cell_below (hcc3 2 _ rfl) hB
     have c3 := cell_below (hcc3 3 _ rfl) hB
     have c4 := cell_below (hcc3 4 _ rfl) hB
     have c5 := cell_below (hcc3 5 _ rfl) hB
     rw [Nat.add_zero] at c0
     clear hcz hp hxg hcc3 HG HM HFK HK hB
     obtain ⟨d0, d1, d2, d3, d4, d5⟩ := cs6 qz3
     go_upto_region 29 with fail
     go_quiet (fail)
     go_wp2
     go_roundw
     case rel => exact ⟨i + 1, by rw [HCZ.out]; first | go_num | (simp; done) | (push_cast; rfl), by go_num, by omega, (by first | exact hbw8 | exact below_then hbw8 hbw8.size (below_drewN (Below.refl _ _) _))⟩
     case measure => simp [intOf]; omega
    | true =>
     rw [hhs] at x0
     have HHS := Lib.hid hhs
     clear hhs
     by_cases hlt2 : x.epoch < e.vote.tgt.e
     ·have hd : decide (x.epoch < e.vote.tgt.e) = true := decide_eq_true hlt2
      have hgZ := cell_lt x0
      have hEZ := cell_lt v0
      go_upto_region 24 with (go_at_call 20; refine cG.mono ?_; rintro en5 W5 ⟨rfl, rfl⟩)
      have hbz := below_alloc (Below.refl wr.heap.size wr) (.cells #[.int .i64 2, .int .u64 0, .int .u64 0, .int .i64 kn, .int .u64 gv.1, .bool gv.2] 75)
      have qz := heap_new wr (.cells #[.int .i64 2, .int .u64 0, .int .u64 0, .int .i64 kn, .int .u64 gv.1, .bool gv.2] 75)
      have hbiz := below_then hbi hbi.size hbz
      have hsz := hbi.size
      replace x0 := cell_below x0 hbz
      replace x1 := cell_below x1 hbz
      replace x3 := cell_below x3 hbz
      replace v0 := cell_below v0 hbz
      replace v8 := cell_below v8 hbz
      replace v11 := cell_below v11 hbz
      clear x2
      generalize wr.alloc (.cells #[.int .i64 2, .int .u64 0, .int .u64 0, .int .i64 kn, .int .u64 gv.1, .bool gv.2] 75) = W6 at qz hbiz x0 x1 x3 v0 v8 v11 hbz ⊢
      generalize wr.heap.size = Z at qz hgZ hEZ hsz hbz ⊢
      clear cG hbz
      go_upto_region 26 with fail
      have hDz : Below W6.heap.size W6 W6.drew := (Below.refl _ W6).drew
      have qz1 := blk_below qz hDz
      have h26 := cell_below v8 hDz
      have bz0 : W6.drew.cell? ⟨Z, 0, none⟩ = some (.int .i64 2) := by rw [blk_cell qz1]; rfl
      have fz0 := blk_frozen qz1 0
      have bz1 : W6.cell? ⟨Z, 1, none⟩ = some (.int .u64 0) := by rw [blk_cell qz]; rfl
      have fz1 := blk_frozen qz 1
      refine beginK (fun w' => w'.cell? ⟨E, 8, none⟩ = some (.int .u64 e.vote.head)) 6 (by rfl) ?_
      have hHeld := h26
      refine kW 0 129 hHeld ?_ (hQ := fun c a w h => hPan c a _ _ w h)
      refine kW 1 130 hHeld ?_ (hQ := fun c a w h => hPan c a _ _ w h)
      refine kW 2 131 hHeld ?_ (hQ := fun c a w h => hPan c a _ _ w h)
      refine kW 3 132 hHeld ?_ (hQ := fun c a w h => hPan c a _ _ w h)
      refine readyK (rs := [4]) (by kernel_rfl) (by simp) ?_
      refine AllReadyK.cons rfl (fun K hK => ?_) AllReadyK.nil
      go_simp
      have h27 : (W6.drew.setCell ⟨Z, 0, none⟩ (.int .i64 1)).cell? ⟨E, 8, none⟩ = some (.int .u64 e.vote.head) := cell_ext h26 (F := fun i => i = Z) ((Ext.refl _ _).set1) (fun e => by have e' : E = Z := e; omega)
      refine hK.out _ _ (fun _ => h27) ?_
      have hHeld := h27
      clear hK K
      try simp only [Act.put, sA, sB, sC]
      refine kW 5 133 hHeld ?_ (hQ := fun c a w h => hPan c a _ _ w h)
      refine readyK (rs := [6]) (by kernel_rfl) (by simp) ?_
      refine AllReadyK.cons rfl (fun K hK => ?_) AllReadyK.nil
      go_simp
      refine hK.out _ _ (fun h => absurd rfl h) ?_
      clear hK K
      try simp only [Act.put, sA, sB, sC]
      refine doneK (by kernel_rfl) ?_ _
      have qz3 : (((W6.setCell ⟨Z, 0, none⟩ (.int .i64 1)).setCell ⟨Z, 1, none⟩ (.int .u64 e.vote.head)).drew).heap[Z]? = some (.cells #[.int .i64 1, .int .u64 e.vote.head, .int .u64 0, .int .i64 kn, .int .u64 gv.1, .bool gv.2] 75 (0, 0)) := blk_set (blk_set qz 0 _) 1 _
      have hxa : Ext (fun i => i = Z) W6 (W6.setCell ⟨Z, 0, none⟩ (.int .i64 1)) := (Ext.refl _ _).set1
      have hxb : Ext (fun i => i = Z) (W6.setCell ⟨Z, 0, none⟩ (.int .i64 1)) ((W6.setCell ⟨Z, 0, none⟩ (.int .i64 1)).setCell ⟨Z, 1, none⟩ (.int .u64 e.vote.head)) := (Ext.refl _ _).set1
      have hx : Ext (fun i => i = Z) W6 (((W6.setCell ⟨Z, 0, none⟩ (.int .i64 1)).setCell ⟨Z, 1, none⟩ (.int .u64 e.vote.head)).drew) := (hxa.trans hxb (fun _ _ h => h)).drew
      replace x0 := cell_ext x0 hx (fun e => by have e' : g = Z := e; omega)
      replace x1 := cell_ext x1 hx (fun e => by have e' : g = Z := e; omega)
      replace x3 := cell_ext x3 hx (fun e => by have e' : g = Z := e; omega)
      replace v0 := cell_ext v0 hx (fun e => by have e' : E = Z := e; omega)
      replace v11 := cell_ext v11 hx (fun e => by have e' : E = Z := e; omega)
      have hbw8 := below_ext hbiz hx (Nat.le_refl _) hsz
      clear hx hxa hxb qz qz1 bz0 bz1 fz0 fz1 h26 h27 hHeld hDz hbiz v8
      generalize (((W6.setCell ⟨Z, 0, none⟩ (.int .i64 1)).setCell ⟨Z, 1, none⟩ (.int .u64 e.vote.head)).drew) = W8 at qz3 x0 x1 x3 v0 v11 hbw8 ⊢
      go_upto_region 27 with fail
      go_quiet (fail)
      have hp : (fun k => takes s.votes k e.vote.tgt.e) (kn : Int) = true := by show takes s.votes (kn : Int) e.vote.tgt.e = _; rw [HM.out, HBN.out, HHS.out]; simp; omega
      have hxg := HG.out.1 hp
      have hcz := HG.out.2.1 hp
      rw [HFK.out, ← HX.out] at hxg
      have hNl := (List.getElem?_eq_some_iff.1 hxg).1
      have hXm : X.length ≤ 9223372036854775807 := by have h1 := (own_fits2 HCH.out).2.2; unfold maxLen at h1; omega
      obtain ⟨g3, hA3, hcc3⟩ := chg_cellsV HCH.out hxg
      subst hA3
      have HCZ := Lib.hid hcz
      generalize cnt (fun k => takes s.votes k e.vote.tgt.e) e.vote.who i = N0 at hcc3 hNl HCZ ⊢
      have hB := below_then hb4 hb4.size hbw8
      have c0 := cell_below (hcc3 0 _ rfl) hB
      have c1 := cell_below (hcc3 1 _ rfl) hB
      have c2 := cell_below (hcc3 2 _ rfl) hB
      have c3 := cell_below (hcc3 3 _ rfl) hB
      have c4 := cell_below (hcc3 4 _ rfl) hB
      have c5 := cell_below (hcc3 5 _ rfl) hB
      rw [Nat.add_zero] at c0
      clear hcz hp hxg hcc3 HG HM HFK HK hB
      obtain ⟨d0, d1, d2, d3, d4, d5⟩ := cs6 qz3
      go_upto_region 29 with fail
      go_quiet (fail)
      go_wp2
      go_roundw
      case rel => exact ⟨i + 1, by rw [HCZ.out]; first | go_num | (simp; done) | (push_cast; rfl), by go_num, by omega, (by first | exact hbw8 | exact below_then hbw8 hbw8.size (below_drewN (Below.refl _ _) _))⟩
      case measure => simp [intOf]; omega
     ·have hd : decide (x.epoch < e.vote.tgt.e) = false := decide_eq_false hlt2
      have hgZ := cell_lt x0
      have hEZ := cell_lt v0
      go_upto_region 24 with (go_at_call 20; refine cG.mono ?_; rintro en5 W5 ⟨rfl, rfl⟩)
      have hbz := below_alloc (Below.refl wr.heap.size wr) (.cells #[.int .i64 2, .int .u64 0, .int .u64 0, .int .i64 kn, .int .u64 gv.1, .bool gv.2] 75)
      have qz := heap_new wr (.cells #[.int .i64 2, .int .u64 0, .int .u64 0, .int .i64 kn, .int .u64 gv.1, .bool gv.2] 75)
      have hbiz := below_then hbi hbi.size hbz
      have hsz := hbi.size
      replace x0 := cell_below x0 hbz
      replace x1 := cell_below x1 hbz
      replace x3 := cell_below x3 hbz
      replace v0 := cell_below v0 hbz
      replace v8 := cell_below v8 hbz
      replace v11 := cell_below v11 hbz
      clear x2
      generalize wr.alloc (.cells #[.int .i64 2, .int .u64 0, .int .u64 0, .int .i64 kn, .int .u64 gv.1, .bool gv.2] 75) = W6 at qz hbiz x0 x1 x3 v0 v8 v11 hbz ⊢
      generalize wr.heap.size = Z at qz hgZ hEZ hsz hbz ⊢
      clear cG hbz
      go_upto_region 26 with fail
      have hDz : Below W6.heap.size W6 W6.drew := (Below.refl _ W6).drew
      have qz1 := blk_below qz hDz
      have h26 := cell_below v8 hDz
      have bz0 : W6.drew.cell? ⟨Z, 0, none⟩ = some (.int .i64 2) := by rw [blk_cell qz1]; rfl
      have fz0 := blk_frozen qz1 0
      have bz1 : W6.cell? ⟨Z, 1, none⟩ = some (.int .u64 0) := by rw [blk_cell qz]; rfl
      have fz1 := blk_frozen qz 1
      refine beginK (fun w' => w'.cell? ⟨E, 8, none⟩ = some (.int .u64 e.vote.head)) 6 (by rfl) ?_
      have hHeld := h26
      refine kW 0 129 hHeld ?_ (hQ := fun c a w h => hPan c a _ _ w h)
      refine kW 1 130 hHeld ?_ (hQ := fun c a w h => hPan c a _ _ w h)
      refine kW 2 131 hHeld ?_ (hQ := fun c a w h => hPan c a _ _ w h)
      refine kW 3 132 hHeld ?_ (hQ := fun c a w h => hPan c a _ _ w h)
      refine readyK (rs := [4]) (by kernel_rfl) (by simp) ?_
      refine AllReadyK.cons rfl (fun K hK => ?_) AllReadyK.nil
      go_simp
      have h27 : (W6.drew.setCell ⟨Z, 0, none⟩ (.int .i64 1)).cell? ⟨E, 8, none⟩ = some (.int .u64 e.vote.head) := cell_ext h26 (F := fun i => i = Z) ((Ext.refl _ _).set1) (fun e => by have e' : E = Z := e; omega)
      refine hK.out _ _ (fun _ => h27) ?_
      have hHeld := h27
      clear hK K
      try simp only [Act.put, sA, sB, sC]
      refine kW 5 133 hHeld ?_ (hQ := fun c a w h => hPan c a _ _ w h)
      refine readyK (rs := [6]) (by kernel_rfl) (by simp) ?_
      refine AllReadyK.cons rfl (fun K hK => ?_) AllReadyK.nil
      go_simp
      refine hK.out _ _ (fun h => absurd rfl h) ?_
      clear hK K
      try simp only [Act.put, sA, sB, sC]
      refine doneK (by kernel_rfl) ?_ _
      have qz3 : (((W6.setCell ⟨Z, 0, none⟩ (.int .i64 1)).setCell ⟨Z, 1, none⟩ (.int .u64 e.vote.head)).drew).heap[Z]? = some (.cells #[.int .i64 1, .int .u64 e.vote.head, .int .u64 0, .int .i64 kn, .int .u64 gv.1, .bool gv.2] 75 (0, 0)) := blk_set (blk_set qz 0 _) 1 _
      have hxa : Ext (fun i => i = Z) W6 (W6.setCell ⟨Z, 0, none⟩ (.int .i64 1)) := (Ext.refl _ _).set1
      have hxb : Ext (fun i => i = Z) (W6.setCell ⟨Z, 0, none⟩ (.int .i64 1)) ((W6.setCell ⟨Z, 0, none⟩ (.int .i64 1)).setCell ⟨Z, 1, none⟩ (.int .u64 e.vote.head)) := (Ext.refl _ _).set1
      have hx : Ext (fun i => i = Z) W6 (((W6.setCell ⟨Z, 0, none⟩ (.int .i64 1)).setCell ⟨Z, 1, none⟩ (.int .u64 e.vote.head)).drew) := (hxa.trans hxb (fun _ _ h => h)).drew
      replace x0 := cell_ext x0 hx (fun e => by have e' : g = Z := e; omega)
      replace x1 := cell_ext x1 hx (fun e => by have e' : g = Z := e; omega)
      replace x3 := cell_ext x3 hx (fun e => by have e' : g = Z := e; omega)
      replace v0 := cell_ext v0 hx (fun e => by have e' : E = Z := e; omega)
      replace v11 := cell_ext v11 hx (fun e => by have e' : E = Z := e; omega)
      have hbw8 := below_ext hbiz hx (Nat.le_refl _) hsz
      clear hx hxa hxb qz qz1 bz0 bz1 fz0 fz1 h26 h27 hHeld hDz hbiz v8
      generalize (((W6.setCell ⟨Z, 0, none⟩ (.int .i64 1)).setCell ⟨Z, 1, none⟩ (.int .u64 e.vote.head)).drew) = W8 at qz3 x0 x1 x3 v0 v11 hbw8 ⊢
      go_upto_region 27 with fail
      go_quiet (fail)
      have hcz := HG.out.2.2 (by show takes s.votes (kn : Int) e.vote.tgt.e = _; rw [HM.out, HBN.out, HHS.out]; simp; omega)
      clear HG HM HFK HK
      go_wp2
      go_roundw
      case rel => exact ⟨i + 1, by rw [hcz], by go_num, by omega, (by first | exact hbw8 | exact below_then hbw8 hbw8.size (below_drewN (Below.refl _ _) _))⟩
      case measure => simp [intOf]; omega
  ·obtain rfl : i = e.vote.who.length := by omega
   have hce : cnt (fun k => takes s.votes k e.vote.tgt.e) e.vote.who e.vote.who.length = X.length := by rw [cnt_all, HX.out, List.length_map]
   rw [hce]
   go_wp2
   apply HQ.out
   exact hbi
theorem votes_in3 {Q : Exit → Act → World → Prop} {W3 W4 : World} {E g cw cc' Bx : Nat} {s : St} {e : Ev} {X : List Chg} {A' A1 A2 A3 A4 A5 Aw : Option Addr} {c1 c2 c3 c4 c5 cq : Nat} {L : List Int} {y0 y1 y2 y3 y4 y5 y6 y7 y8 y9 y10 y14 y16 y18 y19 y20 y21 y22 y23 y24 y25 y26 y27 y28 y29 y30 y31 y32 y33 y34 y35 y36 y37 y38 y39 y40 y41 y42 y43 y44 y45 y46 y47 y48 y49 y50 y51 y52 y53 y54 y55 y56 y57 y58 y59 y60 y61 y62 y63 y64 y65 y66 y67 y68 y69 y70 y71 y72 y73 y74 y75 y76 y77 y78 y79 y80 y81 y82 y83 y84 y85 y86 y87 y88 y89 y90 y91 y92 y93 y94 y95 y96 y97 y98 y99 y100 y101 y102 y103 y104 y105 y106 y107 y108 y109 y110 y111 y112 y113 y114 y115 y116 y117 y118 y119 y120 y121 y122 y123 y124 y125 y126 y127 y128 y129 y130 y131 y132 y133 y134 y135 y136 y137 y138 y139 y140 y141 y142 y143 y144 y145 y146 y147 y148 y149 y150 y151 y152 y153 y154 y155 y156 y157 y158 y159 y160 y161 y162 y163 y164 y165 y166 y167 y168 y169 y170 y171 y172 y173 y174 y175 y176 : Value}
    (HQE3 : Hid (W3.heap[E]? = some (.cells #[.int .i64 e.kind, .int .i64 e.slot, .int .u64 e.block.root, .int .u64 e.block.parent, .int .i64 e.block.slot, .slice A1 e.block.votes.length c1, .slice A2 e.block.proofs.length c2, .int .i64 e.vote.slot, .int .u64 e.vote.head, .int .i64 e.vote.src.e, .int .u64 e.vote.src.r, .int .i64 e.vote.tgt.e, .int .u64 e.vote.tgt.r, .slice A3 e.vote.who.length c3, .int .i64 e.proof.a.slot, .int .u64 e.proof.a.head, .int .i64 e.proof.a.src.e, .int .u64 e.proof.a.src.r, .int .i64 e.proof.a.tgt.e, .int .u64 e.proof.a.tgt.r, .slice A4 e.proof.a.who.length c4, .int .i64 e.proof.b.slot, .int .u64 e.proof.b.head, .int .i64 e.proof.b.src.e, .int .u64 e.proof.b.src.r, .int .i64 e.proof.b.tgt.e, .int .u64 e.proof.b.tgt.r, .slice A5 e.proof.b.who.length c5] 66 (0, 0)))) (HV3 : Hid (VotesR W3 g s.votes)) (HVL : Hid (s.votes.length = s.c.bal.length)) (hvn : 1 ≤ s.votes.length ∧ s.votes.length ≤ 4096) (HKk : Hid (e.kind = 3)) (hb4 : Below W3.heap.size W3 W4)
    (HCH : Hid (W3.ownsRow Bx 75 6 (.slice A' X.length cc') X.length (X.flatMap chgC))) (HIN : Hid (∀ (i : Nat) (k : Int), L[i]? = some k → 0 ≤ k ∧ k < s.c.bal.length)) (HX : Hid (X = (L.filter (fun k => bans s.votes k)).map (bannedC s.votes)))
    (hwi : Hid (Ints (fun _ => True) .i64 W4 Aw L)) (hlw : L.length ≤ 9223372036854775807)
    (hPan : ∀ c a (d : Tmp) v w, Q (.panic c) (Act.put a (some d) v) w → Q (.panic c) a w) (hQ : ∀ (z6 z19 z20 z21 z22 z23 z96 z97 z98 z99 z100 z101 z102 z103 z104 z105 z106 z107 z108 z109 z110 z111 z112 z113 z114 z115 z116 z117 z118 z119 z120 z121 z122 z123 z124 z125 z126 z127 z128 z129 z130 z131 z132 z133 z134 z135 z136 z137 z138 z139 z140 z141 z142 z143 z144 z145 z146 z147 z148 z149 z150 z151 z152 z153 z154 z155 z156 z157 z158 z159 z160 z161 z162 z163 z164 z165 z166 z167 z168 z169 z170 z171 : Value) (w' : World), Below W4.heap.size W4 w' → Q .normal { tmps := #[y0, y1, y2, y3, y4, y5, z6, y7, y8, y9, y10, .pointer (some ⟨E, 0, none⟩), .slice (some ⟨g, 0, none⟩) s.votes.length cw, .slice A' X.length cc', y14, .slice Aw L.length cq, y16, .int .i64 X.length, y18, z19, z20, z21, z22, z23, y24, y25, y26, y27, y28, y29, y30, y31, y32, y33, y34, y35, y36, y37, y38, y39, y40, y41, y42, y43, y44, y45, y46, y47, y48, y49, y50, y51, y52, y53, y54, y55, y56, y57, y58, y59, y60, y61, y62, y63, y64, y65, y66, y67, y68, y69, y70, y71, y72, y73, y74, y75, y76, y77, y78, y79, y80, y81, y82, y83, y84, y85, y86, y87, y88, y89, y90, y91, y92, y93, y94, y95, z96, z97, z98, z99, z100, z101, z102, z103, z104, z105, z106, z107, z108, z109, z110, z111, z112, z113, z114, z115, z116, z117, z118, z119, z120, z121, z122, z123, z124, z125, z126, z127, z128, z129, z130, z131, z132, z133, z134, z135, z136, z137, z138, z139, z140, z141, z142, z143, z144, z145, z146, z147, z148, z149, z150, z151, z152, z153, z154, z155, z156, z157, z158, z159, z160, z161, z162, z163, z164, z165, z166, z167, z168, z169, z170, z171, y172, y173, y174, y175, y176], defers := [] } w') :
    Code.wp Try.prog (pth [1, 1, 1, 1, 1, 0, 1, 2, 3, 1, 1, 0, 2, 1, 1, 1, 1, 1, 1, 1, 0] ((Try.f4.body).getD .skip)) Q { tmps := #[y0, y1, y2, y3, y4, y5, y6, y7, y8, y9, y10, .pointer (some ⟨E, 0, none⟩), .slice (some ⟨g, 0, none⟩) s.votes.length cw, .slice A' X.length cc', y14, .slice Aw L.length cq, y16, .int .i64 0, y18, y19, y20, y21, y22, y23, y24, y25, y26, y27, y28, y29, y30, y31, y32, y33, y34, y35, y36, y37, y38, y39, y40, y41, y42, y43, y44, y45, y46, y47, y48, y49, y50, y51, y52, y53, y54, y55, y56, y57, y58, y59, y60, y61, y62, y63, y64, y65, y66, y67, y68, y69, y70, y71, y72, y73, y74, y75, y76, y77, y78, y79, y80, y81, y82, y83, y84, y85, y86, y87, y88, y89, y90, y91, y92, y93, y94, y95, y96, y97, y98, y99, y100, y101, y102, y103, y104, y105, y106, y107, y108, y109, y110, y111, y112, y113, y114, y115, y116, y117, y118, y119, y120, y121, y122, y123, y124, y125, y126, y127, y128, y129, y130, y131, y132, y133, y134, y135, y136, y137, y138, y139, y140, y141, y142, y143, y144, y145, y146, y147, y148, y149, y150, y151, y152, y153, y154, y155, y156, y157, y158, y159, y160, y161, y162, y163, y164, y165, y166, y167, y168, y169, y170, y171, y172, y173, y174, y175, y176], defers := [] } W4 := by
 have HQ := Lib.hid hQ
 clear hQ
 conv in (pth _ _) => simp only [Try.f4, pth, Option.getD_some]
 go_wp2
 go_loopw [17, 98] (fun x y wi => ∃ i : Nat, x = .int .i64 (cnt (fun k => bans s.votes k) L i) ∧ y = .int .i64 i ∧ i ≤ L.length ∧ Below W4.heap.size W4 wi) (fun _ y _ => L.length - (intOf y).toNat)
 case atStart => exact ⟨0, by rw [cnt_zero]; rfl, rfl, Nat.zero_le _, Below.refl _ _⟩
 case round =>
  obtain ⟨i, rfl, rfl, hi, hbi⟩ := hrel
  by_cases hlti : i < L.length
  ·obtain ⟨k, hk⟩ : ∃ k, L[i]? = some k := ⟨_, List.getElem?_eq_getElem hlti⟩
   obtain ⟨hk0, hk1⟩ := HIN.out i k hk
   obtain ⟨kn, rfl⟩ : ∃ kn : Nat, k = kn := ⟨k.toNat, by omega⟩
   rw [← HVL.out] at hk1
   obtain ⟨bw, ow, hAw, -, hc⟩ := (hwi.out.below hbi).get hlti
   subst hAw
   rw [show L.getD i 0 = (kn : Int) from by rw [List.getD_eq_getElem?_getD, hk]; rfl] at hc
   have hknl : kn < s.votes.length := by omega
   have hx := List.getElem?_eq_getElem hknl
   generalize s.votes[kn] = x at hx
   have hvi := HV3.out.below (below_then hb4 hb4.size hbi)
   have cG := VGetR_calls hvi cw kn hknl (by omega)
   have hm := bans_in hx
   have hcg := fun hp => cnt_get (P := (fun k => bans s.votes k)) (bannedC s.votes) hk hp
   have hcy := fun hp => cnt_yes (P := (fun k => bans s.votes k)) hk hp
   have hcn := fun hp => cnt_no (P := (fun k => bans s.votes k)) hk hp
   generalize hgv : getV s.votes (kn : Int) = gv at cG
   have hfk : (bannedC s.votes) (kn : Int) = ⟨2, 0, 0, kn, gv.1, gv.2⟩ := by rw [← hgv]; rfl
   obtain ⟨x0, x1, x2, x3⟩ := hvi kn x hx
   have HG := Lib.hid (And.intro hcg (And.intro hcy hcn))
   have HM := Lib.hid hm
   have HFK := Lib.hid hfk
   have HK := Lib.hid (And.intro hk hx)
   clear hcg hcy hcn hm hfk hk hx hgv hvi
   have hbi4 := below_then hb4 hb4.size hbi
   have qei := cs28 (blk_below HQE3.out hbi4)
   rw [HKk.out] at qei
   obtain ⟨v0, -, -, -, -, -, -, -, v8, -, -, v11, -⟩ := qei
   cases hbn : x.banned with
   | true =>
    rw [hbn] at x3
    have hgZ := cell_lt x0
    have hEZ := cell_lt v0
    go_upto_region 24 with (go_at_call 20; refine cG.mono ?_; rintro en5 W5 ⟨rfl, rfl⟩)
    have hbz := below_alloc (Below.refl wr.heap.size wr) (.cells #[.int .i64 2, .int .u64 0, .int .u64 0, .int .i64 kn, .int .u64 gv.1, .bool gv.2] 75)
    have qz := heap_new wr (.cells #[.int .i64 2, .int .u64 0, .int .u64 0, .int .i64 kn, .int .u64 gv.1, .bool gv.2] 75)
    have hbiz := below_then hbi hbi.size hbz
    have hsz := hbi.size
    replace x0 := cell_below x0 hbz
    replace x1 := cell_below x1 hbz
    replace x3 := cell_below x3 hbz
    replace v0 := cell_below v0 hbz
    replace v8 := cell_below v8 hbz
    replace v11 := cell_below v11 hbz
    clear x2
    generalize wr.alloc (.cells #[.int .i64 2, .int .u64 0, .int .u64 0, .int .i64 kn, .int .u64 gv.1, .bool gv.2] 75) = W6 at qz hbiz x0 x1 x3 v0 v8 v11 hbz ⊢
    generalize wr.heap.size = Z at qz hgZ hEZ hsz hbz ⊢
    clear cG hbz
    have qz3 := qz
    have hbw8 := hbiz
    clear qz hbiz x0 x1 v8 v11
    generalize W6 = W8 at *
    have hcz := HG.out.2.2 (by show bans s.votes (kn : Int) = _; rw [HM.out, hbn]; rfl)
    clear HG HM HFK HK
    go_wp2
    go_roundw
    case rel => exact ⟨i + 1, by rw [hcz], by go_num, by omega, (by first | exact hbw8 | exact below_then hbw8 hbw8.size (below_drewN (Below.refl _ _) _))⟩
    case measure => simp [intOf]; omega
   | false =>
    rw [hbn] at x3
    have hgZ := cell_lt x0
    have hEZ := cell_lt v0
    go_upto_region 24 with (go_at_call 20; refine cG.mono ?_; rintro en5 W5 ⟨rfl, rfl⟩)
    have hbz := below_alloc (Below.refl wr.heap.size wr) (.cells #[.int .i64 2, .int .u64 0, .int .u64 0, .int .i64 kn, .int .u64 gv.1, .bool gv.2] 75)
    have qz := heap_new wr (.cells #[.int .i64 2, .int .u64 0, .int .u64 0, .int .i64 kn, .int .u64 gv.1, .bool gv.2] 75)
    have hbiz := below_then hbi hbi.size hbz
    have hsz := hbi.size
    replace x0 := cell_below x0 hbz
    replace x1 := cell_below x1 hbz
    replace x3 := cell_below x3 hbz
    replace v0 := cell_below v0 hbz
    replace v8 := cell_below v8 hbz
    replace v11 := cell_below v11 hbz
    clear x2
    generalize wr.alloc (.cells #[.int .i64 2, .int .u64 0, .int .u64 0, .int .i64 kn, .int .u64 gv.1, .bool gv.2] 75) = W6 at qz hbiz x0 x1 x3 v0 v8 v11 hbz ⊢
    generalize wr.heap.size = Z at qz hgZ hEZ hsz hbz ⊢
    clear cG hbz
    have qz3 := qz
    have hbw8 := hbiz
    clear qz hbiz x0 x1 v8 v11
    generalize W6 = W8 at *
    have hp : (fun k => bans s.votes k) (kn : Int) = true := by show bans s.votes (kn : Int) = _; rw [HM.out, hbn]; rfl
    have hxg := HG.out.1 hp
    have hcz := HG.out.2.1 hp
    rw [HFK.out, ← HX.out] at hxg
    have hNl := (List.getElem?_eq_some_iff.1 hxg).1
    have hXm : X.length ≤ 9223372036854775807 := by have h1 := (own_fits2 HCH.out).2.2; unfold maxLen at h1; omega
    obtain ⟨g3, hA3, hcc3⟩ := chg_cellsV HCH.out hxg
    subst hA3
    have HCZ := Lib.hid hcz
    generalize cnt (fun k => bans s.votes k) L i = N0 at hcc3 hNl HCZ ⊢
    have hB := below_then hb4 hb4.size hbw8
    have c0 := cell_below (hcc3 0 _ rfl) hB
    have c1 := cell_below (hcc3 1 _ rfl) hB
    have c2 := cell_below (hcc3 2 _ rfl) hB
    have c3 := cell_below (hcc3 3 _ rfl) hB
    have c4 := cell_below (hcc3 4 _ rfl) hB
    have c5 := cell_below (hcc3 5 _ rfl) hB
    rw [Nat.add_zero] at c0
    clear hcz hp hxg hcc3 HG HM HFK HK hB
    obtain ⟨d0, d1, d2, d3, d4, d5⟩ := cs6 qz3
    go_upto_region 29 with fail
    go_quiet (fail)
    go_wp2
    go_roundw
    case rel => exact ⟨i + 1, by rw [HCZ.out]; first | go_num | (simp; done) | (push_cast; rfl), by go_num, by omega, (by first | exact hbw8 | exact below_then hbw8 hbw8.size (below_drewN (Below.refl _ _) _))⟩
    case measure => simp [intOf]; omega
  ·obtain rfl : i = L.length := by omega
   have hce : cnt (fun k => bans s.votes k) L L.length = X.length := by rw [cnt_all, HX.out, List.length_map]
   rw [hce]
   go_wp2
   apply HQ.out
   exact hbi
end Go.Proofs.Ytnppimhlfcjghaa
