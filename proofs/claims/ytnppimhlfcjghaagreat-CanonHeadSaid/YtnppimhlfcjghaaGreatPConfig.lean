import Derived.Test.YtnppimhlfcjghaaGreatPApp
import Derived.Test.YtnppimhlfcjghaaGreatPRange
import Derived.Test.YtnppimhlfcjghaaGreatPSteps
import Derived.Test.YtnppimhlfcjghaaGreatPJust
import Derived.Test.YtnppimhlfcjghaaGreatPAttest
import Derived.Deep.CutBlock
set_option linter.all false
set_option linter.unusedVariables false
set_option linter.unusedSimpArgs false
namespace Go.Proofs.YtnppimhlfcjghaaGreat
open Go.RowKit
set_option maxRecDepth 100000
set_option maxHeartbeats 8000000
def RetConfig (w : World) (e : Ending) (w' : World) : Prop :=
 ∃ (c : Cf) (A : Option Addr) (k : Nat), e = .returned (cfC c A k) ∧ c.ok ∧ Ints (fun b => w.heap.size ≤ b) .u64 w' A c.bal ∧ Below w.heap.size w w'
theorem cfg_own {w2 : World} {B base n : Nat} {A' : Option Addr} {c' : Nat} {bl : List Int} {x : Int} {cs : Array Value} {v : Value} (h : w2.ownsRow base 23 1 (.slice A' (n + 1) c') (n + 1) (bl.map (Value.int .u64) ++ [.int .u64 x])) (hq : w2.heap[B + 1]? = some (.cells cs 27 (0, 0))) :
    Hid ((w2.setCell ⟨B + 1, 0, none⟩ v).ownsRow base 23 1 (.slice A' (n + 1) c') (n + 1) ((bl ++ [x]).map (Value.int .u64))) := by
 have : w2.ownsRow base 23 1 (.slice A' (n + 1) c') (n + 1) ((bl ++ [x]).map (Value.int .u64)) := by simpa using h
 have hx : Ext (fun i => i = B + 1) w2 (w2.setCell ⟨B + 1, 0, none⟩ v) := (Ext.refl _ _).set1
 exact own_ext this hx (fun b hb e => by
  obtain ⟨ds, hd, _⟩ := own_kind this hb
  have e' : b = B + 1 := e
  subst e'
  rw [hq] at hd
  injection hd with hd
  injection hd with _ e2 _
  exact absurd e2 (by decide))
theorem cfg_zero {wr w2 : World} {B : Nat} {o ob : Obj} {row : Option Nat} {v : Value} (h : wr.heap[B]? = some o) (hg : (wr.alloc ob).grownBy w2 row) (hne : some B ≠ row) : Hid ((w2.setCell ⟨B + 1, 0, none⟩ v).heap[B]? = some o) :=
 blk_far (grown_keep hg (blk_below h (below_alloc (Below.refl _ _) ob)) hne) (by show B ≠ B + 1; omega) v
theorem Ints.below' {ok : Nat → Prop} {k : IntKind} {w w0 w' : World} {B : Nat} {A : Option Addr} {xs : List Int} (h : Ints ok k w0 A xs) (hB : w.heap.size = B) (hb : Below B w w') (h0 : Below B w w0) (hi : ∀ b, ok b → b < B) : Ints ok k w' A xs :=
 Lie.mono h (fun _ _ _ x => x) (fun _ x => x) (fun b hb' _ => (hb.block b (hi b hb')).trans (h0.block b (hi b hb')).symm)
theorem Config_calls (w : World) (ns : List Int) (An : Option Addr) (kn : Nat) (sl bo : Int) (hn : Ints anyB .u8 w An ns) (hnr : ∀ x ∈ ns, 0 ≤ x ∧ x < 256) (hnl : ns.length ≤ maxLen) (hsl : 0 ≤ sl ∧ sl < 256) (hbo : 0 ≤ bo ∧ bo < 256) :
    Calls Tryz.prog 11 #[.slice An ns.length kn, .int .u8 sl, .int .u8 bo] w (RetConfig w) := by
 have hs4 : 0 ≤ sl % 4 ∧ sl % 4 < 4 := ⟨Int.emod_nonneg _ (by omega), Int.emod_lt_of_pos _ (by omega)⟩
 have hb4 : 0 ≤ bo % 101 ∧ bo % 101 < 101 := ⟨Int.emod_nonneg _ (by omega), Int.emod_lt_of_pos _ (by omega)⟩
 go_enter Tryz.func11, Tryz.ntmps11
 go_upto_block 0 with fail
 obtain ⟨q0, q1, hbw, hsz⟩ := alloc2 w (.cells #[.slice none 0 0, .int .i64 0, .int .i64 0] 27) (.cells #[.slice none 0 0, .int .i64 (1 + sl % 4), .int .i64 (bo % 101)] 27)
 have hn0 : Ints (fun b => anyB b ∧ b < w.heap.size) .u8 w An ns := Lie.lt hn (by omega)
 generalize (w.alloc _).alloc _ = W0 at q0 q1 hbw hsz ⊢
 generalize hB : w.heap.size = B at q0 q1 hbw hsz hn0 ⊢
 have HB := Lib.hid hB
 clear hB hn
 go_wp2
 go_loopw [8, 9] (fun i b wr => ∃ (j : Nat) (bl : List Int) (Ak : Option Addr) (ck : Nat), j ≤ 6 ∧ i = .int .i64 j ∧ bl.length = j ∧ (∀ x ∈ bl, 0 ≤ x ∧ x ≤ 4294967296) ∧ wr.heap[B + 1]? = some (.cells #[.slice Ak j ck, .int .i64 (1 + sl % 4), .int .i64 (bo % 101)] 27 (0, 0)) ∧ Hid (wr.ownsRow B 23 1 (.slice Ak j ck) j (bl.map (Value.int .u64))) ∧ Hid (wr.heap[B]? = some (.cells #[.slice none 0 0, .int .i64 0, .int .i64 0] 27 (0, 0))) ∧ Hid (Below B w wr)) (fun i _ _ => 6 - (intOf i).toNat)
 case atStart => exact ⟨0, [], none, 0, by omega, rfl, rfl, (fun x hx => by cases hx), q1, own_nil _ _ _ _, q0, hbw⟩
 case round =>
  clear q0 q1
  obtain ⟨j, bl, Ak, ck, hj, rfl, hbl, hbr, q1, HO, HQ0, HW⟩ := hrel
  by_cases h6 : j < 6
  ·have hBr : B ≤ wr.heap.size := by have := blk_lt HQ0.out; omega
   have HBl := Lib.hid hbr
   obtain ⟨v0, _⟩ := cs3 q1
   have HQ1 := Lib.hid q1
   have HOb : Hid (∀ g, (Value.slice Ak j ck).ownBlock = some g → g ≠ B + 1 ∧ g ≠ B) := fun g hg => by
    obtain ⟨ds, hd, _⟩ := own_kind HO.out hg
    refine ⟨fun e => ?_, fun e => ?_⟩
    ·subst e; rw [q1] at hd; injection hd with hd; injection hd with _ e2 _; exact absurd e2 (by decide)
    ·subst e; rw [HQ0.out] at hd; injection hd with hd; injection hd with _ e2 _; exact absurd e2 (by decide)
   clear hbr q1
   by_cases hl : j < ns.length
   ·obtain ⟨b, o, rfl, _, hc⟩ := (Ints.below' hn0 HB.out HW.out (by rw [← HB.out]; exact Below.refl _ _) (fun b hb => hb.2)).get hl
    have hx := hnr (ns.getD j 0) (by rw [List.getD_eq_getElem?_getD, List.getElem?_eq_getElem hl]; exact List.getElem_mem _)
    generalize ns.getD j 0 = x at hc hx
    have HO1 := Lib.hid (HO.out.alloc (.cells #[.int .u64 x] 23))
    go_wp2_with (at_builtin; refine wpList_app B rfl (.tmp 32) (.tmp 34) 25 23 (.int .u64 0) 1 8 rfl Tryz.underlying25 It.infoU64 rfl (by decide) _ j _ rfl HO1.out (some ⟨wr.heap.size, 0, none⟩) 1 1 [.int .u64 x] rfl rfl (Flat.one _ _ _) (by simp [Value.oneCell']) (by omega) (by omega) (by simp; omega) ?_; intro A' c' w2 hown hg _; have HO2 := Lib.hid hown; have HG := Lib.hid hg; have qv2 := grown_keep hg (blk_below HQ1.out (below_alloc (Below.refl _ _) (.cells #[.int .u64 x] 23))) (fun e => (HOb.out _ e.symm).1 rfl); have zv := blk_frozen qv2 0; obtain ⟨v62, _⟩ := cs3 qv2; have HQv2 := Lib.hid qv2; clear hown hg qv2)
    go_roundw
    case rel =>
     refine ⟨j + 1, bl ++ [x], A', c', by omega, by go_num, by simp [hbl], ?_, blk_set HQv2.out 0 _, ?_, ?_, ?_⟩
     ·intro y hy
      rcases List.mem_append.1 hy with h1 | h1
      ·exact HBl.out y h1
      ·simp only [List.mem_singleton] at h1
       subst h1
       omega
     ·exact cfg_own HO2.out HQv2.out
     ·exact cfg_zero HQ0.out HG.out (fun e => (HOb.out _ e.symm).2 rfl)
     ·show Below _ _ _
      exact ((HW.out.alloc (by omega) _).grown HG.out (by simp; omega) (own_base HO1.out)).setCell (by simp) _
    case measure => simp [intOf]; omega
   ·have HO1 := Lib.hid (HO.out.alloc (.cells #[.int .u64 10] 23))
    go_wp2_with (at_builtin; refine wpList_app B rfl (.tmp 32) (.tmp 34) 25 23 (.int .u64 0) 1 8 rfl Tryz.underlying25 It.infoU64 rfl (by decide) _ j _ rfl HO1.out (some ⟨wr.heap.size, 0, none⟩) 1 1 [.int .u64 10] rfl rfl (Flat.one _ _ _) (by simp [Value.oneCell']) (by omega) (by omega) (by simp; omega) ?_; intro A' c' w2 hown hg _; have HO2 := Lib.hid hown; have HG := Lib.hid hg; have qv2 := grown_keep hg (blk_below HQ1.out (below_alloc (Below.refl _ _) (.cells #[.int .u64 10] 23))) (fun e => (HOb.out _ e.symm).1 rfl); have zv := blk_frozen qv2 0; obtain ⟨v62, _⟩ := cs3 qv2; have HQv2 := Lib.hid qv2; clear hown hg qv2)
    go_roundw
    case rel =>
     refine ⟨j + 1, bl ++ [10], A', c', by omega, by go_num, by simp [hbl], ?_, blk_set HQv2.out 0 _, ?_, ?_, ?_⟩
     ·intro y hy
      rcases List.mem_append.1 hy with h1 | h1
      ·exact HBl.out y h1
      ·simp only [List.mem_singleton] at h1
       subst h1
       omega
     ·exact cfg_own HO2.out HQv2.out
     ·exact cfg_zero HQ0.out HG.out (fun e => (HOb.out _ e.symm).2 rfl)
     ·show Below _ _ _
      exact ((HW.out.alloc (by omega) _).grown HG.out (by simp; omega) (own_base HO1.out)).setCell (by simp) _
    case measure => simp [intOf]; omega
  ·obtain rfl : j = 6 := by omega
   have q0' := HQ0.out
   have hl1 : bl.length ≤ 4096 := by omega
   go_wp2_with (first
    | (refine wpList_loadB rfl 27 (.tmp 7) rfl (B + 1) [.slice Ak 6 ck, .int .i64 (1 + sl % 4), .int .i64 (bo % 101)] q1 rfl _ Tryz.underlying27 rfl iCf ?_)
    | (refine wpList_storeB rfl 27 (.tmp 6) (.tmp 37) rfl B [.slice none 0 0, .int .i64 0, .int .i64 0] [.slice Ak 6 ck, .int .i64 (1 + sl % 4), .int .i64 (bo % 101)] q0' rfl rfl rfl iCf rfl ?_; intro W12 q12 hx12 hs12))
   refine bodyPost_ret (results_cellB rfl _ B _ q12 rfl _ Tryz.underlying27 rfl iCf) rfl ?_
   refine ⟨⟨bl, 1 + sl % 4, bo % 101⟩, Ak, ck, by simp [cfC, hbl], ⟨by show 1 ≤ bl.length; omega, hl1, hbr, by show 1 ≤ 1 + sl % 4; omega, by show 1 + sl % 4 ≤ 64; omega, by show 0 ≤ bo % 101; omega, by show bo % 101 ≤ 100; omega⟩, ?_, ?_⟩
   ·rw [HB.out]
    have hown : W12.ownsRow B 23 1 (.slice Ak 6 ck) 6 (bl.map (Value.int .u64)) := own_ext HO.out hx12 (fun b hb e => by
     obtain ⟨ds, hd, _⟩ := own_kind HO.out hb
     have e' : b = B := e
     subst e'
     rw [q0'] at hd
     injection hd with hd
     injection hd with _ e2 _
     exact absurd e2 (by decide))
    exact Ints.of_own hown
   ·rw [HB.out]
    exact below_ext HW.out hx12 (by rw [HB.out]; exact Nat.le_refl _) (Nat.le_refl _)
end Go.Proofs.YtnppimhlfcjghaaGreat
