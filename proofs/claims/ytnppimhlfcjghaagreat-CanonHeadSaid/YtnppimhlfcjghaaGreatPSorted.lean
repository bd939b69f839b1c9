import Derived.Test.YtnppimhlfcjghaaGreatPRange
import Derived.Test.YtnppimhlfcjghaaGreatPSortU4
import Derived.Test.YtnppimhlfcjghaaGreatPJust
import Derived.Test.YtnppimhlfcjghaaGreatPAdv
import Derived.Conc.MuLone
set_option linter.all false
set_option linter.unusedVariables false
set_option linter.unusedSimpArgs false
namespace Go.Proofs.YtnppimhlfcjghaaGreat
open Go.RowKit Go.Sort
set_option maxRecDepth 100000
set_option maxHeartbeats 1000000
abbrev uV : Int → Value := Value.int .u64
theorem it_enters (args : Array Value) (w : World) : (callFunc 85 args).run Tryz.prog w = .ok (.enter 85 args) w :=
 Go.MuLone.run_callFunc_enter (P := Tryz.prog) Tryz.func85 (by kernel_rfl) rfl args w
theorem Keys_calls (w : World) (b : Nat) : Calls Tryz.prog 70 #[.map (some b)] w fun e w' => e = .returned (.func (.func 85) #[] #[.pointer (some ⟨w.heap.size, 0, none⟩)]) ∧ w' = w.alloc (.cells #[.map (some b)] 118) := by
 go_enter Tryz.func70, Tryz.ntmps70
 go_wp2
 go_ret
 exact ⟨rfl, rfl⟩
def KeyRow (kvs : List (Int × Value)) (w : World) (e : Ending) (w' : World) : Prop := ∃ (v : Value) (ss : List Int), e = .returned v ∧ ss.Perm (keys kvs) ∧ w'.ownsRow w.heap.size 23 1 v ss.length (ss.map uV) ∧ (v = .slice none 0 0 ↔ ss = []) ∧ Below w.heap.size w w'
theorem AppendSeq_calls (w : World) (Bm b : Nat) (kvs : List (Int × Value)) (hm : w.cell? ⟨Bm, 0, none⟩ = some (.map (some b))) (hown : MapAt w b kvs) (hl : kvs.length ≤ 4096) :
    Calls Tryz.prog 92 #[.slice none 0 0, .func (.func 85) #[] #[.pointer (some ⟨Bm, 0, none⟩)]] w (KeyRow kvs w) :=
 callsIn_wide.1 (It.appendSeq_in Fence.wide 4 trivial rfl (by omega) _ _ trivial it_enters (fun ss => ss.Perm (keys kvs)) kvs.length (by unfold maxLen; omega) (by omega) w
  (It.keys_gives Fence.wide 3 trivial rfl (by omega) Bm b kvs w (cell_lt hm) hm hown))
theorem Collect_calls (w : World) (Bm b : Nat) (kvs : List (Int × Value)) (hm : w.cell? ⟨Bm, 0, none⟩ = some (.map (some b))) (hown : MapAt w b kvs) (hl : kvs.length ≤ 4096) :
    Calls Tryz.prog 83 #[.func (.func 85) #[] #[.pointer (some ⟨Bm, 0, none⟩)]] w (KeyRow kvs w) := by
 go_enter Tryz.func83, Tryz.ntmps83
 go_wp2_with (go_at_call 92; refine (AppendSeq_calls w Bm b kvs hm hown hl).mono ?_; rintro e w' ⟨v, ss, rfl, hS, hrow, hnil, hb⟩)
 go_ret
 exact ⟨v, ss, rfl, hS, hrow, hnil, hb⟩
theorem holds_of_blockU {w : World} {g : Nat} {cur : Array Value} {e : TypeId} {ss : List Int} (hb : w.heap[g]? = some (.cells cur e (0, 0))) (ht : cur.toList.take ss.length = ss.map uV) : Holds uV w g 0 ss.toArray := by
 intro j hj
 have hj' : j < ss.length := by simpa using hj
 refine ⟨?_, by simp [World.frozen?, hb]⟩
 have h1 : (cur.toList.take ss.length)[j]? = (ss.map uV)[j]? := by rw [ht]
 rw [List.getElem?_take_of_lt hj'] at h1
 simp only [World.cell?, hb, Nat.zero_add]
 simp only [Option.isSome_none, Bool.false_eq_true, if_false]
 rw [← Array.getElem?_toList, h1]
 simp [hj']
theorem heap_sortedU {w : World} {g n : Nat} {os : Array Obj} {cur : Array Value} {e : TypeId} {fr : Nat × Nat} (d : Array Int) (hb : w.heap[g]? = some (.cells cur e fr)) :
    (grow (putRow uV (Sort.ahead w n) g 0 d) os).heap[g]? = some (.cells (putCells uV 0 d cur) e fr) := by
 have hg : g < w.heap.size := (Array.getElem?_eq_some_iff.1 hb).1
 rw [heap_grow_old _ _ (by simpa using hg)]
 simp [putRow, mapBlock, Sort.ahead, Array.getElem?_modify, hb, onCells]
theorem ext_sortedU {w : World} {g n : Nat} {os : Array Obj} (d : Array Int) : Ext (fun i => i = g) w (grow (putRow uV (Sort.ahead w n) g 0 d) os) := by
 refine ⟨rfl, rfl, rfl, by simp, fun k hk hne => ?_⟩
 rw [heap_grow_old _ _ (by simpa using hk)]
 have : g ≠ k := fun e => hne (by rw [e])
 simp [putRow, mapBlock, Sort.ahead, Array.getElem?_modify, this]
theorem ints_sortedU {w : World} {g n : Nat} {os : Array Obj} {cur : Array Value} {e : TypeId} {B : Nat} (ts : List Int) (hB : B ≤ g) (hb : w.heap[g]? = some (.cells cur e (0, 0))) (h : ts.length ≤ cur.size) :
    Ints (fun b => B ≤ b) .u64 (grow (putRow uV (Sort.ahead w n) g 0 ts.toArray) os) (some ⟨g, 0, none⟩) ts := by
 intro _
 refine ⟨g, 0, rfl, hB, fun j x hx => ⟨_, rfl, rfl, fun i u hi => ?_⟩⟩
 have hj : j < ts.length := (List.getElem?_eq_some_iff.1 hx).1
 match i, hi with
 | 0, hi =>
  obtain rfl : Value.int .u64 x = u := by simpa using hi
  rw [blk_cell (heap_sortedU ts.toArray hb)]
  have hx' : ts[j] = x := by rw [List.getElem?_eq_getElem hj] at hx; simpa using hx
  simp [putCells, hj, show j < cur.size by omega, hx']
 | i + 1, hi => simp at hi
theorem sortI_perm {l l' : List Int} (h : l.Perm l') : sortI l = sortI l' := by
 have tr : ∀ a b c : Int, decide (a ≤ b) = true → decide (b ≤ c) = true → decide (a ≤ c) = true := fun a b c h1 h2 => by simp only [decide_eq_true_eq] at *; exact Int.le_trans h1 h2
 have tt : ∀ a b : Int, (decide (a ≤ b) || decide (b ≤ a)) = true := fun a b => by simp only [Bool.or_eq_true, decide_eq_true_eq]; exact Int.le_total a b
 unfold sortI
 refine List.Perm.eq_of_pairwise (le := fun a b => decide (a ≤ b) = true) (fun a b _ _ h1 h2 => ?_) (List.pairwise_mergeSort tr tt l) (List.pairwise_mergeSort tr tt l') (((List.mergeSort_perm l _).trans h).trans (List.mergeSort_perm l' _).symm)
 simp only [decide_eq_true_eq] at h1 h2
 exact Int.le_antisymm h1 h2
theorem sortI_nil : sortI [] = [] := by simp [sortI]
theorem Sorted_calls (w : World) (Bm b : Nat) (kvs : List (Int × Value)) (hm : w.cell? ⟨Bm, 0, none⟩ = some (.map (some b))) (hown : MapAt w b kvs) (hl : kvs.length ≤ 4096) :
    Calls Tryz.prog 69 #[.func (.func 85) #[] #[.pointer (some ⟨Bm, 0, none⟩)]] w (RetInts .u64 (sortI (keys kvs)) w.heap.size w) := by
 go_enter Tryz.func69, Tryz.ntmps69
 go_upto_region 2 with (go_at_call 83; refine (Collect_calls w Bm b kvs hm hown hl).mono ?_; rintro e W ⟨v, ss, rfl, hS, hrow, hnil, hb⟩)
 rcases hrow.2 with ⟨rfl, hz⟩ | ⟨gb, cap, cur, rfl, hbase, hgb, r1, r2, r3, r4⟩
 ·have hss : ss = [] := List.eq_nil_of_length_eq_zero hz
  subst hss
  go_wp2_with (go_at_call 84; refine (U.Sort_int_nil none 0 W).mono ?_; rintro e w' ⟨rfl, rfl⟩)
  go_ret
  have hk : keys kvs = [] := List.eq_nil_of_length_eq_zero (by have := hS.length_eq; simpa using this.symm)
  refine ⟨none, 0, by rw [hk, sortI_nil]; rfl, ?_, hb⟩
  rw [hk, sortI_nil]
  exact Lie.nil
 ·have hgl : gb < W.heap.size := (Array.getElem?_eq_some_iff.1 hgb).1
  have hH : Holds uV W gb 0 ss.toArray := holds_of_blockU hgb (by simpa using r4)
  have hsl : ss.length ≤ cur.size := by rw [r3]; omega
  have cS := U.slices_Sort_int gb 0 cap ss W hH hgl (by have := hS.length_eq; simp only [keys, List.length_map] at this; omega)
  have HP := Lib.hid hS
  clear hrow hnil r4 r3 hS
  go_wp2_with (go_at_call 84; refine cS.mono ?_; rintro e w' ⟨rfl, nn, os, rfl⟩)
  go_ret
  have e : (ss.mergeSort fun x y => decide (x ≤ y)) = sortI (keys kvs) := sortI_perm HP.out
  have el : (sortI (keys kvs)).length = ss.length := by rw [← e]; simp
  rw [e]
  refine ⟨some ⟨gb, 0, none⟩, cap, by rw [el]; rfl, ints_sortedU _ hbase hgb (by omega), ?_⟩
  exact hb.trans ((ext_sortedU _).below hb.size (fun i hi e => by omega))
theorem keys_nd (t : Tr) : keys (ndKV t.nodes) = keys t.nodes := by simp [keys, ndKV]
theorem Roots_calls {w : World} {tb nb : Nat} {t : Tr} (h : TreeAt w tb nb t) (hl : t.nodes.length ≤ 4096) : Calls Tryz.prog 41 #[.pointer (some ⟨tb, 0, none⟩)] w (RetInts .u64 t.roots w.heap.size w) := by
 have hc := blk_cell h.blk 1
 have hM := h.map.below (below_alloc (Below.refl _ w) (.cells #[.map (some nb)] 118))
 have cS := Sorted_calls (w.alloc (.cells #[.map (some nb)] 118)) w.heap.size nb (ndKV t.nodes) (by rw [blk_cell (heap_new w _)]; rfl) hM (by simpa [ndKV] using hl)
 rw [keys_nd] at cS
 have hb0 : Below w.heap.size w (w.alloc (.cells #[.map (some nb)] 118)) := below_alloc (Below.refl _ _) _
 clear hM
 go_enter Tryz.func41, Tryz.ntmps41
 go_wp2_with (first
  | (go_at_call 70; refine (Keys_calls _ nb).mono ?_; rintro e w1 ⟨rfl, rfl⟩)
  | (go_at_call 69; refine cS.mono ?_; rintro e w2 ⟨A, c, rfl, hI, hb⟩))
 go_ret
 refine ⟨A, c, rfl, hI.mono (fun b h => by have := hb0.size; omega), below_then hb0 (by simp) hb⟩
end Go.Proofs.YtnppimhlfcjghaaGreat
