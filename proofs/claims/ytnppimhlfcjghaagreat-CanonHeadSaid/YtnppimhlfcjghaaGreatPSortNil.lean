import Derived.Test.YtnppimhlfcjghaaGreatPBits
import Derived.Test.YtnppimhlfcjghaaGreatPLeaf
import Derived.Test.YtnppimhlfcjghaaGreatPSortI4
import Derived.Test.YtnppimhlfcjghaaGreatPVote2
import Derived.Test.YtnppimhlfcjghaaGreatPJust
import Derived.Test.YtnppimhlfcjghaaGreatPAdv
set_option linter.all false
set_option linter.unusedVariables false
set_option linter.unusedSimpArgs false
namespace Go.Proofs.YtnppimhlfcjghaaGreat
open Go.RowKit
set_option maxRecDepth 100000
set_option maxHeartbeats 4000000
theorem insNil_calls (w : World) : Calls Tryz.prog 109 #[.slice none 0 0, .int .i64 0, .int .i64 0] w fun e w' => (∃ v, e = .returned v) ∧ w = w' := by
 go_enter Tryz.func109, Tryz.ntmps109
 go_wp2
 go_loopw [6] (fun i wr => i = .int .i64 1 ∧ Hid (w = wr)) (fun _ _ => 0)
 case atStart => exact ⟨rfl, rfl⟩
 case round =>
  obtain ⟨rfl, HW⟩ := hrel
  obtain rfl := HW.out
  go_wp2
  go_end0
  exact ⟨⟨_, rfl⟩, rfl⟩
theorem pdqNil_calls (w : World) (n : Int) : Calls Tryz.prog 97 #[.slice none 0 0, .int .i64 0, .int .i64 0, .int .i64 n] w fun e w' => (∃ v, e = .returned v) ∧ w = w' := by
 have hI := insNil_calls w
 go_enter Tryz.func97, Tryz.ntmps97
 go_wp2
 go_loopw [1, 2] (fun a b wr => a = .int .i64 0 ∧ b = .int .i64 0 ∧ Hid (w = wr)) (fun _ _ _ => 0)
 case atStart => exact ⟨rfl, rfl, rfl⟩
 case round =>
  obtain ⟨rfl, rfl, HW⟩ := hrel
  obtain rfl := HW.out
  go_wp2_with (go_at_call 109; refine hI.mono ?_; rintro e w1 ⟨⟨v, rfl⟩, rfl⟩)
  (try simp only [Exit.inBlock, Exit.then])
  refine bodyPost_ret (results_none rfl _ _ _) rfl ?_
  exact ⟨⟨_, rfl⟩, rfl⟩
theorem SortNil_calls (w : World) : Calls Tryz.prog 91 #[.slice none 0 0] w fun e w' => (∃ v, e = .returned v) ∧ w = w' := by
 have hP := pdqNil_calls w
 have hB := Bt.bits_Len 0 w (by omega) (by omega)
 go_enter Tryz.func91, Tryz.ntmps91
 go_wp2_with (first
  | (go_at_call 94; refine hB.mono ?_; rintro e w1 ⟨rfl, rfl⟩)
  | (go_at_call 97; refine (hP _).mono ?_; rintro e w2 ⟨⟨v, rfl⟩, rfl⟩))
 go_end0
 exact ⟨⟨_, rfl⟩, rfl⟩
end Go.Proofs.YtnppimhlfcjghaaGreat
namespace Go.Proofs.YtnppimhlfcjghaaGreat
open Go.RowKit Go.Sort
set_option maxRecDepth 100000
set_option maxHeartbeats 4000000
theorem below_grow {w : World} (n : Nat) (os : Array Obj) : Below w.heap.size w (grow (Sort.ahead w n) os) :=
 ⟨rfl, rfl, rfl, by simp, fun i hi => by
  show (w.heap ++ os)[i]? = w.heap[i]?
  exact Array.getElem?_append_left hi⟩
theorem SortSame_calls (w : World) {base : Nat} {A : Option Addr} {n c : Nat} {xs : List Int} (hn : n = xs.length) (ho : w.ownsRow base 3 1 (.slice A n c) n (xs.map (Value.int .i64))) (hs : xs.Pairwise (· ≤ ·)) (hl : xs.length < 4611686018427387904) :
    Calls Tryz.prog 91 #[.slice A n c] w fun e w' => (∃ v, e = .returned v) ∧ Below w.heap.size w w' := by
 subst hn
 rcases ho.2 with ⟨e, h0⟩ | ⟨g, cap, cur, e, hb, hh, h1, h2, h3, h4⟩
 ·injection e with e1 e2 e3
  subst e1 e3
  rw [h0]
  refine (SortNil_calls w).mono ?_
  rintro e w' ⟨hv, rfl⟩
  exact ⟨hv, Below.refl _ _⟩
 ·injection e with e1 e2 e3
  subst e1 e3
  have hH : Holds (Value.int .i64) w g 0 xs.toArray := fun j hj => by
   have hj' : j < xs.length := by simpa using hj
   refine ⟨?_, blk_frozen hh _⟩
   rw [blk_cell hh, Nat.zero_add, ← Array.getElem?_toList]
   have h5 : (cur.toList.take (xs.length * 1))[j]? = cur.toList[j]? := List.getElem?_take_of_lt (by omega)
   rw [← h5, h4, List.getElem?_map, List.getElem?_eq_getElem hj', Option.map_some]
   congr 2
   rw [getElem!_pos _ j hj]
   simp
  refine (I.slices_Sort_int g 0 c xs w hH (blk_lt hh) hl).mono ?_
  rintro e w' ⟨rfl, m, os, rfl⟩
  refine ⟨⟨_, rfl⟩, ?_⟩
  have hm : (xs.mergeSort fun x y => decide (x ≤ y)) = xs := by
   refine List.mergeSort_of_pairwise ?_
   exact hs.imp (fun h => by simpa using h)
  rw [hm, putRow_self _ _ _ _ _ (holds_ahead _ _ _ _ _ _ hH)]
  exact below_grow m os
end Go.Proofs.YtnppimhlfcjghaaGreat
namespace Go.Proofs.YtnppimhlfcjghaaGreat
open Go.RowKit
set_option maxRecDepth 100000
set_option maxHeartbeats 4000000
theorem Index_calls (w : World) (A : Option Addr) (k : Nat) (xs : List Int) (v : Int) (hx : Ints anyB .i64 w A xs) (hl : xs.length ≤ 4096) :
    Calls Tryz.prog 96 #[.slice A xs.length k, .int .i64 v] w fun e w' => ∃ i : Int, e = .returned (.int .i64 i) ∧ (v ∈ xs ↔ 0 ≤ i) ∧ w = w' := by
 obtain ⟨n, hn⟩ : ∃ n, n = xs.length := ⟨_, rfl⟩
 have HN := Lib.hid hn
 have HX := Lib.hid hx
 rw [← hn] at hl ⊢
 clear hn hx
 go_enter Tryz.func96, Tryz.ntmps96
 go_wp2
 go_loopw [8] (fun i wr => ∃ j : Nat, j ≤ n ∧ i = .int .i64 j ∧ Hid (v ∉ xs.take j) ∧ Hid (w = wr)) (fun i _ => n - (intOf i).toNat)
 case atStart => exact ⟨0, Nat.zero_le _, rfl, by show _ ∉ _; simp, rfl⟩
 case round =>
  obtain ⟨j, hj, rfl, HV, HW⟩ := hrel
  obtain rfl := HW.out
  by_cases hlt : j < n
  ·obtain ⟨b, o, hA, _, hc⟩ := HX.out.get (j := j) (by rw [← HN.out]; exact hlt)
   subst hA
   have hlt' : (j : Int) < n := by omega
   have hlx : j < xs.length := by rw [← HN.out]; exact hlt
   have HT : Hid (xs.take (j + 1) = xs.take j ++ [xs.getD j 0]) := by
    show _ = _
    rw [List.take_add_one, List.getD_eq_getElem?_getD, List.getElem?_eq_getElem hlx]; rfl
   have HM : Hid (xs.getD j 0 ∈ xs) := by
    show _ ∈ _
    rw [List.getD_eq_getElem?_getD, List.getElem?_eq_getElem hlx]
    exact List.getElem_mem hlx
   clear hlx
   generalize xs.getD j 0 = y at hc HT HM
   by_cases hy : v = y
   ·have hd : decide (v = y) = true := by simp [hy]
    go_wp2
    go_ret
    exact ⟨j, rfl, ⟨fun _ => by omega, fun _ => by first | exact HM.out | (rw [hy]; exact HM.out)⟩, rfl⟩
   ·have hd : decide (v = y) = false := by simp [hy]
    go_wp2
    go_roundw
    case rel =>
     refine ⟨j + 1, hlt, by simp, ?_, by first | exact (trivial : True) | exact (rfl : w = w)⟩
     show _ ∉ _
     rw [HT.out]
     simp only [List.mem_append, List.mem_singleton, not_or]
     exact ⟨HV.out, hy⟩
    case measure => first | omega | (simp only [intOf]; omega) | (show _ - ((j : Int) + 1).toNat < n - (j : Int).toNat; omega)
  ·obtain rfl : j = n := by omega
   go_wp2
   go_ret
   refine ⟨-1, rfl, ⟨fun h => absurd h ?_, fun h => by omega⟩, rfl⟩
   have h1 := HV.out
   rwa [HN.out, List.take_length] at h1
theorem Contains_calls (w : World) (A : Option Addr) (k : Nat) (xs : List Int) (v : Int) (hx : Ints anyB .i64 w A xs) (hl : xs.length ≤ 4096) :
    Calls Tryz.prog 90 #[.slice A xs.length k, .int .i64 v] w fun e w' => e = .returned (.bool (xs.contains v)) ∧ w = w' := by
 have hI := Index_calls w A k xs v hx hl
 clear hx hl
 have HC : Hid (xs.contains v = decide (v ∈ xs)) := by show _ = _; simp
 go_enter Tryz.func90, Tryz.ntmps90
 go_wp2_with (go_at_call 96; refine hI.mono ?_; rintro e w1 ⟨i, rfl, hi, rfl⟩; have HI := Lib.hid hi; clear hi)
 go_ret
 refine ⟨ret_bool ?_, rfl⟩
 rw [HC.out]
 by_cases h : v ∈ xs
 ·have := HI.out.1 h
  simp [h, this]
 ·have : ¬ 0 ≤ i := fun h' => h (HI.out.2 h')
  simp [h, this]
end Go.Proofs.YtnppimhlfcjghaaGreat
namespace Go.Proofs.YtnppimhlfcjghaaGreat
open Go.RowKit
set_option maxRecDepth 100000
set_option maxHeartbeats 8000000
def bothJ (a b : Vt) (j : Nat) : List Int := (a.who.take j).filter fun x => b.who.contains x
theorem bothJ_le (a b : Vt) (j : Nat) : (bothJ a b j).length ≤ j := by
 have h1 := List.length_filter_le (fun x => b.who.contains x) (a.who.take j)
 rw [List.length_take] at h1
 unfold bothJ
 omega
theorem bothJ_succ (a b : Vt) (j : Nat) (h : j < a.who.length) : bothJ a b (j + 1) = bothJ a b j ++ (if b.who.contains (a.who.getD j 0) then [a.who.getD j 0] else []) := by
 unfold bothJ
 rw [List.take_add_one, List.getElem?_eq_getElem h, List.filter_append, List.getD_eq_getElem?_getD, List.getElem?_eq_getElem h]
 simp only [Option.toList_some, Option.getD_some, List.filter_cons, List.filter_nil]
theorem bothJ_notin (a b : Vt) (hp : a.who.Pairwise (· < ·)) (j : Nat) (h : j < a.who.length) : a.who.getD j 0 ∉ bothJ a b j := by
 intro hm
 have hm := (List.mem_filter.1 hm).1
 obtain ⟨i, hi, e⟩ := List.getElem_of_mem hm
 rw [List.length_take] at hi
 rw [List.getElem_take, List.getD_eq_getElem?_getD, List.getElem?_eq_getElem h, Option.getD_some] at e
 have := List.pairwise_iff_getElem.1 hp i j (by omega) h (by omega)
 omega
theorem Both_calls (w : World) (a b : Vt) (A1 : Option Addr) (k1 : Nat) (A2 : Option Addr) (k2 : Nat) (ha : Ints anyB .i64 w A1 a.who) (hb : Ints anyB .i64 w A2 b.who) (la : a.who.length ≤ 4096) (lb : b.who.length ≤ 4096) (hp : a.who.Pairwise (· < ·)) :
    Calls Tryz.prog 82 #[.agg #[.int .i64 a.slot, .int .u64 a.head, .int .i64 a.src.e, .int .u64 a.src.r, .int .i64 a.tgt.e, .int .u64 a.tgt.r, .slice A1 a.who.length k1], .agg #[.int .i64 b.slot, .int .u64 b.head, .int .i64 b.src.e, .int .u64 b.src.r, .int .i64 b.tgt.e, .int .u64 b.tgt.r, .slice A2 b.who.length k2]] w (RetInts .i64 (bothL a b) w.heap.size w) := by
 obtain ⟨q1, q2, hbw, hsz⟩ := two_boxes w a b A1 k1 A2 k2
 have ha1 := ha.below hbw
 have hb1 := hb.below hbw
 clear ha hb
 go_enter Tryz.func82, Tryz.ntmps82
 go_upto_region 1 with fail
 generalize World.alloc (World.alloc w _) _ = W0 at q1 q2 hbw hsz ha1 hb1 ⊢
 generalize hB : w.heap.size = B at q1 q2 hbw hsz ⊢
 have HB := Lib.hid hB
 clear hB
 have c1 := blk_cell q1 6
 have c2 := blk_cell q2 6
 obtain ⟨n, hn⟩ : ∃ n, n = a.who.length := ⟨_, rfl⟩
 have HN := Lib.hid hn
 have HP := Lib.hid hp
 rw [← hn] at la c1
 obtain ⟨m, hm⟩ : ∃ m, m = b.who.length := ⟨_, rfl⟩
 have HM := Lib.hid hm
 rw [← hm] at lb c2
 clear hn hm hp
 have HA := Lib.hid ha1
 have HB1 := Lib.hid hb1
 clear ha1 hb1
 go_wp2_with fail
 go_loopw [5, 11] (fun v i wr => ∃ (j : Nat) (A : Option Addr) (l c : Nat), j ≤ n ∧ i = .int .i64 j ∧ v = .slice A l c ∧ Hid (l = (bothJ a b j).length) ∧ Hid (wr.ownsRow (B + 2) 3 1 (.slice A l c) l ((bothJ a b j).map (Value.int .i64))) ∧ Hid (Below W0.heap.size W0 wr)) (fun _ i _ => n - (intOf i).toNat)
 case atStart => exact ⟨0, none, 0, 0, Nat.zero_le _, rfl, rfl, rfl, own_nil _ _ _ _, Below.refl _ _⟩
 case round =>
  obtain ⟨j, A, l, c, hj, rfl, rfl, HL, HO, HW⟩ := hrel
  have hBr : B + 2 ≤ wr.heap.size := by have := HW.out.size; omega
  have r2 : wr.cell? ⟨B + 1, 6, none⟩ = some (.slice A2 m k2) := by rw [HM.out]; exact blk_cell (blk_below q2 HW.out) 6
  have hl4 : l ≤ 4096 := by have := HL.out; have := bothJ_le a b j; omega
  by_cases hlt : j < n
  ·obtain ⟨be, oe, he, _, hce⟩ := Ints.get (HA.out.below HW.out) (j := j) (by rw [← HN.out]; exact hlt)
   subst he
   have hlt' : (j : Int) < n := by omega
   have HS := Lib.hid (bothJ_succ a b j (by rw [← HN.out]; exact hlt))
   have HX := Lib.hid (bothJ_notin a b HP.out j (by rw [← HN.out]; exact hlt))
   generalize a.who.getD j 0 = x at hce HS HX
   have cC := Contains_calls wr A2 k2 b.who x (HB1.out.below HW.out) (by have := HM.out; omega)
   rw [← HM.out] at cC
   have cD : Calls Tryz.prog 90 #[.slice A l c, .int .i64 x] wr fun e w' => e = .returned (.bool false) ∧ wr = w' := by
    have h := Contains_calls wr A c (bothJ a b j) x (Ints.of_own HO.out).any (by have := HL.out; omega)
    rw [← HL.out] at h
    have hf : (bothJ a b j).contains x = false := by simpa using HX.out
    rw [hf] at h
    exact h
   cases hx : b.who.contains x with
   | false =>
    rw [hx] at cC
    have HE : Hid (bothJ a b (j + 1) = bothJ a b j) := by show _ = _; rw [HS.out, hx]; simp
    clear hx
    go_wp2_with (go_at_call 90; (with_reducible refine cC.mono ?_); rintro e w1 ⟨rfl, rfl⟩)
    go_roundw
    case rel =>
     refine ⟨j + 1, A, l, c, hlt, by simp, rfl, ?_, ?_, HW⟩
     ·show _ = _; rw [HE.out]; exact HL.out
     ·show World.ownsRow _ _ _ _ _ _ _; rw [HE.out]; exact HO.out
    case measure => first | omega | (simp only [intOf]; omega) | (show _ - ((j : Int) + 1).toNat < n - (j : Int).toNat; omega)
   | true =>
    rw [hx] at cC
    have HE : Hid (bothJ a b (j + 1) = bothJ a b j ++ [x]) := by show _ = _; rw [HS.out, hx]; simp
    clear hx
    have HO1 := Lib.hid (HO.out.alloc (.cells #[.int .i64 x] 3))
    go_wp2_with (first
     | (go_at_call 90; (with_reducible refine cC.mono ?_); rintro e w1 ⟨rfl, rfl⟩)
     | (go_at_call 90; (with_reducible refine cD.mono ?_); rintro e w1 ⟨rfl, rfl⟩)
     | (at_builtin; refine wpList_app (B + 2) rfl (.tmp 25) (.tmp 27) 51 3 (.int .i64 0) 1 8 rfl Tryz.underlying51 infoInt rfl (by decide) _ l _ rfl HO1.out (some ⟨wr.heap.size, 0, none⟩) 1 1 [.int .i64 x] rfl rfl (Flat.one _ _ _) (by simp [Value.oneCell']) (by omega) (by omega) (by simp; omega) ?_; intro A' c' w2 hown hg _; have HO2 := Lib.hid hown; have HG := Lib.hid hg; clear hown hg))
    go_roundw
    case rel =>
     refine ⟨j + 1, A', l + 1, c', hlt, by simp, rfl, ?_, ?_, ?_⟩
     ·show _ = _; rw [HE.out, List.length_append, ← HL.out]; rfl
     ·show World.ownsRow _ _ _ _ _ _ _; rw [HE.out, List.map_append]; exact HO2.out
     ·show Below _ _ _
      exact (below_alloc HW.out _).grown HG.out (by have := HW.out.size; simp; omega) (fun k hk => by have := own_base HO1.out k hk; omega)
    case measure => first | omega | (simp only [intOf]; omega) | (show _ - ((j : Int) + 1).toNat < n - (j : Int).toNat; omega)
  ·obtain rfl : j = n := by omega
   have HF : Hid (bothJ a b j = bothL a b) := by show _ = _; unfold bothJ bothL; rw [HN.out, List.take_length]
   have hsd : (bothL a b).Pairwise (· ≤ ·) := (HP.out.imp (fun h => by omega)).filter _
   have cS : Calls Tryz.prog 91 #[.slice A l c] wr fun e w' => (∃ v, e = .returned v) ∧ Below wr.heap.size wr w' := by
    refine SortSame_calls wr (by rw [← HF.out]; exact HL.out) (by have := HO.out; rw [HF.out] at this; exact this) hsd ?_
    have := HL.out
    rw [HF.out] at this
    omega
   clear hsd
   go_wp2_with (go_at_call 91; (with_reducible refine cS.mono ?_); rintro e w1 ⟨⟨v, rfl⟩, hS⟩; have HS := Lib.hid hS; clear hS)
   go_ret
   have hL := HL.out
   have hO := HO.out
   rw [HF.out] at hL hO
   rw [HB.out]
   refine ⟨A, c, by rw [← hL]; rfl, ((Ints.of_own hO).mono (fun g hg => by omega)).below HS.out, ?_⟩
   exact (hbw.trans (HW.out.mono (by omega))).trans (HS.out.mono (by omega))
end Go.Proofs.YtnppimhlfcjghaaGreat
namespace Go.Proofs.YtnppimhlfcjghaaGreat
open Go.RowKit
set_option maxRecDepth 100000
set_option maxHeartbeats 8000000
theorem rightB_who {c : Cf} {v : Vt} (h : rightB c v = true) : whoOk c.bal.length v.who = true := by
 unfold rightB at h
 simp only [Bool.and_eq_true] at h
 exact h.2
def RetWho (l : List Int) (B : Nat) (w : World) (e : Ending) (w' : World) : Prop := ∃ A c, e = .returned (.tuple #[.slice A l.length c, errV (if l.length = 0 then 11 else 0)]) ∧ Ints (fun b => B ≤ b) .i64 w' A l ∧ Below B w w'
theorem retWho_nil {l : List Int} (hl : l = []) {B : Nat} {w w' : World} (hb : Below B w w') : RetWho l B w (.returned (.tuple #[.slice none 0 0, .iface 91 (.int .i64 11)])) w' := by
 subst hl
 exact ⟨none, 0, rfl, Lie.nil, hb⟩
theorem whoOk_get {n : Int} {who : List Int} (h : whoOk n who = true) {k : Nat} (hk : k < who.length) : 0 ≤ who.getD k 0 ∧ who.getD k 0 < n ∧ (0 < k → who.getD (k - 1) 0 < who.getD k 0) := by
 have h1 := List.all_eq_true.1 h k (List.mem_range.2 hk)
 unfold whoBad at h1
 simp only [Bool.not_eq_true', Bool.or_eq_false_iff, Bool.and_eq_false_iff, decide_eq_false_iff_not] at h1
 omega
theorem whoOk_lt {n : Int} {who : List Int} (h : whoOk n who = true) (i : Nat) : ∀ d, i + d + 1 < who.length → who.getD i 0 < who.getD (i + d + 1) 0
 | 0, hd => (whoOk_get h hd).2.2 (by omega)
 | d + 1, hd => by
   have h1 := whoOk_lt h i d (by omega)
   have h2 := (whoOk_get h hd).2.2 (by omega)
   have e : i + (d + 1) + 1 - 1 = i + d + 1 := by omega
   rw [e] at h2
   omega
theorem getD_at {who : List Int} {i : Nat} (h : i < who.length) : who.getD i 0 = who[i] := by
 rw [List.getD_eq_getElem?_getD, List.getElem?_eq_getElem h, Option.getD_some]
theorem whoOk_sorted {n : Int} {who : List Int} (h : whoOk n who = true) : who.Pairwise (· < ·) := by
 refine List.pairwise_iff_getElem.2 fun i j hi hj hij => ?_
 have := whoOk_lt h i (j - i - 1) (by omega)
 have e : i + (j - i - 1) + 1 = j := by omega
 rw [e, getD_at hi, getD_at hj] at this
 exact this
end Go.Proofs.YtnppimhlfcjghaaGreat
