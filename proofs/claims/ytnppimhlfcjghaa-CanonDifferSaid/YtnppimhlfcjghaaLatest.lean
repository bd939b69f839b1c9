/- latest: Of, Take, Ban, Get. -/
import Derived.Test.YtnppimhlfcjghaaLeaf
import Derived.Test.YtnppimhlfcjghaaBox
namespace Go.Proofs.Ytnppimhlfcjghaa
open Go.RowKit
set_option maxRecDepth 100000
set_option maxHeartbeats 600000
def enC (x : En) : List Value := [.bool x.has, .int .i64 x.epoch, .int .u64 x.root, .bool x.banned]
def enCells (v : List En) : Array Value := (v.flatMap enC).toArray
theorem enC_length (x : En) : (enC x).length = 4 := rfl
theorem flat_get : ∀ (v : List En) (j i : Nat), i < 4 → (v.flatMap enC)[j * 4 + i]? = (v[j]?).bind fun x => (enC x)[i]?
  | [], _, _, _ => by simp
  | x :: v, 0, i, h => by
    rw [List.flatMap_cons, List.getElem?_append_left (by rw [enC_length]; omega)]
    simp
  | x :: v, j + 1, i, h => by
    rw [List.flatMap_cons, List.getElem?_append_right (by rw [enC_length]; omega), enC_length, show (j + 1) * 4 + i - 4 = j * 4 + i from by omega, flat_get v j i h]
    simp
theorem flat_length (v : List En) : (v.flatMap enC).length = v.length * 4 := by
  induction v with
  | nil => rfl
  | cons x v ih => simp only [List.flatMap_cons, List.length_append, enC_length, ih, List.length_cons]; omega
theorem flat_set : ∀ (v : List En) (j i : Nat) (x x' : En) (u : Value), v[j]? = some x → i < 4 → enC x' = (enC x).set i u → (v.set j x').flatMap enC = (v.flatMap enC).set (j * 4 + i) u
  | [], _, _, _, _, _, h, _, _ => by simp at h
  | y :: v, 0, i, x, x', u, h, hi, he => by
    simp only [List.getElem?_cons_zero, Option.some.injEq] at h
    subst h
    simp only [List.set_cons_zero, List.flatMap_cons]
    rw [List.set_append_left _ _ (by rw [enC_length]; omega), he]
    simp
  | y :: v, j + 1, i, x, x', u, h, hi, he => by
    simp only [List.getElem?_cons_succ] at h
    simp only [List.set_cons_succ, List.flatMap_cons]
    rw [List.set_append_right _ _ (by rw [enC_length]; omega), enC_length, show (j + 1) * 4 + i - 4 = j * 4 + i from by omega, flat_set v j i x x' u h hi he]
/-- The row of the last votes. -/
def VotesAt (w : World) (vb : Nat) (v : List En) : Prop := w.heap[vb]? = some (.cells (enCells v) 77 (0, 0))
theorem VotesAt.below {w w' : World} {vb : Nat} {v : List En} (h : VotesAt w vb v) (hb : Below w.heap.size w w') : VotesAt w' vb v := blk_below h hb
theorem VotesAt.ext {w w' : World} {F : Nat → Prop} {vb : Nat} {v : List En} (h : VotesAt w vb v) (hb : Ext F w w') (hF : ¬ F vb) : VotesAt w' vb v := blk_ext h hb hF
theorem VotesAt.get {w : World} {vb : Nat} {v : List En} (h : VotesAt w vb v) {j : Nat} {x : En} (hj : v[j]? = some x) :
    w.cell? ⟨vb, j * 4, none⟩ = some (.bool x.has) ∧ w.cell? ⟨vb, j * 4 + 1, none⟩ = some (.int .i64 x.epoch) ∧ w.cell? ⟨vb, j * 4 + 2, none⟩ = some (.int .u64 x.root) ∧ w.cell? ⟨vb, j * 4 + 3, none⟩ = some (.bool x.banned) := by
  have key : ∀ i, i < 4 → w.cell? ⟨vb, j * 4 + i, none⟩ = (enC x)[i]? := fun i hi => by
    rw [blk_cell h, enCells, List.getElem?_toArray, flat_get v j i hi, hj]
    rfl
  exact ⟨key 0 (by omega), key 1 (by omega), key 2 (by omega), key 3 (by omega)⟩
theorem VotesAt.set {w : World} {vb : Nat} {v : List En} (h : VotesAt w vb v) {j i : Nat} {x x' : En} {u : Value} (hj : v[j]? = some x) (hi : i < 4) (he : enC x' = (enC x).set i u) : VotesAt (w.setCell ⟨vb, j * 4 + i, none⟩ u) vb (v.set j x') := by
  unfold VotesAt
  rw [blk_set h, enCells, enCells, flat_set v j i x x' u hj hi he, List.setIfInBounds_toArray]
theorem entry_in {v : List En} {k : Nat} (hk : k < v.length) : entry v (k : Int) = some v[k] := by
  simp [entry, hk]
theorem entry_out {v : List En} {k : Int} (hk : k < 0 ∨ (v.length : Int) ≤ k) : entry v k = none := by
  unfold entry
  split
  · rw [List.getElem?_eq_none]; omega
  · rfl
section
variable {w : World} {vb : Nat} {v : List En}
theorem VGet_calls (h : VotesAt w vb v) (c : Nat) (k : Int) (hk : inI k) (hl : v.length ≤ 4096) : Calls Try.prog 20 #[.slice (some ⟨vb, 0, none⟩) v.length c, .int .i64 k] w fun e w' => e = .returned (.tuple #[.int .u64 (getV v k).1, .bool (getV v k).2]) ∧ w = w' := by
  unfold inI at hk
  by_cases hin : 0 ≤ k ∧ k < v.length
  · obtain ⟨h0, h1⟩ := hin
    obtain ⟨j, rfl⟩ := Int.eq_ofNat_of_zero_le h0
    have hj : j < v.length := by omega
    obtain ⟨c0, c1, c2, c3⟩ := h.get (List.getElem?_eq_getElem hj)
    have hE := entry_in hj
    generalize v[j] = x at c0 c1 c2 c3 hE
    have hG : getV v (j : Int) = if !x.has || x.banned then (0, false) else (x.root, true) := by rw [getV, hE]
    have HG := Lib.hid hG
    clear hG hE
    cases hh : x.has <;> cases hb : x.banned <;> rw [hh] at c0 <;> rw [hb] at c3 <;> (have HX := Lib.hid hh; have HY := Lib.hid hb; clear hh hb) <;>
    (go_enter Try.func20, Try.ntmps20; go_wp2; go_ret2; exact ⟨by rw [HG.out, HX.out, HY.out]; rfl, rfl⟩)
  · have HG : Hid (getV v k = (0, false)) := by show _ = _; rw [getV, entry_out (by omega)]
    by_cases h0 : k < 0
    · clear hin
      go_enter Try.func20, Try.ntmps20
      go_wp2
      go_ret2
      exact ⟨by rw [HG.out]; rfl, rfl⟩
    · have h1 : (v.length : Int) ≤ k := by omega
      clear hin
      go_enter Try.func20, Try.ntmps20
      go_wp2
      go_ret2
      exact ⟨by rw [HG.out]; rfl, rfl⟩
theorem VBan_calls (h : VotesAt w vb v) (c : Nat) (k : Int) (hk : inI k) (hl : v.length ≤ 4096) : Calls Try.prog 65 #[.slice (some ⟨vb, 0, none⟩) v.length c, .int .i64 k] w fun e w' => e = .returned (.bool (bans v k)) ∧ VotesAt w' vb (banV v k) ∧ Ext (fun i => i = vb) w w' := by
  unfold inI at hk
  by_cases hin : 0 ≤ k ∧ k < v.length
  · obtain ⟨h0, h1⟩ := hin
    obtain ⟨j, rfl⟩ := Int.eq_ofNat_of_zero_le h0
    have hj : j < v.length := by omega
    have hg := List.getElem?_eq_getElem hj
    obtain ⟨c0, c1, c2, c3⟩ := h.get hg
    have f3 := blk_frozen h (j * 4 + 3)
    have hE := entry_in hj
    generalize v[j] = x at c0 c1 c2 c3 hE hg
    have HG := Lib.hid hg
    have hG : bans v (j : Int) = !x.banned := by rw [bans, hE]
    have HB := Lib.hid hG
    clear hG hE hg
    cases hb : x.banned with
    | true =>
      rw [hb] at c3
      have HY := Lib.hid hb
      clear hb
      go_enter Try.func65, Try.ntmps65
      go_wp2
      go_ret
      have e : bans v (j : Int) = false := by rw [HB.out, HY.out]; rfl
      refine ⟨by rw [e]; rfl, ?_, Ext.refl _ _⟩
      rw [banV, e]
      exact h
    | false =>
      rw [hb] at c3
      have HY := Lib.hid hb
      clear hb
      go_enter Try.func65, Try.ntmps65
      go_wp2
      go_ret
      have e : bans v (j : Int) = true := by rw [HB.out, HY.out]; rfl
      refine ⟨by rw [e]; rfl, ?_, (Ext.refl (fun i => i = vb) w).set1⟩
      rw [banV, e, if_pos rfl]
      have hm : v.modify (j : Int).toNat (fun x => { x with banned := true }) = v.set j { x with banned := true } := by
        rw [Int.toNat_natCast]
        apply List.ext_getElem?
        intro m
        rw [List.getElem?_modify, List.getElem?_set]
        by_cases hm : j = m
        · subst hm
          have hlt := (List.getElem?_eq_some_iff.1 HG.out).1
          rw [HG.out]
          simp [hlt]
        · simp [hm]
      rw [hm]
      exact h.set (i := 3) HG.out (by omega) rfl
  · have HB : Hid (bans v k = false) := by show _ = _; rw [bans, entry_out (by omega)]
    have HV : Hid (banV v k = v) := by show _ = _; rw [banV, HB.out]; rfl
    by_cases h0 : k < 0
    · clear hin
      go_enter Try.func65, Try.ntmps65
      go_wp2
      go_ret
      exact ⟨by rw [HB.out]; rfl, by rw [HV.out]; exact h, Ext.refl _ _⟩
    · have h1 : (v.length : Int) ≤ k := by omega
      clear hin
      go_enter Try.func65, Try.ntmps65
      go_wp2
      go_ret
      exact ⟨by rw [HB.out]; rfl, by rw [HV.out]; exact h, Ext.refl _ _⟩
theorem VTake_calls (h : VotesAt w vb v) (c : Nat) (k ep r : Int) (hk : inI k) (hep : inI ep) (hl : v.length ≤ 4096) : Calls Try.prog 64 #[.slice (some ⟨vb, 0, none⟩) v.length c, .int .i64 k, .int .i64 ep, .int .u64 r] w fun e w' => e = .returned (.bool (takes v k ep)) ∧ VotesAt w' vb (takeV v k ep r) ∧ Ext (fun i => i = vb) w w' := by
  unfold inI at hk hep
  by_cases hin : 0 ≤ k ∧ k < v.length
  · obtain ⟨h0, h1⟩ := hin
    obtain ⟨j, rfl⟩ := Int.eq_ofNat_of_zero_le h0
    have hj : j < v.length := by omega
    have hg := List.getElem?_eq_getElem hj
    obtain ⟨c0, c1, c2, c3⟩ := h.get hg
    have f0 := blk_frozen h (j * 4)
    have f1 := blk_frozen h (j * 4 + 1)
    have f2 := blk_frozen h (j * 4 + 2)
    have f3 := blk_frozen h (j * 4 + 3)
    have hE := entry_in hj
    generalize v[j] = x at c0 c1 c2 c3 hE hg
    have HG := Lib.hid hg
    have hG : takes v (j : Int) ep = !(x.banned || (x.has && decide (ep ≤ x.epoch))) := by rw [takes, hE]
    have HB := Lib.hid hG
    clear hG hE hg
    have no : takes v (j : Int) ep = false → takeV v (j : Int) ep r = v := fun e => by rw [takeV, e]; rfl
    have yes : takes v (j : Int) ep = true → takeV v (j : Int) ep r = v.set j ⟨true, ep, r, false⟩ := fun e => by rw [takeV, e]; rfl
    have NO := Lib.hid no
    have YES := Lib.hid yes
    clear no yes
    have fin : VotesAt ((((w.setCell ⟨vb, j * 4, none⟩ (.bool true)).setCell ⟨vb, j * 4 + 1, none⟩ (.int .i64 ep)).setCell ⟨vb, j * 4 + 2, none⟩ (.int .u64 r)).setCell ⟨vb, j * 4 + 3, none⟩ (.bool false)) vb (v.set j ⟨true, ep, r, false⟩) := by
      have hlt := (List.getElem?_eq_some_iff.1 HG.out).1
      have s0 := h.set (i := 0) (x' := ⟨true, x.epoch, x.root, x.banned⟩) HG.out (by omega) rfl
      have s1 := s0.set (i := 1) (x := ⟨true, x.epoch, x.root, x.banned⟩) (x' := ⟨true, ep, x.root, x.banned⟩) (List.getElem?_set_self (by simpa using hlt)) (by omega) rfl
      have s2 := s1.set (i := 2) (x := ⟨true, ep, x.root, x.banned⟩) (x' := ⟨true, ep, r, x.banned⟩) (List.getElem?_set_self (by simpa using hlt)) (by omega) rfl
      have s3 := s2.set (i := 3) (x := ⟨true, ep, r, x.banned⟩) (x' := ⟨true, ep, r, false⟩) (List.getElem?_set_self (by simpa using hlt)) (by omega) rfl
      simp only [List.set_set] at s3
      exact s3
    have FIN := Lib.hid fin
    clear fin
    cases hb : x.banned with
    | true =>
      rw [hb] at c3
      have HY := Lib.hid hb
      clear hb
      go_enter Try.func64, Try.ntmps64
      go_wp2
      go_ret
      have e : takes v (j : Int) ep = false := by rw [HB.out, HY.out]; rfl
      exact ⟨by rw [e]; rfl, by rw [NO.out e]; exact h, Ext.refl _ _⟩
    | false =>
      rw [hb] at c3
      have HY := Lib.hid hb
      clear hb
      cases hh : x.has with
      | false =>
        rw [hh] at c0
        have HX := Lib.hid hh
        clear hh
        have e : Hid (takes v (j : Int) ep = true) := by show _ = _; rw [HB.out, HX.out, HY.out]; rfl
        go_enter Try.func64, Try.ntmps64
        go_wp2
        go_ret
        exact ⟨by rw [e.out]; rfl, by rw [YES.out e.out]; exact FIN.out, ((((Ext.refl (fun i => i = vb) w).set1).set1).set1).set1⟩
      | true =>
        rw [hh] at c0
        have HX := Lib.hid hh
        clear hh
        by_cases hle : ep ≤ x.epoch
        · have e : Hid (takes v (j : Int) ep = false) := by show _ = _; rw [HB.out, HX.out, HY.out]; simp [hle]
          go_enter Try.func64, Try.ntmps64
          go_wp2
          go_ret
          exact ⟨by rw [e.out]; rfl, by rw [NO.out e.out]; exact h, Ext.refl _ _⟩
        · have e : Hid (takes v (j : Int) ep = true) := by show _ = _; rw [HB.out, HX.out, HY.out]; simp; omega
          go_enter Try.func64, Try.ntmps64
          go_wp2
          go_ret
          exact ⟨by rw [e.out]; rfl, by rw [YES.out e.out]; exact FIN.out, ((((Ext.refl (fun i => i = vb) w).set1).set1).set1).set1⟩
  · have HB : Hid (takes v k ep = false) := by show _ = _; rw [takes, entry_out (by omega)]
    have HV : Hid (takeV v k ep r = v) := by show _ = _; rw [takeV, HB.out]; rfl
    by_cases h0 : k < 0
    · clear hin
      go_enter Try.func64, Try.ntmps64
      go_wp2
      go_ret
      exact ⟨by rw [HB.out]; rfl, by rw [HV.out]; exact h, Ext.refl _ _⟩
    · have h1 : (v.length : Int) ≤ k := by omega
      clear hin
      go_enter Try.func64, Try.ntmps64
      go_wp2
      go_ret
      exact ⟨by rw [HB.out]; rfl, by rw [HV.out]; exact h, Ext.refl _ _⟩
theorem infoEn : (Try.prog.info? 77).map (fun i => (i.zero, i.size, i.bytes)) = some (some (.agg (enC En.zero).toArray), 4, 32) := by kernel_rfl
theorem made_en (n : Nat) : madeCells (Value.agg (enC En.zero).toArray).cells (n * 4) = enCells (List.replicate n En.zero) := by
  apply Array.ext'
  apply List.ext_getElem?
  intro m
  rw [enCells]
  have hm : m = m / 4 * 4 + m % 4 := by omega
  have hr : m % 4 < 4 := by omega
  by_cases hlt : m < n * 4
  · have h2 : m / 4 < n := by omega
    have h1 : ((List.replicate n En.zero).flatMap enC)[m]? = (enC En.zero)[m % 4]? := by
      rw [hm, flat_get _ _ _ (by omega)]
      rw [show (m / 4 * 4 + m % 4) % 4 = m % 4 from by omega]
      simp [h2]
    show ((madeCells _ _).toList)[m]? = _
    rw [h1]
    simp only [madeCells, Value.cells, Array.toList_map, List.getElem?_map, Array.toList_range, List.getElem?_range hlt, Option.map_some]
    have hz : (enC En.zero).toArray.size = 4 := rfl
    simp only [hz]
    have h3 : m % 4 = 0 ∨ m % 4 = 1 ∨ m % 4 = 2 ∨ m % 4 = 3 := by omega
    rcases h3 with h3 | h3 | h3 | h3 <;> rw [h3] <;> rfl
  · rw [List.getElem?_eq_none (by simp [madeCells]; omega), List.getElem?_eq_none (by rw [List.toList_toArray, flat_length, List.length_replicate]; omega)]
theorem VOf_calls (w : World) (n : Nat) (hn1 : 1 ≤ n) (hn : n ≤ 4096) : Calls Try.prog 37 #[.int .i64 n] w fun e w' => e = .returned (.slice (some ⟨w.heap.size, 0, none⟩) n n) ∧ VotesAt w' w.heap.size (List.replicate n En.zero) ∧ Below w.heap.size w w' := by
  have hmk : ∀ W : World, (Instr.makeSlice 45 (.int .i64 n) (.int .i64 n)).run Try.prog W = .ok (.slice (some ⟨W.heap.size, 0, none⟩) n n) (W.alloc (.cells (enCells (List.replicate n En.zero)) 77)) := fun W => by
    obtain ⟨i, hi, hz'⟩ := Option.map_eq_some_iff.1 infoEn
    simp only [Prod.mk.injEq] at hz'
    obtain ⟨h1, h2, h3⟩ := hz'
    have := run_make (P := Try.prog) W 45 77 i _ Try.underlying45 hi h1 .i64 .i64 (n : Int) (n : Int) (by omega) (Int.le_refl _) (by rw [h3]; omega) (by omega)
    rw [this, h2]
    simp only [Int.toNat_natCast, made_en]
  have e1 : min (n : Int) 4096 = n := by omega
  have e2 : max 0 (n : Int) = n := by omega
  have e3 : (1 : Int) ≤ n := by omega
  have e4 : ¬ (n : Int) ≤ 0 := by omega
  go_enter Try.func37, Try.ntmps37
  go_wp2
  all_goals
    go_ways
    go_ret
    exact ⟨rfl, heap_new w _, below_alloc (Below.refl _ _) _⟩
end
end Go.Proofs.Ytnppimhlfcjghaa
