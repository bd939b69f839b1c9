import Derived.Test.YtnppimhlfcjghaaGreatPMap
import Derived.Test.YtnppimhlfcjghaaGreatProg
import Derived.KernelRfl
import Derived.BigQuiet
import Derived.Deep.QuietTactic
import Derived.Outline
import Derived.IntWalk
import Derived.StillTailTactics
import Derived.Deep.DeepCutAuto
import Derived.Deep.RegionHeld3
import Derived.Deep.RegionHeldLaw
set_option linter.all false
set_option linter.unusedVariables false
set_option linter.unusedSimpArgs false
namespace Go.Proofs.YtnppimhlfcjghaaGreat
open Go.RowKit
set_option maxRecDepth 100000
set_option maxHeartbeats 1000000
theorem max1 (s : Int) : max 1 s ≠ 0 ∧ 1 ≤ max 1 s := by omega
theorem epochOf_bd (slot slots : Int) (h : slot ≤ 9223372036854775807) : 0 ≤ epochOf slot slots ∧ epochOf slot slots ≤ 9223372036854775807 := by
 unfold epochOf
 have h1 := (max1 slots).2
 constructor
 ·exact Int.ediv_nonneg (by omega) (by omega)
 ·exact Int.le_trans (Int.ediv_le_self _ (by omega)) (by omega)
theorem epochOf_le (slot slots : Int) (h : 0 ≤ slot) : epochOf slot slots ≤ slot := by
 unfold epochOf
 have h1 := (max1 slots).2
 rw [show max 0 slot = slot from by omega]
 exact Int.ediv_le_self _ h
theorem EpochOf_q (w : World) (slot slots : Int) (h : inI slot) (h2 : inI slots) : Calls Tryz.prog 53 #[.int .i64 slot, .int .i64 slots] w fun e w' => e = .returned (.int .i64 (epochOf slot slots)) ∧ w' = w := by
 have hq : (max 0 slot).tdiv (max 1 slots) = epochOf slot slots := Int.tdiv_eq_ediv_of_nonneg (by omega)
 have hb := epochOf_bd slot slots h.2
 have hw : IntKind.i64.wrap (epochOf slot slots) = epochOf slot slots := IntWalk.i64_in _ (by omega)
 have h1 : ¬ max 1 slots = 0 := (max1 slots).1
 unfold inI at h h2
 go_enter Tryz.func53, Tryz.ntmps53
 go_wp2
 all_goals
  go_ret
  refine ⟨ret_int ?_, rfl⟩
  unfold epochOf
  first
   | rw [show max 0 slot = slot from by omega, show max 1 slots = slots from by omega]
   | (rw [show max 0 slot = slot from by omega, show max 1 slots = 1 from by omega]; show slot = _; omega)
   | (rw [show max 0 slot = 0 from by omega, Int.zero_ediv])
theorem EpochOf_calls (w : World) (slot slots : Int) (h : inI slot) (h2 : inI slots) : Calls Tryz.prog 53 #[.int .i64 slot, .int .i64 slots] w fun e w' => e = .returned (.int .i64 (epochOf slot slots)) ∧ w = w' := (EpochOf_q w slot slots h h2).mono fun _ _ ⟨h1, h2⟩ => ⟨h1, h2.symm⟩
theorem EpochStart_q (w : World) (e slots : Int) (h : inI e) (h2 : slots ≤ 64) (h3 : e ≤ 1099511627776) : Calls Tryz.prog 64 #[.int .i64 e, .int .i64 slots] w fun en w' => en = .returned (.int .i64 (epochStart e slots)) ∧ w' = w := by
 have hb : 0 ≤ epochStart e slots ∧ epochStart e slots ≤ 1099511627776 * 64 := by
  unfold epochStart
  have : 0 ≤ max 0 e := by omega
  have : 1 ≤ max 1 slots := by omega
  exact ⟨Int.mul_nonneg (by omega) (by omega), Int.mul_le_mul (by omega) (by omega) (by omega) (by omega)⟩
 have hq : max 0 e * max 1 slots = epochStart e slots := rfl
 unfold inI at h
 go_enter Tryz.func64, Tryz.ntmps64
 go_wp2
 all_goals
  go_ret
  refine ⟨ret_int ?_, rfl⟩
  rw [← hq] at hb
  rw [← hq]
  first
   | (rw [show max 0 e = e from by omega, show max 1 slots = slots from by omega] at *; show wrap64 (e * slots) = _; unfold wrap64; omega)
   | (rw [show max 0 e = e from by omega, show max 1 slots = 1 from by omega] at *; show wrap64 e = _; unfold wrap64; omega)
   | (rw [show max 0 e = 0 from by omega, Int.zero_mul]; show wrap64 0 = 0; unfold wrap64; omega)
theorem EpochStart_calls (w : World) (e slots : Int) (h : inI e) (h2 : slots ≤ 64) (h3 : e ≤ 1099511627776) : Calls Tryz.prog 64 #[.int .i64 e, .int .i64 slots] w fun en w' => en = .returned (.int .i64 (epochStart e slots)) ∧ w = w' := (EpochStart_q w e slots h h2 h3).mono fun _ _ ⟨h1, h2⟩ => ⟨h1, h2.symm⟩
theorem Enough_q (w : World) (some_ all : Int) (h : 0 ≤ some_) (h2 : some_ ≤ 18446744073709551615) (h3 : 0 ≤ all) (h4 : all ≤ 4611686018427387904) : Calls Tryz.prog 73 #[.int .u64 some_, .int .u64 all] w fun e w' => e = .returned (.bool (enough some_ all)) ∧ w' = w := by
 go_enter Tryz.func73, Tryz.ntmps73
 go_wp2
 all_goals
  go_ret
  refine ⟨ret_bool ?_, rfl⟩
  have hh := h
  simp only [enough, *, decide_true, Bool.true_and, decide_false, Bool.false_and]
  try (simp; omega)
theorem Enough_calls (w : World) (some_ all : Int) (h : 0 ≤ some_) (h2 : some_ ≤ 18446744073709551615) (h3 : 0 ≤ all) (h4 : all ≤ 4611686018427387904) : Calls Tryz.prog 73 #[.int .u64 some_, .int .u64 all] w fun e w' => e = .returned (.bool (enough some_ all)) ∧ w = w' := (Enough_q w some_ all h h2 h3 h4).mono fun _ _ ⟨h1, h2⟩ => ⟨h1, h2.symm⟩
abbrev cfC (c : Cf) (A : Option Addr) (k : Nat) : Value := .agg #[.slice A c.bal.length k, .int .i64 c.slots, .int .i64 c.boost]
theorem May_yes (w : World) (c : Cf) (A : Option Addr) (k : Nat) (hok : c.ok) (hb : Ints anyB .u64 w A c.bal) : Calls Tryz.prog 31 #[cfC c A k] w fun e w' => e = .returned (.bool true) ∧ Below w.heap.size w w' := by
 obtain ⟨l1, l2, b0, s1, s2, t1, t2⟩ := hok
 have B0 := Lib.hid b0
 clear b0
 have hB := Lib.hid hb
 clear hb
 obtain ⟨n, hn⟩ : ∃ n, n = c.bal.length := ⟨_, rfl⟩
 have HN := Lib.hid hn
 unfold cfC
 rw [← hn] at l1 l2 ⊢
 clear hn
 have hb0 : Below w.heap.size w (w.alloc (.cells #[.slice A n k, .int .i64 c.slots, .int .i64 c.boost] 27)) := below_alloc (Below.refl _ _) _
 have H0 := Lib.hid hb0
 clear hb0
 go_enter Tryz.func31, Tryz.ntmps31
 go_wp2
 go_loopw [38] (fun i wr => ∃ j : Nat, j ≤ n ∧ i = .int .i64 j ∧ Below w.heap.size w wr) (fun i _ => n - (intOf i).toNat)
 case atStart => exact ⟨0, Nat.zero_le _, rfl, H0.out⟩
 case round =>
  obtain ⟨j, hj, rfl, hb⟩ := hrel
  by_cases hlt : j < n
  ·obtain ⟨b, o, rfl, _, hc⟩ := (hB.out.below hb).get (j := j) (by have := HN.out; omega)
   have hx : c.bal.getD j 0 ≤ 4294967296 := by
    have hj' : j < c.bal.length := by have := HN.out; omega
    rw [List.getD_eq_getElem?_getD, List.getElem?_eq_getElem hj']
    exact (B0.out _ (List.getElem_mem hj')).2
   generalize c.bal.getD j 0 = x at hc hx
   go_wp2
   go_roundw
   case rel => exact ⟨j + 1, by omega, by go_num, hb⟩
   case measure => simp [intOf]; omega
  ·go_wp2
   go_ret
   exact ⟨rfl, hb⟩
theorem made_one (z : Value) (hz : z.cells = #[z]) (n : Nat) : madeCells z.cells (n * 1) = Array.replicate n z := by
 rw [hz]
 apply Array.ext
 ·simp [madeCells]
 ·intro i h1 h2
  simp [madeCells, Nat.mod_one]
theorem run_mk {P : Program} (w : World) (t e : TypeId) (z : Value) (bytes : Nat) (ht : P.underlying t = some (.slice e)) (hinfo : (P.info? e).map (fun i => (i.zero, i.size, i.bytes)) = some (some z, 1, bytes)) (hz : z.cells = #[z]) (n : Nat) (hb : bytes * n ≤ 281474976710656) (hn : n ≤ 9223372036854775807) :
    (Instr.makeSlice t (.int .i64 n) (.int .i64 n)).run P w = .ok (.slice (some ⟨w.heap.size, 0, none⟩) n n) (w.alloc (.cells (Array.replicate n z) e)) := by
 obtain ⟨i, hi, hz'⟩ := Option.map_eq_some_iff.1 hinfo
 simp only [Prod.mk.injEq] at hz'
 obtain ⟨h1, h2, h3⟩ := hz'
 have := run_make (P := P) w t e i z ht hi h1 .i64 .i64 (n : Int) (n : Int) (by omega) (Int.le_refl _) (by rw [h3]; have h : ((bytes * n : Nat) : Int) ≤ 281474976710656 := (by omega); rwa [Int.natCast_mul] at h) (by omega)
 rw [this, h2]
 simp only [Int.toNat_natCast, made_one z hz]
theorem infoInt : (Tryz.prog.info? 3).map (fun i => (i.zero, i.size, i.bytes)) = some (some (.int .i64 0), 1, 8) := by kernel_rfl
theorem infoBool : (Tryz.prog.info? 4).map (fun i => (i.zero, i.size, i.bytes)) = some (some (.bool false), 1, 1) := by kernel_rfl
theorem iota_get (n j : Nat) (h : j < n) : (iota n)[j]? = some (j : Int) := by simp [iota, h]
theorem iota_length (n : Nat) : (iota n).length = n := by simp [iota]
theorem all_calls (w : World) (n : Nat) (hn : n ≤ 4096) : Calls Tryz.prog 87 #[.int .i64 n] w fun e w' => ∃ A k, e = .returned (.slice A n k) ∧ Ints anyB .i64 w' A (iota n) ∧ Below w.heap.size w w' := by
 have hmk := fun W => run_mk (P := Tryz.prog) W 51 3 (.int .i64 0) 8 Tryz.underlying51 infoInt rfl n (by omega) (by omega)
 obtain ⟨B, HB, hB1, hB2⟩ := size_hid w
 rw [HB.out]
 go_enter Tryz.func87, Tryz.ntmps87
 go_wp2
 have hblk := heap_new w (.cells (Array.replicate n (.int .i64 0)) 3)
 have hb0 : Below B w (w.alloc (.cells (Array.replicate n (.int .i64 0)) 3)) := by rw [← HB.out]; exact below_alloc (Below.refl _ _) _
 rw [HB.out] at hblk ⊢
 generalize w.alloc _ = W0 at hblk hb0 ⊢
 go_loopw [4, 9] (fun u i wr => ∃ (j : Nat) (cs : Array Value), j ≤ n ∧ i = .int .i64 j ∧ Hid (cs.size = n) ∧ wr.heap[B]? = some (.cells cs 3 (0, 0)) ∧ Hid (∀ m, m < j → cs[m]? = some (.int .i64 (m : Int))) ∧ Below B w wr) (fun _ i _ => n - (intOf i).toNat)
 case atStart => exact ⟨0, _, Nat.zero_le _, rfl, by show _ = _; simp, hblk, fun m hm => by omega, hb0⟩
 case round =>
  clear hblk hb0
  obtain ⟨j, cs, hj, rfl, HS, hblk, HC, hb⟩ := hrel
  have hs := HS.out
  by_cases hlt : j < n
  ·have hc := blk_cell hblk j
   have hf := blk_frozen hblk j
   rw [Array.getElem?_eq_getElem (by omega)] at hc
   generalize cs[j] = v at hc
   clear hs
   go_wp2
   go_roundw
   case rel =>
    refine ⟨j + 1, _, by omega, by go_num, ?_, blk_set hblk j (.int .i64 j), fun m hm => ?_, hb.setCell (Nat.le_refl _) _⟩
    ·show _ = _; simpa using HS.out
    ·have := HS.out
     rw [Array.getElem?_setIfInBounds]
     by_cases hmj : j = m
     ·subst hmj; simp; omega
     ·rw [if_neg hmj]; exact HC.out m (by omega)
   case measure => simp [intOf]; omega
  ·obtain rfl : j = n := by omega
   clear hs
   go_wp2
   go_ret
   refine ⟨_, _, rfl, fun _ => ⟨B, 0, rfl, trivial, fun m x hx => ⟨_, rfl, rfl, fun i u hi => ?_⟩⟩, hb⟩
   match i, hi with
   | 0, hi =>
    obtain rfl : Value.int .i64 x = u := by simpa using hi
    have hm : m < j := by have := (List.getElem?_eq_some_iff.1 hx).1; rw [iota_length] at this; exact this
    rw [iota_get j m hm] at hx
    obtain rfl : (m : Int) = x := by simpa using hx
    rw [blk_cell hblk, show 0 + (m * 1 + 0) = m from by omega]
    exact HC.out m hm
   | i + 1, hi => simp at hi
theorem sumI_append (a b : List Int) : sumI (a ++ b) = sumI a + sumI b := by
 induction a with
 | nil => simp [sumI]
 | cons x a ih => simp only [List.cons_append, sumI, ih]; omega
theorem balAt_bd {c : Cf} (hok : c.ok) (k : Int) : 0 ≤ balAt c.bal k ∧ balAt c.bal k ≤ 4294967296 := by
 unfold balAt
 split
 ·next h =>
  have hk : k.toNat < c.bal.length := by omega
  rw [List.getD_eq_getElem?_getD, List.getElem?_eq_getElem hk]
  exact hok.b0 _ (List.getElem_mem hk)
 ·omega
theorem sumW_bd {c : Cf} (hok : c.ok) : ∀ who : List Int, 0 ≤ sumW c.bal who ∧ sumW c.bal who ≤ 4294967296 * who.length
 | [] => by simp [sumW, sumI]
 | x :: r => by
   have h1 := balAt_bd hok x
   have h2 := sumW_bd hok r
   simp only [sumW, List.map_cons, sumI, List.length_cons] at h2 ⊢
   omega
theorem sumW_take {c : Cf} (who : List Int) (j : Nat) (h : j < who.length) : sumW c.bal (who.take (j + 1)) = sumW c.bal (who.take j) + balAt c.bal who[j] := by
 rw [List.take_succ_eq_append_getElem h]
 simp only [sumW, List.map_append, sumI_append, List.map_cons, List.map_nil, sumI]
 omega
theorem Sum_calls (w : World) (c : Cf) (A : Option Addr) (k : Nat) (A2 : Option Addr) (k2 : Nat) (who : List Int) (hok : c.ok) (hb : Ints anyB .u64 w A c.bal) (hw : Ints anyB .i64 w A2 who) (hwi : ∀ x ∈ who, inI x) (hl : who.length ≤ 4096) :
    Calls Tryz.prog 74 #[cfC c A k, .slice A2 who.length k2] w fun e w' => e = .returned (.int .u64 (sumW c.bal who)) ∧ Below w.heap.size w w' := by
 have hl2 := hok.l2
 have HB := Lib.hid (hb.below (below_alloc (Below.refl _ _) (.cells #[.slice A c.bal.length k, .int .i64 c.slots, .int .i64 c.boost] 27)))
 have HW := Lib.hid (hw.below (below_alloc (Below.refl _ _) (.cells #[.slice A c.bal.length k, .int .i64 c.slots, .int .i64 c.boost] 27)))
 have HR := Lib.hid (below_alloc (Below.refl w.heap.size w) (.cells #[.slice A c.bal.length k, .int .i64 c.slots, .int .i64 c.boost] 27))
 have HWI := Lib.hid hwi
 clear hb hw hwi
 go_enter Tryz.func74, Tryz.ntmps74
 go_wp2
 have hc0 := blk_cell (heap_new w (.cells #[.slice A c.bal.length k, .int .i64 c.slots, .int .i64 c.boost] 27)) 0
 generalize w.alloc _ = W0 at HB HW HR hc0 ⊢
 generalize hBB : w.heap.size = B0 at HR hc0 ⊢
 have HBB := Lib.hid hBB
 clear hBB
 go_loop [5, 10] (fun s i => ∃ j : Nat, j ≤ who.length ∧ i = .int .i64 j ∧ s = .int .u64 (sumW c.bal (who.take j))) (fun _ i => who.length - (intOf i).toNat)
 case atStart => exact ⟨0, Nat.zero_le _, rfl, rfl⟩
 case round =>
  obtain ⟨j, hj, rfl, rfl⟩ := hrel
  by_cases hlt : j < who.length
  ·obtain ⟨b2, o2, rfl, _, hc2⟩ := HW.out.get (j := j) hlt
   have hx := HWI.out _ (List.getElem_mem hlt)
   have HT := Lib.hid (sumW_take (c := c) who j hlt)
   have hsb := sumW_bd hok (who.take j)
   rw [List.length_take] at hsb
   have hbb := balAt_bd hok who[j]
   rw [List.getD_eq_getElem?_getD, List.getElem?_eq_getElem hlt] at hc2
   simp only [Option.getD_some] at hc2
   generalize who[j] = x at hc2 hx HT hbb
   unfold inI at hx
   generalize sumW c.bal (who.take j) = s at HT hsb ⊢
   by_cases hin : 0 ≤ x ∧ x < c.bal.length
   ·obtain ⟨h0, h1⟩ := hin
    obtain ⟨m, rfl⟩ := Int.eq_ofNat_of_zero_le h0
    obtain ⟨b3, o3, rfl, _, hc3⟩ := HB.out.get (j := m) (by omega)
    have HBA : Hid (balAt c.bal (m : Int) = c.bal.getD m 0) := by
     show _ = _
     rw [balAt, if_pos ⟨h0, h1⟩]; rfl
    rw [HBA.out] at hbb
    generalize c.bal.getD m 0 = y at hc3 HBA hbb
    go_wp2
    go_round
    case rel => exact ⟨j + 1, by omega, by go_num, by rw [HT.out, HBA.out]⟩
    case measure => simp [intOf]; omega
   ·have HBA : Hid (balAt c.bal x = 0) := by
       show _ = _
       rw [balAt, if_neg hin]
    by_cases h0 : 0 ≤ x
    ·have h1 : ¬ x < c.bal.length := fun h => hin ⟨h0, h⟩
     clear hin
     go_wp2
     go_round
     case rel => exact ⟨j + 1, by omega, by go_num, by rw [HT.out, HBA.out, Int.add_zero]⟩
     case measure => simp [intOf]; omega
    ·clear hin
     go_wp2
     go_round
     case rel => exact ⟨j + 1, by omega, by go_num, by rw [HT.out, HBA.out, Int.add_zero]⟩
     case measure => simp [intOf]; omega
  ·obtain rfl : j = who.length := by omega
   rw [List.take_length]
   go_wp2
   go_ret
   exact ⟨rfl, by rw [HBB.out]; exact HR.out⟩
theorem iota_inI (n : Nat) (h : n ≤ 4096) : ∀ x ∈ iota n, inI x := by
 intro x hx
 simp only [iota, List.mem_map, List.mem_range] at hx
 obtain ⟨k, hk, rfl⟩ := hx
 unfold inI; omega
theorem Total_calls (w : World) (c : Cf) (A : Option Addr) (k : Nat) (hok : c.ok) (hb : Ints anyB .u64 w A c.bal) : Calls Tryz.prog 72 #[cfC c A k] w fun e w' => e = .returned (.int .u64 (totalW c)) ∧ Below w.heap.size w w' := by
 go_enter Tryz.func72, Tryz.ntmps72
 go_wp2
 have hb1 := hb.below (below_alloc (Below.refl _ _) (.cells #[.slice A c.bal.length k, .int .i64 c.slots, .int .i64 c.boost] 27))
 have hblk := heap_new w (.cells #[.slice A c.bal.length k, .int .i64 c.slots, .int .i64 c.boost] 27)
 have hbw := below_alloc (Below.refl w.heap.size w) (.cells #[.slice A c.bal.length k, .int .i64 c.slots, .int .i64 c.boost] 27)
 generalize w.alloc _ = W0 at hb1 hblk hbw ⊢
 generalize hBB : w.heap.size = B0 at hblk hbw ⊢
 have HBB := Lib.hid hBB
 have hB0 : B0 ≤ w.heap.size := by omega
 clear hBB
 have hl := iota_length c.bal.length
 have hi := iota_inI c.bal.length hok.l2
 have cA := fun W => all_calls W c.bal.length hok.l2
 obtain ⟨n, hn⟩ : ∃ n, n = c.bal.length := ⟨_, rfl⟩
 have hT : totalW c = sumW c.bal (iota n) := by rw [hn]; rfl
 have cS := fun (W : World) (A2 : Option Addr) (k2 : Nat) h1 h2 => Sum_calls W c A k A2 k2 (iota n) hok h1 h2 (by rw [hn]; exact hi) (by rw [hn, hl]; exact hok.l2)
 have HT := Lib.hid hT
 rw [hn, hl, ← hn] at cS
 unfold cfC at cS
 rw [← hn] at cS cA hblk
 have HN := Lib.hid hn
 have HH := Lib.hid hbw
 have HI := Lib.hid hb1
 have k0 := blk_cell hblk 0
 have k1 := blk_cell hblk 1
 have k2 := blk_cell hblk 2
 clear hn hT hi hl hbw hb1 hblk hb
 go_region_held3 (fun w' => w'.cell? ⟨B0, 0, none⟩ = some (.slice A n k) ∧ w'.cell? ⟨B0, 1, none⟩ = some (.int .i64 c.slots) ∧ w'.cell? ⟨B0, 2, none⟩ = some (.int .i64 c.boost)) (first | exact ⟨k0, k1, k2⟩ | exact hk | exact hk2 | go_keep)
  (first
    | (go_at_call 87; refine (cA _).mono ?_; rintro e w1 ⟨A2, kk2, rfl, h1, hb1'⟩; have hb1 := undrew hb1'; have hk : w1.cell? ⟨B0, 0, none⟩ = some (.slice A n k) ∧ w1.cell? ⟨B0, 1, none⟩ = some (.int .i64 c.slots) ∧ w1.cell? ⟨B0, 2, none⟩ = some (.int .i64 c.boost) := ⟨cell_below k0 hb1, cell_below k1 hb1, cell_below k2 hb1⟩)
    | (go_at_call 74; refine (cS _ A2 kk2 (HI.out.below hb1) h1).mono ?_; rintro e w2 ⟨rfl, hb2⟩; have hk2 : w2.cell? ⟨B0, 0, none⟩ = some (.slice A n k) ∧ w2.cell? ⟨B0, 1, none⟩ = some (.int .i64 c.slots) ∧ w2.cell? ⟨B0, 2, none⟩ = some (.int .i64 c.boost) := ⟨cell_below hk.1 hb2, cell_below hk.2.1 hb2, cell_below hk.2.2 hb2⟩))
 go_wp2
 go_ret
 exact ⟨by rw [HT.out]; rfl, by rw [HBB.out]; exact below_then HH.out (by have := HH.out.size; omega) (below_trans hb1 hb2)⟩
end Go.Proofs.YtnppimhlfcjghaaGreat
