/- tree: Has, First, Len, Get, At, Below. -/
import Derived.Test.YtnppimhlfcjghaaMap
import Derived.Test.YtnppimhlfcjghaaProg
import Derived.KernelRfl
import Derived.BigQuiet
import Derived.Deep.QuietTactic
import Derived.Deep.DeepCutAuto
import Derived.Outline
import Derived.IntWalk
import Derived.StillTailTactics
namespace Go.Proofs.Ytnppimhlfcjghaa
open Go.RowKit
set_option maxRecDepth 100000
set_option maxHeartbeats 1000000
abbrev ndC (n : Nd) : Value := .agg #[.int .u64 n.parent, .int .i64 n.slot, .int .i64 n.height]
def ndKV (l : List (Int × Nd)) : List (Int × Value) := l.map fun p => (p.1, ndC p.2)
theorem zNd (W : World) : (zeroValue 120).run Try.prog W = .ok (ndC Nd.zero) W := by kernel_rfl
theorem iNd : (Try.prog.info? 120).map (·.size) = some 3 := by kernel_rfl
/-- A tree in memory. -/
structure TreeAt (w : World) (tb nb : Nat) (t : Tr) : Prop where
  blk : w.heap[tb]? = some (.cells #[.int .u64 t.first, .map (some nb)] 124 (0, 0))
  map : MapAt w nb (ndKV t.nodes)
theorem TreeAt.below {w w' : World} {tb nb : Nat} {t : Tr} (h : TreeAt w tb nb t) (hb : Below w.heap.size w w') : TreeAt w' tb nb t := ⟨blk_below h.blk hb, h.map.below hb⟩
theorem TreeAt.ext {w w' : World} {F : Nat → Prop} {tb nb : Nat} {t : Tr} (h : TreeAt w tb nb t) (hb : Ext F w w') (h1 : ¬ F tb) (h2 : ¬ F nb) : TreeAt w' tb nb t := ⟨blk_ext h.blk hb h1, h.map.ext hb h2⟩
theorem TreeAt.ne {w : World} {tb nb : Nat} {t : Tr} (h : TreeAt w tb nb t) : tb ≠ nb := by
  rintro rfl
  obtain ⟨es, clk, h1, _⟩ := h.map
  rw [h.blk] at h1
  cases h1
theorem nd_look (t : Tr) (k : Int) : (lk (ndKV t.nodes) k).getD (ndC Nd.zero) = ndC (t.nd k) ∧ (lk (ndKV t.nodes) k).isSome = t.has k := by
  unfold ndKV Tr.nd Tr.has
  rw [lk_map]
  cases lk t.nodes k <;> exact ⟨rfl, rfl⟩
theorem TreeAt.look {w : World} {tb nb : Nat} {t : Tr} (h : TreeAt w tb nb t) (k : Int) : (Instr.lookup 122 (.map (some nb)) (.int .u64 k) true).run Try.prog w = .ok (.tuple #[ndC (t.nd k), .bool (t.has k)]) w := by
  have := run_look h.map Try.underlying122 Try.underlying28 (zNd w) k true
  rw [(nd_look t k).1, (nd_look t k).2] at this
  exact this
theorem TreeAt.look1 {w : World} {tb nb : Nat} {t : Tr} (h : TreeAt w tb nb t) (k : Int) : (Instr.lookup 122 (.map (some nb)) (.int .u64 k) false).run Try.prog w = .ok (ndC (t.nd k)) w := by
  have := run_look h.map Try.underlying122 Try.underlying28 (zNd w) k false
  rw [(nd_look t k).1] at this
  exact this
section
variable {w : World} {tb nb : Nat} {t : Tr}
theorem Has_calls (h : TreeAt w tb nb t) (r : Int) : Calls Try.prog 21 #[.pointer (some ⟨tb, 0, none⟩), .int .u64 r] w fun e w' => e = .returned (.bool (t.has r)) ∧ Below w.heap.size w w' := by
  have hc := blk_cell h.blk 1
  have hl := h.look r
  go_enter Try.func21, Try.ntmps21
  go_wp2
  go_ret
  exact ⟨rfl, below_alloc (Below.refl _ _) _⟩
theorem First_calls' (h : TreeAt w tb nb t) : Calls Try.prog 22 #[.pointer (some ⟨tb, 0, none⟩)] w fun e w' => e = .returned (.int .u64 t.first) ∧ w = w' := by
  have hc := blk_cell h.blk 0
  go_enter Try.func22, Try.ntmps22
  go_wp2
  go_ret
  exact ⟨rfl, rfl⟩
theorem Get_calls (h : TreeAt w tb nb t) (r : Int) : Calls Try.prog 30 #[.pointer (some ⟨tb, 0, none⟩), .int .u64 r] w fun e w' => e = .returned (.tuple #[.int .u64 (t.nd r).parent, .int .i64 (t.nd r).slot, .int .i64 (t.nd r).height, .bool (t.has r)]) ∧ Below w.heap.size w w' := by
  have hc := blk_cell h.blk 1
  have hl := h.look r
  go_enter Try.func30, Try.ntmps30
  go_wp2
  go_quiet (fail)
  go_wp2
  exact bodyPost_ret (v := .tuple #[.int .u64 (t.nd r).parent, .int .i64 (t.nd r).slot, .int .i64 (t.nd r).height, .bool (t.has r)]) (by simp [results, Try.results30, go_sem]) rfl ⟨rfl, below_drewN (below_alloc (Below.refl _ _) _) _⟩
theorem Tr.nd_rng (hok : t.ok) (r : Int) : (0 ≤ (t.nd r).parent ∧ (t.nd r).parent ≤ 18446744073709551615) ∧ (0 ≤ (t.nd r).slot ∧ (t.nd r).slot ≤ 1099511627776) ∧ 0 ≤ (t.nd r).height ∧ (t.nd r).height ≤ (t.nd r).slot := by
  unfold Tr.nd
  cases h : lk t.nodes r with
  | none => simp [Nd.zero]
  | some n => exact (hok.rng _ (lk_mem h)).2
theorem At_calls (h : TreeAt w tb nb t) (hok : t.ok) (r s : Int) : Calls Try.prog 26 #[.pointer (some ⟨tb, 0, none⟩), .int .u64 r, .int .i64 s] w fun e w' => e = .returned (.int .u64 (t.at_ r s)) ∧ Below w.heap.size w w' := by
  have hc := blk_cell h.blk 1
  have hl := h.look r
  obtain ⟨B, HB, hB1, hB2⟩ := size_hid w
  rw [HB.out]
  cases hh : t.has r with
  | false =>
    rw [hh] at hl
    have HA : Hid (t.at_ r s = 0) := by show _ = _; rw [Tr.at_, hh]; rfl
    go_enter Try.func26, Try.ntmps26
    go_wp2
    go_loopw [1] (fun v wr => v = .int .u64 r ∧ Below B w wr) (fun _ _ => 0)
    case atStart => exact ⟨rfl, by rw [← HB.out]; exact below_alloc (Below.refl _ _) _⟩
    case round =>
      obtain ⟨rfl, hb⟩ := hrel
      go_wp2
      go_ret
      exact ⟨by rw [HA.out]; rfl, hb⟩
  | true =>
    rw [hh] at hl
    have HA : Hid (t.at_ r s = t.atF s (t.nd r).height.toNat r) := by show _ = _; rw [Tr.at_, hh]; rfl
    have HR := Lib.hid hh
    clear hh
    go_enter Try.func26, Try.ntmps26
    go_wp2
    have hblk := heap_new w (.cells #[.int .u64 (t.nd r).parent, .int .i64 (t.nd r).slot, .int .i64 (t.nd r).height] 120)
    rw [HB.out] at hblk ⊢
    have hb0 : Below B w (w.alloc (.cells #[.int .u64 (t.nd r).parent, .int .i64 (t.nd r).slot, .int .i64 (t.nd r).height] 120)) := by rw [← HB.out]; exact below_alloc (Below.refl _ _) _
    generalize w.alloc _ = W0 at hblk hb0 ⊢
    go_loopw [1] (fun v wr => ∃ r' : Int, v = .int .u64 r' ∧ Hid (t.has r' = true) ∧ Hid (t.at_ r s = t.atF s (t.nd r').height.toNat r') ∧ wr.heap[B]? = some (.cells #[.int .u64 (t.nd r').parent, .int .i64 (t.nd r').slot, .int .i64 (t.nd r').height] 120 (0, 0)) ∧ Below B w wr) (fun v _ => match v with | .int _ x => (t.nd x).slot.toNat | _ => 0)
    case atStart => exact ⟨r, rfl, HR, HA, hblk, hb0⟩
    case round =>
      clear hblk hb0 hl HR HA
      obtain ⟨r', rfl, HR, HA, hblk, hb⟩ := hrel
      have ht := (h.below (hb.mono hB1))
      have k0 := blk_cell hblk 0
      have k1 := blk_cell hblk 1
      have k2 := blk_cell hblk 2
      have f0 := blk_frozen hblk 0
      have f1 := blk_frozen hblk 1
      have f2 := blk_frozen hblk 2
      have c0 := blk_cell ht.blk 0
      have c1 := blk_cell ht.blk 1
      have HU : Hid (r' ≠ t.first → t.has (t.nd r').parent = true ∧ (t.nd (t.nd r').parent).slot < (t.nd r').slot ∧ (t.nd r').height = (t.nd (t.nd r').parent).height + 1) := hok.up r' HR.out
      have hl1 := ht.look1 (t.nd r').parent
      have HN := Lib.hid (Tr.nd_rng hok (t.nd r').parent)
      have HS : Hid (t.atF s (t.nd r').height.toNat r' = if r' ≠ t.first ∧ s < (t.nd r').slot then t.atF s (t.nd (t.nd r').parent).height.toNat (t.nd r').parent else r') := by
        show _ = _
        by_cases hf : r' = t.first
        · rw [if_neg (fun h => h.1 hf)]
          cases (t.nd r').height.toNat with
          | zero => rfl
          | succ n => rw [Tr.atF, if_neg (fun h => h.1 hf)]
        · have e := (HU.out hf).2.2
          have h0 := HN.out.2.2
          rw [show (t.nd r').height.toNat = (t.nd (t.nd r').parent).height.toNat + 1 from by omega, Tr.atF]
      by_cases hf : r' = t.first
      · have hb1 : (r' != t.first) = false := by simp [hf]
        have HE : Hid (t.at_ r s = r') := by show _ = _; rw [HA.out, HS.out, if_neg (fun h => h.1 hf)]
        clear hl1
        go_wp2
        go_ret
        exact ⟨by rw [HE.out]; rfl, hb⟩
      · have hb1 : (r' != t.first) = true := by simp [hf]
        by_cases hs : s < (t.nd r').slot
        · have HE : Hid (t.at_ r s = t.atF s (t.nd (t.nd r').parent).height.toNat (t.nd r').parent) := by show _ = _; rw [HA.out, HS.out, if_pos ⟨hf, hs⟩]
          have HP := Lib.hid (HU.out hf)
          clear hf
          go_wp2
          go_roundw
          case rel =>
            refine ⟨(t.nd r').parent, rfl, Lib.hid HP.out.1, HE, ?_, ?_⟩
            · simpa using blk_set (blk_set (blk_set hblk 0 (.int .u64 (t.nd (t.nd r').parent).parent)) 1 (.int .i64 (t.nd (t.nd r').parent).slot)) 2 (.int .i64 (t.nd (t.nd r').parent).height)
            · exact ((hb.setCell (Nat.le_refl _) _).setCell (Nat.le_refl _) _).setCell (Nat.le_refl _) _
          case measure =>
            have := HP.out.2.1
            have := HN.out.2.1.1
            simp
            omega
        · have HE : Hid (t.at_ r s = r') := by show _ = _; rw [HA.out, HS.out, if_neg (fun h => hs h.2)]
          clear hf hl1
          go_wp2
          go_ret
          exact ⟨by rw [HE.out]; rfl, hb⟩
theorem Below_calls (h : TreeAt w tb nb t) (hok : t.ok) (r on : Int) : Calls Try.prog 23 #[.pointer (some ⟨tb, 0, none⟩), .int .u64 r, .int .u64 on] w fun e w' => e = .returned (.bool (t.below r on)) ∧ Below w.heap.size w w' := by
  have hc := blk_cell h.blk 1
  have hl := h.look on
  have hb0 : Below w.heap.size w (w.alloc (.cells #[.int .u64 (t.nd on).parent, .int .i64 (t.nd on).slot, .int .i64 (t.nd on).height] 120)) := below_alloc (Below.refl _ _) _
  have hblk := heap_new w (.cells #[.int .u64 (t.nd on).parent, .int .i64 (t.nd on).slot, .int .i64 (t.nd on).height] 120)
  have ht := h.below hb0
  cases ho : t.has on with
  | false =>
    rw [ho] at hl
    have HE : Hid (t.below r on = false) := by show _ = _; rw [Tr.below, ho]; rfl
    clear ho ht hblk
    go_enter Try.func23, Try.ntmps23
    go_wp2
    go_ret
    exact ⟨by rw [HE.out]; rfl, hb0⟩
  | true =>
    rw [ho] at hl
    have HO := Lib.hid ho
    clear ho
    have cH := Has_calls ht r
    cases hr : t.has r with
    | false =>
      rw [hr] at cH
      have HE : Hid (t.below r on = false) := by show _ = _; rw [Tr.below, hr, HO.out]; rfl
      clear hr
      go_enter Try.func23, Try.ntmps23
      go_wp2_with (go_at_call 21; refine cH.mono ?_; rintro e w1 ⟨rfl, hb1⟩)
      go_ret
      exact ⟨by rw [HE.out]; rfl, below_then hb0 (by simp) hb1⟩
    | true =>
      rw [hr] at cH
      have HE : Hid (t.below r on = (t.at_ r (t.nd on).slot == on)) := by show _ = _; rw [Tr.below, hr, HO.out]; rfl
      clear hr
      go_enter Try.func23, Try.ntmps23
      go_wp2_with (first
        | (go_at_call 21; refine cH.mono ?_; rintro e w1 ⟨rfl, hb1⟩; have hc1 := blk_cell (blk_below hblk hb1) 1)
        | (go_at_call 26; refine (At_calls (ht.below hb1) hok r (t.nd on).slot).mono ?_; rintro e w2 ⟨rfl, hb2⟩))
      go_ret
      exact ⟨by rw [HE.out]; rfl, below_then hb0 (by simp) (below_trans hb1 hb2)⟩
theorem Len_calls (h : TreeAt w tb nb t) : Calls Try.prog 34 #[.pointer (some ⟨tb, 0, none⟩)] w fun e w' => e = .returned (.int .i64 t.nodes.length) ∧ w = w' := by
  have hc := blk_cell h.blk 1
  have hl := h.map.len Try.underlying122
  simp only [ndKV, List.length_map] at hl
  go_enter Try.func34, Try.ntmps34
  go_wp2
  go_ret
  exact ⟨rfl, rfl⟩
theorem TreeOf_calls (w : World) (r s : Int) : Calls Try.prog 36 #[.int .u64 r, .int .i64 s] w fun e w' => e = .returned (.pointer (some ⟨w.heap.size + 1, 0, none⟩)) ∧ TreeAt w' (w.heap.size + 1) w.heap.size (Tr.of r s) ∧ Below w.heap.size w w' := by
  have hmm := @run_makeMap Try.prog
  go_enter Try.func36, Try.ntmps36
  go_wp2_with (refine wpList_ins rfl _ _ _ _ rfl _ _ Try.underlying122 Try.underlying28 w.heap.size [] rfl (MapAt.new w) r (ndC ⟨r, s, 0⟩) rfl rfl ?_; intro w1 hm1 hx1 hs1)
  have hs : w1.heap.size = w.heap.size + 1 := by simpa using hs1
  go_ret
  have hb1 : Below w.heap.size w w1 := Ext.below ((Ext.of_below (F := fun i => i = w.heap.size) (below_alloc (Below.refl _ w) (.map #[] 0))).trans hx1 (fun _ _ h => h)) (Nat.le_refl _) (fun i hi e => by omega)
  refine ⟨rfl, ⟨?_, (hm1.below (below_alloc (Below.refl _ _) _))⟩, hb1.alloc (by omega) _⟩
  rw [← hs]
  exact heap_new w1 _
set_option maxHeartbeats 2000000 in
theorem Add_ok (h : TreeAt w tb nb t) (hok : t.ok) (r p s : Int) (he : t.addE r p s = 0) : Calls Try.prog 61 #[.pointer (some ⟨tb, 0, none⟩), .int .u64 r, .int .u64 p, .int .i64 s] w fun e w' => e = .returned .nilIface ∧ TreeAt w' tb nb (t.add r p s) ∧ Ext (fun i => i = nb) w w' := by
  have hc := blk_cell h.blk 1
  have hl := h.look p
  have HP := Lib.hid (Tr.nd_rng hok p)
  have hlen := hok.len
  unfold Tr.addE at he
  split at he
  · cases he
  next h1 =>
  split at he
  · cases he
  next h2 =>
  split at he
  · cases he
  next h3 =>
  split at he
  · cases he
  next h4 =>
  have h1' : t.has r = false := by simpa using h1
  have h2' : t.has p = true := by simpa using h2
  rw [h2'] at hl
  have hg1 := HP.out.2.1
  have hg2 := HP.out.2.2
  obtain ⟨np, hnp⟩ : ∃ np, np = t.nd p := ⟨_, rfl⟩
  rw [← hnp] at hl hg1 hg2 h3
  have hb0 : Below w.heap.size w (w.alloc (.cells #[.int .u64 np.parent, .int .i64 np.slot, .int .i64 np.height] 120)) := below_alloc (Below.refl _ _) _
  have hblk := heap_new w (.cells #[.int .u64 np.parent, .int .i64 np.slot, .int .i64 np.height] 120)
  have ht := h.below hb0
  have cH := Has_calls ht r
  rw [h1'] at cH
  have HNP := Lib.hid hnp
  have hls : ¬ (1024 ≤ (t.nodes.length : Int)) := by omega
  clear h1 h2 h1' h2' hnp
  go_enter Try.func61, Try.ntmps61
  go_upto_region 10 with (go_at_call 21; refine cH.mono ?_; rintro e w1 ⟨rfl, hb1⟩; have hc1 := blk_cell (blk_below hblk hb1) 1; have hc2 := blk_cell (blk_below hblk hb1) 2; have ht1 := ht.below hb1; have hc3 := blk_cell ht1.blk 1; have hln := ht1.map.len Try.underlying122; simp only [ndKV, List.length_map] at hln)
  clear hln hc2
  have hc2 := blk_cell (blk_below hblk hb1) 2
  have hw : IntKind.i64.wrap (np.height + 1) = np.height + 1 := IntWalk.i64_in _ (by omega)
  go_still_tail 11, (by kernel_rfl)
  change wpList _ _ _ _ _ w1.drew
  have hbw : Below w.heap.size w w1.drew := (below_trans hb0 hb1).drew
  have ht2 : TreeAt w1.drew tb nb t := h.below hbw
  generalize w1.drew = w2 at hbw ht2 ⊢
  go_wp2_with (refine wpList_put rfl _ _ _ _ rfl _ _ Try.underlying122 Try.underlying28 nb _ rfl ht2.map r (ndC ⟨p, s, np.height + 1⟩) rfl rfl ?_; intro w3 hm3 hx3 hs3)
  go_ret
  refine ⟨rfl, ⟨?_, ?_⟩, ?_⟩
  · exact blk_ext ht2.blk hx3 h.ne
  · have e : put (ndKV t.nodes) r (ndC ⟨p, s, np.height + 1⟩) = ndKV (t.add r p s).nodes := by
      rw [Tr.add, ← HNP.out]
      exact put_map ndC r ⟨p, s, np.height + 1⟩ t.nodes
    rw [← e]
    exact hm3
  · exact (Ext.of_below hbw).trans hx3 (fun _ _ h => h)
/-- An error's value. -/
def errV (n : Int) : Value := if n = 0 then .nilIface else .iface 105 (.int .i64 n)
set_option maxHeartbeats 2000000 in
theorem Add_err (h : TreeAt w tb nb t) (hok : t.ok) (r p s : Int) (he : t.addE r p s ≠ 0) : Calls Try.prog 61 #[.pointer (some ⟨tb, 0, none⟩), .int .u64 r, .int .u64 p, .int .i64 s] w fun e w' => e = .returned (errV (t.addE r p s)) ∧ Below w.heap.size w w' := by
  have hc := blk_cell h.blk 1
  have hl := h.look p
  have hlen := hok.len
  have hb0 : Below w.heap.size w (w.alloc (.cells #[.int .u64 (t.nd p).parent, .int .i64 (t.nd p).slot, .int .i64 (t.nd p).height] 120)) := below_alloc (Below.refl _ _) _
  have hblk := heap_new w (.cells #[.int .u64 (t.nd p).parent, .int .i64 (t.nd p).slot, .int .i64 (t.nd p).height] 120)
  have ht := h.below hb0
  have cH := Has_calls ht r
  cases h1 : t.has r with
  | true =>
    have HE : Hid (errV (t.addE r p s) = errV 6) := by show _ = _; rw [Tr.addE, if_pos h1]
    rw [h1] at cH
    clear h1 he
    go_enter Try.func61, Try.ntmps61
    go_wp2_with (go_at_call 21; refine cH.mono ?_; rintro e w1 ⟨rfl, hb1⟩)
    go_ret
    exact ⟨by rw [HE.out]; rfl, below_trans hb0 hb1⟩
  | false =>
    have h1' : ¬ (t.has r = true) := by simp [h1]
    rw [h1] at cH
    cases h2 : t.has p with
    | false =>
      have HE : Hid (errV (t.addE r p s) = errV 5) := by show _ = _; rw [Tr.addE, if_neg h1', if_pos h2]
      rw [h2] at hl
      clear h1 h1' h2 he
      go_enter Try.func61, Try.ntmps61
      go_wp2_with (go_at_call 21; refine cH.mono ?_; rintro e w1 ⟨rfl, hb1⟩)
      go_ret
      exact ⟨by rw [HE.out]; rfl, below_trans hb0 hb1⟩
    | true =>
      have h2' : ¬ (t.has p = false) := by simp [h2]
      rw [h2] at hl
      by_cases h3 : s ≤ (t.nd p).slot
      · have HE : Hid (errV (t.addE r p s) = errV 7) := by show _ = _; rw [Tr.addE, if_neg h1', if_neg h2', if_pos h3]
        clear h1 h1' h2 h2' he
        go_enter Try.func61, Try.ntmps61
        go_wp2_with (go_at_call 21; refine cH.mono ?_; rintro e w1 ⟨rfl, hb1⟩; have hc1 := blk_cell (blk_below hblk hb1) 1)
        go_ret
        exact ⟨by rw [HE.out]; rfl, below_trans hb0 hb1⟩
      · by_cases h4 : 1024 ≤ t.nodes.length
        · have HE : Hid (errV (t.addE r p s) = errV 12) := by show _ = _; rw [Tr.addE, if_neg h1', if_neg h2', if_neg h3, if_pos h4]
          have h4z : (1024 : Int) ≤ t.nodes.length := by omega
          clear h1 h1' h2 h2' he
          go_enter Try.func61, Try.ntmps61
          go_wp2_with (go_at_call 21; refine cH.mono ?_; rintro e w1 ⟨rfl, hb1⟩; have hc1 := blk_cell (blk_below hblk hb1) 1; have ht1 := ht.below hb1; have hc3 := blk_cell ht1.blk 1; have hln := ht1.map.len Try.underlying122; simp only [ndKV, List.length_map] at hln)
          go_ret
          exact ⟨by rw [HE.out]; rfl, below_trans hb0 hb1⟩
        · exact absurd (by rw [Tr.addE, if_neg h1', if_neg h2', if_neg h3, if_neg h4]) he
end
end Go.Proofs.Ytnppimhlfcjghaa
