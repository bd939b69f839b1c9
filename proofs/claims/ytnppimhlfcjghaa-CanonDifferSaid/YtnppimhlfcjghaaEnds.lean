/- epoch.Ends; ledger.who, ledger.point; function values of chains. -/
import Derived.Test.YtnppimhlfcjghaaJust
import Derived.Shelf.Abstract
namespace Go.Proofs.Ytnppimhlfcjghaa
open Go.RowKit
set_option maxRecDepth 100000
set_option maxHeartbeats 4000000
def seqI (a : Int) (n : Nat) : List Int := (List.range n).map fun (k : Nat) => a + (k : Int)
theorem seqI_succ (a : Int) (n : Nat) : seqI a (n + 1) = seqI a n ++ [a + n] := by
  simp [seqI, List.range_succ]
theorem seqI_length (a : Int) (n : Nat) : (seqI a n).length = n := by simp [seqI]
/-- A slice of whole numbers is handed back. -/
def RetInts (k : IntKind) (xs : List Int) (B : Nat) (w : World) (e : Ending) (w' : World) : Prop := ∃ A c, e = .returned (.slice A xs.length c) ∧ Ints (fun b => B ≤ b) k w' A xs ∧ Below B w w'
theorem Ends_calls (w : World) (a b s : Int) (ha : inI a) (hb : inI b) (hs : inI s) :
    Calls Try.prog 46 #[.int .i64 a, .int .i64 b, .int .i64 s] w (RetInts .i64 (endsL a b s) w.heap.size w) := by
  have cA := fun W => EpochOf_calls W a s ha hs
  have cB := fun W => EpochOf_calls W b s hb hs
  have hE0 := epochOf_bd a s ha.2
  have hE1 := epochOf_bd b s hb.2
  obtain ⟨N, hN⟩ : ∃ N, N = min (epochOf b s - epochOf a s).toNat 4096 := ⟨_, rfl⟩
  have hL : endsL a b s = seqI (epochOf a s) N := by rw [hN]; rfl
  rw [hL]
  generalize epochOf a s = E0 at cA hE0 hN ⊢
  generalize epochOf b s = E1 at cB hE1 hN
  have hN1 : N ≤ 4096 := by omega
  have HN := Lib.hid hN
  clear hL hN ha hb hs
  obtain ⟨B, HB, hB1, hB2⟩ := size_hid w
  rw [HB.out]
  have tok : True := trivial
  go_enter Try.func46, Try.ntmps46
  go_wp2_with (go_at_call 48; refine (cA _).mono ?_; rintro e w' ⟨rfl, rfl⟩)
  go_loopw [7, 8] (fun v i wr => ∃ (k : Nat) (A : Option Addr) (c : Nat), k ≤ N ∧ i = .int .i64 (E0 + k) ∧ v = .slice A k c ∧ Hid (wr.ownsRow B 3 1 (.slice A k c) k ((seqI E0 k).map (Value.int .i64))) ∧ Hid (Below B w wr)) (fun v _ _ => N - (match v with | .slice _ n _ => n | _ => 0))
  case atStart => exact ⟨0, none, 0, Nat.zero_le _, by simp, rfl, own_nil _ _ _ _, by show Below _ _ _; rw [← HB.out]; exact Below.refl _ _⟩
  case round =>
    clear cA
    obtain ⟨k, A, c, hk, rfl, rfl, HO, HW⟩ := hrel
    by_cases hlt : k < N
    · have h1 : E0 + (k : Int) < E1 := by have := HN.out; omega
      have h2 : (k : Int) < 4096 := by omega
      have hbr : B ≤ wr.heap.size := by have := HW.out.size; omega
      have HO1 := Lib.hid (HO.out.alloc (.cells #[.int .i64 (E0 + k)] 3))
      go_wp2_with (first
        | (go_at_call 48; refine (cB _).mono ?_; rintro e w' ⟨rfl, rfl⟩)
        | (at_builtin; refine wpList_app B rfl (.tmp 24) (.tmp 26) 60 3 (.int .i64 0) 1 8 rfl Try.underlying60 infoInt rfl (by decide) _ k _ rfl HO1.out (some ⟨wr.heap.size, 0, none⟩) 1 1 [.int .i64 (E0 + k)] rfl rfl (Flat.one _ _ _) (by simp [Value.oneCell']) (by omega) (by omega) (by simp; omega) ?_; intro A' c' w2 hown hg _; have HO2 := Lib.hid hown; have HG := Lib.hid hg; clear hown hg))
      go_roundw
      case rel =>
        refine ⟨k + 1, A', c', by omega, ?_, rfl, ?_, ?_⟩
        · congr 1; omega
        · show World.ownsRow _ _ _ _ _ _ _
          rw [seqI_succ, List.map_append]
          exact HO2.out
        · show Below _ _ _
          exact ((HW.out.alloc (by omega) _).grown HG.out (by simp; omega) (own_base HO1.out))
      case measure => simp; omega
    · obtain rfl : k = N := by omega
      by_cases h1 : E0 + (k : Int) < E1
      · have h2 : ¬ (k : Int) < 4096 := by have := HN.out; omega
        go_wp2_with (go_at_call 48; refine (cB _).mono ?_; rintro e w' ⟨rfl, rfl⟩)
        go_ret
        exact ⟨A, c, by rw [seqI_length]; rfl, Ints.of_own HO.out, HW.out⟩
      · go_wp2_with (go_at_call 48; refine (cB _).mono ?_; rintro e w' ⟨rfl, rfl⟩)
        go_ret
        exact ⟨A, c, by rw [seqI_length]; rfl, Ints.of_own HO.out, HW.out⟩
/-- A row of bools that begins its block. -/
def BoolsR (w : World) (A : Option Addr) (xs : List Bool) : Prop := ∃ b cs, A = some ⟨b, 0, none⟩ ∧ w.heap[b]? = some (.cells cs 4 (0, 0)) ∧ xs.map Value.bool <+: cs.toList
theorem BoolsR.below {w w' : World} {A : Option Addr} {xs : List Bool} (h : BoolsR w A xs) (hb : Below w.heap.size w w') : BoolsR w' A xs := by
  obtain ⟨b, cs, rfl, h1, h2⟩ := h
  exact ⟨b, cs, rfl, blk_below h1 hb, h2⟩
theorem BoolsR.cell {w : World} {A : Option Addr} {xs : List Bool} (h : BoolsR w A xs) {j : Nat} (hj : j < xs.length) : ∃ b, A = some ⟨b, 0, none⟩ ∧ w.cell? ⟨b, j, none⟩ = some (.bool (xs.getD j false)) := by
  obtain ⟨b, cs, rfl, h1, h2⟩ := h
  refine ⟨b, rfl, ?_⟩
  rw [blk_cell h1, ← Array.getElem?_toList]
  obtain ⟨t, ht⟩ := h2
  rw [← ht, List.getElem?_append_left (by simpa using hj), List.getElem?_map, List.getD_eq_getElem?_getD, List.getElem?_eq_getElem hj]
  rfl
theorem whoL_take (is : List Bool) (k : Nat) (hk : k ≤ is.length) : (iota k).filter (fun j => is.getD j.toNat false) = (whoL (is.take k)) := by
  unfold whoL
  rw [List.length_take, Nat.min_eq_left hk]
  apply List.filter_congr
  intro x hx
  simp only [iota, List.mem_map, List.mem_range] at hx
  obtain ⟨j, hj, rfl⟩ := hx
  rw [Int.toNat_natCast, List.getD_eq_getElem?_getD, List.getD_eq_getElem?_getD, List.getElem?_take_of_lt hj]
theorem whoL_succ (is : List Bool) (k : Nat) (hk : k < is.length) : whoL (is.take (k + 1)) = whoL (is.take k) ++ (if is.getD k false then [(k : Int)] else []) := by
  rw [← whoL_take is (k + 1) hk, ← whoL_take is k (by omega)]
  rw [show iota (k + 1) = iota k ++ [(k : Int)] from by simp [iota, List.range_succ], List.filter_append]
  simp [List.filter_cons]
theorem whoL_le (is : List Bool) : (whoL is).length ≤ is.length := by
  unfold whoL
  exact Nat.le_trans (List.length_filter_le _ _) (by rw [iota_length]; exact Nat.le_refl _)
theorem who_calls (w : World) (A : Option Addr) (c : Nat) (is : List Bool) (h : BoolsR w A is) (hl : is.length ≤ 4096) :
    Calls Try.prog 53 #[.slice A is.length c] w (RetInts .i64 (whoL is) w.heap.size w) := by
  obtain ⟨B, HB, hB1, hB2⟩ := size_hid w
  rw [HB.out]
  have H := Lib.hid h
  clear h
  go_enter Try.func53, Try.ntmps53
  go_wp2
  go_loopw [3, 4, 5, 8] (fun v _ _ i wr => ∃ (k : Nat) (A' : Option Addr) (c' : Nat), k ≤ is.length ∧ i = .int .i64 k ∧ v = .slice A' (whoL (is.take k)).length c' ∧ Hid (wr.ownsRow B 3 1 (.slice A' (whoL (is.take k)).length c') (whoL (is.take k)).length ((whoL (is.take k)).map (Value.int .i64))) ∧ Hid (Below B w wr)) (fun _ _ _ i _ => is.length - (intOf i).toNat)
  case atStart => exact ⟨0, none, 0, Nat.zero_le _, rfl, rfl, own_nil _ _ _ _, by show Below _ _ _; rw [← HB.out]; exact Below.refl _ _⟩
  case round =>
    obtain ⟨k, A', c', hk, rfl, rfl, HO, HW⟩ := hrel
    have hbr : B ≤ wr.heap.size := by have := HW.out.size; omega
    by_cases hlt : k < is.length
    · obtain ⟨b, rfl, hc⟩ := (H.out.below (HW.out.mono hB1)).cell hlt
      have HT := Lib.hid (whoL_succ is k hlt)
      have hwl : (whoL (is.take k)).length ≤ k := by have := whoL_le (is.take k); rw [List.length_take] at this; omega
      have HO1 := Lib.hid (HO.out.alloc (.cells #[.int .i64 k] 3))
      generalize hx : is.getD k false = x at hc HT
      clear hx
      generalize whoL (is.take k) = L at HO HO1 HT hwl ⊢
      cases x with
      | true =>
        go_wp2_with (at_builtin; refine wpList_app B rfl (.tmp 14) (.tmp 16) 60 3 (.int .i64 0) 1 8 rfl Try.underlying60 infoInt rfl (by decide) _ L.length _ rfl HO1.out (some ⟨wr.heap.size, 0, none⟩) 1 1 [.int .i64 k] rfl rfl (Flat.one _ _ _) (by simp [Value.oneCell']) (by omega) (by omega) (by simp; omega) ?_; intro A2 c2 w2 hown hg _; have HO2 := Lib.hid hown; have HG := Lib.hid hg; clear hown hg)
        go_roundw
        case rel =>
          refine ⟨k + 1, A2, c2, by omega, by go_num, ?_, ?_, ?_⟩
          · rw [HT.out]; simp
          · show World.ownsRow _ _ _ _ _ _ _
            rw [HT.out]
            simpa using HO2.out
          · show Below _ _ _
            exact ((HW.out.alloc (by omega) _).grown HG.out (by simp; omega) (own_base HO1.out))
        case measure => simp [intOf]; omega
      | false =>
        go_wp2
        go_roundw
        case rel =>
          refine ⟨k + 1, A', c', by omega, by go_num, ?_, ?_, HW⟩
          · rw [HT.out]; simp
          · show World.ownsRow _ _ _ _ _ _ _
            rw [HT.out]
            simpa using HO.out
        case measure => simp [intOf]; omega
    · obtain rfl : k = is.length := by omega
      rw [List.take_length] at HO ⊢
      go_wp2
      go_ret
      exact ⟨A', c', rfl, Ints.of_own HO.out, HW.out⟩
/-! ## Chains -/
/-- A function value that tells the block of a chain at a slot. -/
structure ChainAt (w : World) (g : Nat) (caps : Array Value) (f : Int → Int) : Prop where
  enters : ∀ args W, (callFunc g args).run Try.prog W = .ok (.enter g args) W
  calls : ∀ (W : World) (s : Int), Below w.heap.size w W → Calls Try.prog g (#[.int .i64 s] ++ caps) W fun e W' => e = .returned (.int .u64 (f s)) ∧ Below W.heap.size W W'
  rng : ∀ s, inU (f s)
theorem ChainAt.below {w w' : World} {g : Nat} {caps : Array Value} {f : Int → Int} (h : ChainAt w g caps f) (hb : Below w.heap.size w w') : ChainAt w' g caps f :=
  ⟨h.enters, fun W s hW => h.calls W s (hb.trans (hW.mono hb.size)), h.rng⟩
theorem iPt : (Try.prog.info? 47).map (·.size) = some 2 := by kernel_rfl
theorem point_calls (w : World) (c : Cf) (A : Option Addr) (k : Nat) (e : Int) (g : Nat) (caps : Array Value) (f : Int → Int) (hok : c.ok) (he : inI e) (he2 : e ≤ 1099511627776) (h : ChainAt w g caps f) :
    Calls Try.prog 47 #[cfC c A k, .int .i64 e, .func (.func g) #[] caps] w fun en w' => en = .returned (.agg #[.int .i64 (pointL c e f).e, .int .u64 (pointL c e f).r]) ∧ Below w.heap.size w w' := by
  obtain ⟨q0, q1, hb, hsz⟩ := alloc2 w (.cells #[.slice A c.bal.length k, .int .i64 c.slots, .int .i64 c.boost] 36) (.cells #[.int .i64 0, .int .u64 0] 47)
  have eg := h.enters
  have cS := fun W => EpochStart_calls W e c.slots he hok.s2 he2
  have cC := fun W s hW => h.calls W s hW
  have hp : pointL c e f = ⟨max 0 e, f (epochStart e c.slots)⟩ := rfl
  rw [hp]
  generalize epochStart e c.slots = E at cS ⊢
  clear h hp
  unfold inI at he
  go_enter Try.func47, Try.ntmps47
  go_upto_region 1 with fail
  generalize World.alloc (World.alloc w _) _ = W0 at q0 q1 hb hsz ⊢
  generalize hB : w.heap.size = B at q0 q1 hb hsz ⊢
  have HB := Lib.hid hB
  obtain ⟨c0, c1, c2⟩ := cs3 q0
  have hs1 := hok.s1
  have hs2 := hok.s2
  have hBs : B ≤ W0.heap.size := by omega
  obtain ⟨p0, p1⟩ := cs2 q1
  have hB1 : w.heap.size ≤ B := by omega
  clear hB
  go_wp2_with (first
    | (go_at_call 63; refine (cS _).mono ?_; rintro e w' ⟨rfl, rfl⟩)
    | (go_at_fn g; refine (cC _ _ (hb.mono hB1)).mono ?_; rintro e w1 ⟨rfl, hb1⟩; obtain ⟨u0, u1⟩ := cs2 (blk_below q1 hb1); have v0 := blk_frozen (blk_below q1 hb1) 0; have v1 := blk_frozen (blk_below q1 hb1) 1))
  all_goals
    have hk := fun x => blk_set (blk_set (blk_below q1 hb1) 0 (.int .i64 x)) 1 (.int .u64 (f E))
    refine bodyPost_ret (results_cellB rfl _ (B + 1) _ (hk _) rfl _ Try.underlying47 rfl iPt) rfl ⟨?_, ?_⟩
    · first
        | (rw [show max 0 e = e from by omega]; rfl)
        | (rw [show max 0 e = 0 from by omega]; rfl)
    · rw [HB.out]
      exact ((hb.trans (hb1.mono (by omega))).setCell (by simp) _).setCell (by simp) _
end Go.Proofs.Ytnppimhlfcjghaa
