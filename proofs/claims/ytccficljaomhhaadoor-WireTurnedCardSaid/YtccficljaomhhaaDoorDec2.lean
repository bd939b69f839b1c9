/- wire: the reader: small, root, point. -/
import Derived.Test.YtccficljaomhhaaDoorProg
import Derived.Test.YtccficljaomhhaaDoorDecP
import Derived.Test.YtccficljaomhhaaDoorDec1
import Derived.Test.YtccficljaomhhaaDoorWire2
import Derived.Deep.QuietTactic
import Derived.BigQuiet
namespace Go.Proofs.YtccficljaomhhaaDoor
open Go.RowKit
/-- A reader at the block R, over the bytes bs, in the state s. -/
structure RS (B R : Nat) (A : Option Addr) (n c : Nat) (bs : List Int) (w : World) (s : Rd) : Prop where
  ints : Ints (fun b => b ≠ R ∧ b < B) .u8 w A bs
  lo : B ≤ w.heap.size
  byt : bytesW bs
  len : bs.length = n
  fits : Fits n c
  at_ : ∃ p q, q = 8 * p ∧ (groups bs).drop p = s.rem ∧ p ≤ (groups bs).length ∧ w.heap[R]? = some (.cells #[.slice A n c, .int .i64 (q : Nat), .bool s.bad] 61 (0, 0))
variable {B R : Nat} {A : Option Addr} {n c : Nat} {bs : List Int}
theorem RS.ext {w w' : World} {s : Rd} (h : RS B R A n c bs w s) {F : Nat → Prop} (hx : Ext F w w') (hR : ¬ F R) (hF : ∀ b, F b → b = R ∨ B ≤ b) : RS B R A n c bs w' s := by
  obtain ⟨h1, h0, h2, h3, h4, p, q, hq, h5, h6, h7⟩ := h
  exact ⟨Lie.mono h1 (fun _ _ _ x => x) (fun _ x => x) (fun b hb hb' => hx.block b hb' (fun hf => by rcases hF b hf with e | e; exact hb.1 e; omega)), Nat.le_trans h0 hx.size, h2, h3, h4, p, q, hq, h5, h6, blk_ext h7 hx hR⟩
theorem RS.below {w w' : World} {s : Rd} (h : RS B R A n c bs w s) (hb : Below w.heap.size w w') : RS B R A n c bs w' s :=
  h.ext (F := fun _ => False) (Ext.of_below hb) (fun x => x) (fun _ x => x.elim)
theorem RS.lt {w : World} {s : Rd} (h : RS B R A n c bs w s) : R < w.heap.size := by
  obtain ⟨h1, h0, h2, h3, h4, p, q, hq, h5, h6, h7⟩ := h
  exact blk_lt h7
theorem RS.hit {w : World} {s : Rd} (h : RS B R A n c bs w s) {x : Int} {r : List Int} (e : s.rem = x :: r) : ∃ p q, q = 8 * p ∧ q + 8 ≤ n ∧ valK bs q 8 = x ∧ (groups bs).drop p = x :: r ∧ (groups bs).drop (p + 1) = r ∧ p + 1 ≤ (groups bs).length ∧ w.heap[R]? = some (.cells #[.slice A n c, .int .i64 (q : Nat), .bool s.bad] 61 (0, 0)) := by
  obtain ⟨h1, h0, h2, h3, h4, p, q, hq, h5, h6, h7⟩ := h
  rw [e] at h5
  have hl := groups_length bs
  have hp : p < (groups bs).length := by
    rcases Nat.lt_or_ge p (groups bs).length with h | h
    · exact h
    · rw [List.drop_eq_nil_of_le h] at h5; cases h5
  have h8 : 8 * p + 8 ≤ bs.length := by omega
  rw [List.drop_eq_getElem_cons hp] at h5
  have hg := groups_get bs p h8
  rw [List.getElem?_eq_getElem hp] at hg
  injection h5 with e1 e2
  injection hg with e3
  exact ⟨p, q, hq, by omega, by rw [hq, ← e3, e1], by rw [List.drop_eq_getElem_cons hp, e1, e2], e2, hp, h7⟩
theorem RS.miss {w : World} {s : Rd} (h : RS B R A n c bs w s) (e : s.rem = []) : ∃ p q, q = 8 * p ∧ (groups bs).drop p = [] ∧ p ≤ (groups bs).length ∧ ¬ q + 8 ≤ n ∧ q ≤ n ∧ w.heap[R]? = some (.cells #[.slice A n c, .int .i64 (q : Nat), .bool s.bad] 61 (0, 0)) := by
  obtain ⟨h1, h0, h2, h3, h4, p, q, hq, h5, h6, h7⟩ := h
  rw [e] at h5
  have hl := groups_length bs
  have := List.drop_eq_nil_iff.1 h5
  exact ⟨p, q, hq, h5, h6, by omega, by omega, h7⟩
theorem RS.set {w : World} {s s' : Rd} (h : RS B R A n c bs w s) {p q : Nat} (e8 : q = 8 * p) {b : Bool} {w' : World} (hw : w'.heap[R]? = some (.cells #[.slice A n c, .int .i64 (q : Nat), .bool b] 61 (0, 0)))
    (hx : Ext (· = R) w w') (hq : (groups bs).drop p = s'.rem) (hl : p ≤ (groups bs).length) (hb : b = s'.bad) : RS B R A n c bs w' s' := by
  obtain ⟨h1, h0, h2, h3, h4, _⟩ := h
  subst hb
  exact ⟨Lie.mono h1 (fun _ _ _ x => x) (fun _ x => x) (fun b hb hb' => hx.block b hb' hb.1), Nat.le_trans h0 hx.size, h2, h3, h4, p, q, e8, hq, hl, hw⟩
theorem ext_R (w : World) (k i : Nat) (u : Value) : Ext (· = R) w ((w.drewN k).setCell ⟨R, i, none⟩ u) := ((Ext.refl (· = R) w).drewN k).setCell (.inl rfl) u
set_option maxHeartbeats 400000 in
theorem rsmall_calls (w : World) (s : Rd) (most : Int) (h : RS B R A n c bs w s) (hm0 : 0 ≤ most) (hm1 : most ≤ 9223372036854775807) :
    Calls Tryd.prog 15 #[.pointer (some ⟨R, 0, none⟩), .int .i64 most] w fun e w' =>
      e = .returned (.int .i64 (smallR most s).1) ∧ RS B R A n c bs w' (smallR most s).2 ∧ Ext (· = R) w w' := by
  have hn : n ≤ 9223372036854775807 := by have := h.fits.2; unfold maxLen at this; omega
  cases hrem : s.rem with
  | nil =>
    obtain ⟨p, q, hq, hd, hp, h8, h9, hblk⟩ := h.miss hrem
    have HQ := Lib.hid hq
    clear hq
    have hqn : q ≤ 9223372036854775807 := by omega
    have e1 : smallR most s = (0, ⟨[], true⟩) := by simp [smallR, hrem]
    rw [e1]
    have c0 := blk_cell hblk 0
    have c1 := blk_cell hblk 1
    have c2 := blk_cell hblk 2
    have f1 := blk_frozen hblk 1
    have f2 := blk_frozen hblk 2
    simp only [List.getElem?_toArray, List.getElem?_cons_zero, List.getElem?_cons_succ] at c0 c1 c2
    go_enter Tryd.func15, Tryd.ntmps15
    go_upto_region 1 with fail
    go_quiet (first | (go_at_call 24; exact Calls.quiet_of_same (Small_miss _ A n c q most h8 hn hqn)))
    go_wp2
    go_ret
    refine ⟨rfl, h.set HQ.out (b := true) ?_ ?_ hd hp rfl, ?_⟩
    · simpa using blk_set (w := w.drewN nq) hblk 2 (.bool true)
    · exact ext_R w nq _ _
    · exact ext_R w nq _ _
  | cons x r =>
    obtain ⟨p, q, hq, h8, hx, hd0, hd, hp, hblk⟩ := h.hit hrem
    have HQ := Lib.hid hq
    clear hq
    have HX := Lib.hid hx
    clear hx
    have h0 := (val8_le h.byt q).1
    rw [HX.out] at h0
    have hi := fun k => (h.ints.any).below (below_drewN (Below.refl w.heap.size w) k)
    have hby := h.byt
    have hln := h.len
    have hft := h.fits
    have c0 := blk_cell hblk 0
    have c1 := blk_cell hblk 1
    have c2 := blk_cell hblk 2
    have f1 := blk_frozen hblk 1
    have f2 := blk_frozen hblk 2
    simp only [List.getElem?_toArray, List.getElem?_cons_zero, List.getElem?_cons_succ] at c0 c1 c2
    by_cases hle : x ≤ most
    · have hle' : valK bs q 8 ≤ most := by rw [HX.out]; exact hle
      have hS := fun k => Small_hit (w.drewN k) A n c bs q most (hi k) hby hln hn hft h8 hm0 hm1 hle'
      rw [HX.out] at hS
      clear hle'
      cases hb : s.bad with
      | true =>
        rw [hb] at c2
        have e1 : smallR most s = (0, ⟨x :: r, true⟩) := by simp [smallR, hrem, hb]
        rw [e1]
        go_enter Tryd.func15, Tryd.ntmps15
        go_upto_region 1 with fail
        go_quiet (first | (go_at_call 24; exact Calls.quiet_of_same (hS _)))
        go_wp2
        go_ret
        refine ⟨rfl, h.set HQ.out (b := true) ?_ ?_ hd0 (by omega) rfl, ?_⟩
        · simpa [hb] using blk_set (w := w.drewN nq) hblk 2 (.bool true)
        · exact ext_R w nq _ _
        · exact ext_R w nq _ _
      | false =>
        rw [hb] at c2
        have e1 : smallR most s = (x, ⟨r, false⟩) := by simp [smallR, hrem, hb, hle]
        rw [e1]
        go_enter Tryd.func15, Tryd.ntmps15
        go_upto_region 1 with fail
        go_quiet (first | (go_at_call 24; exact Calls.quiet_of_same (hS _)))
        go_wp2
        go_ret
        refine ⟨rfl, h.set (p := p + 1) (q := q + 8) (by have := HQ.out; omega) (b := false) ?_ ?_ hd hp rfl, ?_⟩
        · simpa [hb] using blk_set (w := w.drewN nq) hblk 1 (.int .i64 (q + 8 : Nat))
        · exact ext_R w nq _ _
        · exact ext_R w nq _ _
    · have e1 : smallR most s = (0, ⟨x :: r, true⟩) := by cases hb : s.bad <;> simp [smallR, hrem, hb, hle]
      have hle' : ¬ valK bs q 8 ≤ most := by rw [HX.out]; exact hle
      have hS := fun k => Small_far (w.drewN k) A n c bs q most (hi k) hby hln hn hft h8 hm0 hm1 hle'
      clear hle'
      rw [e1]
      go_enter Tryd.func15, Tryd.ntmps15
      go_upto_region 1 with fail
      go_quiet (first | (go_at_call 24; exact Calls.quiet_of_same (hS _)))
      go_wp2
      go_ret
      refine ⟨rfl, h.set HQ.out (b := true) ?_ ?_ hd0 (by omega) rfl, ?_⟩
      · simpa using blk_set (w := w.drewN nq) hblk 2 (.bool true)
      · exact ext_R w nq _ _
      · exact ext_R w nq _ _
set_option maxHeartbeats 400000 in
theorem rroot_calls (w : World) (s : Rd) (h : RS B R A n c bs w s) :
    Calls Tryd.prog 25 #[.pointer (some ⟨R, 0, none⟩)] w fun e w' =>
      e = .returned (.int .u64 (rootR s).1) ∧ RS B R A n c bs w' (rootR s).2 ∧ Ext (· = R) w w' := by
  have hn : n ≤ 9223372036854775807 := by have := h.fits.2; unfold maxLen at this; omega
  cases hrem : s.rem with
  | nil =>
    obtain ⟨p, q, hq, hd, hp, h8, h9, hblk⟩ := h.miss hrem
    have HQ := Lib.hid hq
    clear hq
    have hqn : q ≤ 9223372036854775807 := by omega
    have e1 : rootR s = (0, ⟨[], true⟩) := by simp [rootR, hrem]
    rw [e1]
    have c0 := blk_cell hblk 0
    have c1 := blk_cell hblk 1
    have c2 := blk_cell hblk 2
    have f1 := blk_frozen hblk 1
    have f2 := blk_frozen hblk 2
    simp only [List.getElem?_toArray, List.getElem?_cons_zero, List.getElem?_cons_succ] at c0 c1 c2
    go_enter Tryd.func25, Tryd.ntmps25
    go_upto_region 1 with fail
    go_quiet (first | (go_at_call 35; exact Calls.quiet_of_same (Get_miss _ A n c q h8 hn hqn)))
    go_wp2
    go_ret
    refine ⟨rfl, h.set HQ.out (b := true) ?_ ?_ hd hp rfl, ?_⟩
    · simpa using blk_set (w := w.drewN nq) hblk 2 (.bool true)
    · exact ext_R w nq _ _
    · exact ext_R w nq _ _
  | cons x r =>
    obtain ⟨p, q, hq, h8, hx, hd0, hd, hp, hblk⟩ := h.hit hrem
    have HQ := Lib.hid hq
    clear hq
    have HX := Lib.hid hx
    clear hx
    have h0 := (val8_le h.byt q).1
    rw [HX.out] at h0
    have hi := fun k => (h.ints.any).below (below_drewN (Below.refl w.heap.size w) k)
    have hby := h.byt
    have hln := h.len
    have hft := h.fits
    have c0 := blk_cell hblk 0
    have c1 := blk_cell hblk 1
    have c2 := blk_cell hblk 2
    have f1 := blk_frozen hblk 1
    have f2 := blk_frozen hblk 2
    simp only [List.getElem?_toArray, List.getElem?_cons_zero, List.getElem?_cons_succ] at c0 c1 c2
    · have hS := fun k => Get_hit (w.drewN k) A n c bs q (hi k) hby hln hn hft h8
      rw [HX.out] at hS
      cases hb : s.bad with
      | true =>
        rw [hb] at c2
        have e1 : rootR s = (0, ⟨x :: r, true⟩) := by simp [rootR, hrem, hb]
        rw [e1]
        go_enter Tryd.func25, Tryd.ntmps25
        go_upto_region 1 with fail
        go_quiet (first | (go_at_call 35; exact Calls.quiet_of_same (hS _)))
        go_wp2
        go_ret
        refine ⟨rfl, h.set HQ.out (b := true) ?_ ?_ hd0 (by omega) rfl, ?_⟩
        · simpa [hb] using blk_set (w := w.drewN nq) hblk 2 (.bool true)
        · exact ext_R w nq _ _
        · exact ext_R w nq _ _
      | false =>
        rw [hb] at c2
        have e1 : rootR s = (x, ⟨r, false⟩) := by simp [rootR, hrem, hb]
        rw [e1]
        go_enter Tryd.func25, Tryd.ntmps25
        go_upto_region 1 with fail
        go_quiet (first | (go_at_call 35; exact Calls.quiet_of_same (hS _)))
        go_wp2
        go_ret
        refine ⟨rfl, h.set (p := p + 1) (q := q + 8) (by have := HQ.out; omega) (b := false) ?_ ?_ hd hp rfl, ?_⟩
        · simpa [hb] using blk_set (w := w.drewN nq) hblk 1 (.int .i64 (q + 8 : Nat))
        · exact ext_R w nq _ _
        · exact ext_R w nq _ _
end Go.Proofs.YtccficljaomhhaaDoor
