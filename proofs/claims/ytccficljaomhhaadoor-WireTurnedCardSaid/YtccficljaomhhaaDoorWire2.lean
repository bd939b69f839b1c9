/- wire: the writer: put, point, vote, block. -/
import Derived.Test.YtccficljaomhhaaDoorProg
import Derived.Test.YtccficljaomhhaaDoorEvt
import Derived.Test.YtccficljaomhhaaDoorOct
import Derived.KernelRfl
import Derived.WalkSpells
import Derived.WalkLawsBesides
import Derived.Deep.RegionHeld3
import Derived.Deep.RegionLaw
import Derived.Deep.DeepCutAuto
import Derived.Deep.CutBlock
import Derived.Deep.DrawnRows
namespace Go.Proofs.YtccficljaomhhaaDoor
open Go.RowKit
attribute [local go_sem ↓] Go.wp_at_zero Go.wp_at_succ
/-- Bytes that lie there, in a slice with room for them. -/
structure IntsW (wb : Nat) (w : World) (A : Option Addr) (n c : Nat) (bs : List Int) : Prop where
  ints : Ints (· ≠ wb) .u8 w A bs
  cap : n ≤ c
theorem IntsW.any {wb : Nat} {w : World} {A : Option Addr} {n c : Nat} {bs : List Int} (h : IntsW wb w A n c bs) : Ints anyB .u8 w A bs := h.ints.any
theorem IntsW.below {wb : Nat} {w w1 : World} {A : Option Addr} {n c : Nat} {bs : List Int} (h : IntsW wb w A n c bs) (hb : Below w.heap.size w w1) : IntsW wb w1 A n c bs := ⟨h.ints.below hb, h.cap⟩
theorem own_room {w : World} {base k size : Nat} {e : TypeId} {A : Option Addr} {n c : Nat} {xs : List Value} (h : w.ownsRow base e size (.slice A n c) k xs) : n ≤ c := by
  rcases h.2 with ⟨h1, h2⟩ | ⟨g, cap, cur, h1, _, _, h3, h4, _⟩
  · cases h1; exact Nat.le_refl _
  · cases h1; exact h3
/-- A writer that has written bs. -/
def WAt (w : World) (wb : Nat) (bs : List Int) : Prop :=
  ∃ A n c, w.heap[wb]? = some (.cells #[.slice A n c] 69 (0, 0)) ∧ IntsW wb w A n c bs ∧ Hid (bs.length = n)
def w64 (x : Int) : Int := IntKind.u64.wrap x
theorem ints_off {w : World} {k : IntKind} {A : Option Addr} {bs : List Int} {ok : Nat → Prop} (h : Ints ok k w A bs) {wb : Nat} {u : Value} {t : TypeId} {f : Nat × Nat} (hb : w.heap[wb]? = some (.cells #[u] t f)) (hu : ∀ x, u ≠ .int k x) : Ints (fun b => ok b ∧ b ≠ wb) k w A bs := by
  intro h0
  obtain ⟨b, o, rfl, hok, hc⟩ := h h0
  refine ⟨b, o, rfl, ⟨hok, fun e => ?_⟩, hc⟩
  subst e
  obtain ⟨cs, hK, _, hcell⟩ := hc 0 _ (List.getElem?_eq_getElem h0)
  obtain rfl := hK
  have := hcell 0 _ rfl
  rw [blk_cell hb] at this
  match ho : o + (0 * 1 + 0), this with
  | 0, this => simp at this; exact hu _ this
  | n + 1, this => simp at this
theorem WAt.stored {w1 : World} {wb : Nat} {A' : Option Addr} {n' c' base : Nat} {L : List Int} {u : Value} (hblk : w1.heap[wb]? = some (.cells #[u] 69 (0, 0)))
    (hown : w1.ownsRow base 5 1 (.slice A' n' c') n' (u8s L)) (hb : wb < base) : WAt (w1.setCell ⟨wb, 0, none⟩ (.slice A' n' c')) wb L := by
  refine ⟨A', n', c', by simpa using blk_set hblk 0 (.slice A' n' c'), ?_, by have := hown.1; show _ = _; simpa using this⟩
  exact ⟨Lie.mono (Ints.of_own hown) (fun _ _ _ x => x) (fun b hb' => by omega) (fun b hb' _ => Below.heap_setCell _ _ _ _ (by simp; omega)), own_room hown⟩
set_option maxHeartbeats 400000 in
theorem wput_calls (w : World) (wb : Nat) (bs : List Int) (A2 : Option Addr) (c2 : Nat) (ns : List Int) (hW : WAt w wb bs) (hn : Ints (· ≠ wb) .i64 w A2 ns) (hl : bs.length + 8 * ns.length ≤ 140737488355328) :
    Calls Tryd.prog 20 #[.pointer (some ⟨wb, 0, none⟩), .slice A2 ns.length c2] w fun e w' =>
      e = .returned (.tuple #[]) ∧ WAt w' wb (bs ++ bes (ns.map w64)) ∧ Ext (· = wb) w w' := by
  go_enter Tryd.func20, Tryd.ntmps20
  go_wp2
  go_loopw [8] (fun i wr => ∃ k : Nat, k ≤ ns.length ∧ i = .int .i64 k ∧ WAt wr wb (bs ++ bes ((ns.take k).map w64)) ∧ Ext (· = wb) w wr) (fun i _ => ns.length - (intOf i).toNat)
  case atStart => exact ⟨0, Nat.zero_le _, rfl, by simpa [bes] using hW, Ext.refl _ _⟩
  case round =>
    obtain ⟨k, hk, rfl, hWr, hx⟩ := hrel
    by_cases hlt : k < ns.length
    · obtain ⟨b, o, rfl, hbo, hc⟩ := hn.get hlt
      obtain ⟨A, n, c, hblk, hbs, HL⟩ := hWr
      obtain ⟨x, hxx⟩ : ∃ x, x = ns[k]?.getD 0 := ⟨_, rfl⟩
      rw [List.getD_eq_getElem?_getD, ← hxx] at hc
      have hcr := cell_ext hc hx hbo
      have hwc := blk_cell hblk 0
      simp only [List.getElem?_toArray, List.getElem?_cons_zero] at hwc
      have hwf := blk_frozen hblk 0
      have HX := Lib.hid hxx
      have HC := Lib.hid hc
      clear hxx hc
      have hbl : (bs ++ bes ((ns.take k).map w64)).length + 8 ≤ 140737488355328 := by simp [bes_length]; omega
      go_wp2_with fail
      refine (Put_calls _ A n c (bs ++ bes ((ns.take k).map w64)) _ 1 1 [w64 x] (hbs.any.below (below_alloc (Below.refl _ _) _)) (ints_blk [w64 x] (heap_new _ _)) HL.out rfl hbl).mono ?_
      rintro e w1 ⟨A', n', c', rfl, hown, hb1⟩
      have hb2 := below_trans (below_alloc (Below.refl wr.heap.size wr) (Obj.cells #[.int .u64 (IntKind.u64.wrap x)] 27)) hb1
      have hblk1 := blk_below hblk hb2
      have hwc1 := blk_cell hblk1 0
      simp only [List.getElem?_toArray, List.getElem?_cons_zero] at hwc1
      have hwf1 := blk_frozen hblk1 0
      clear hwc hwf hcr
      go_wp2
      go_roundw
      case rel => 
        refine ⟨k + 1, by omega, by go_num, ?_, ?_⟩
        · have e : bs ++ bes ((ns.take (k + 1)).map w64) = bs ++ bes ((ns.take k).map w64) ++ bes [w64 x] := by
            rw [List.take_add_one, List.map_append, bes, bes, bes, List.flatMap_append, List.append_assoc, HX.out]
            simp [List.getElem?_eq_getElem hlt]
          rw [e]
          exact WAt.stored hblk1 hown (by have := blk_lt hblk; simp; omega)
        · exact (hx.thenBelow hb2).setCell (.inl rfl) _
      case measure => simp [intOf]; omega
    · obtain rfl : k = ns.length := by omega
      rw [List.take_length] at hWr
      go_wp2
      go_end0
      exact ⟨rfl, hWr, hx⟩
theorem wput1 (w : World) (wb : Nat) (bs : List Int) (A2 : Option Addr) (n : Int) (hW : WAt w wb bs) (hn : Ints (· ≠ wb) .i64 w A2 [n]) (hl : bs.length + 8 ≤ 140737488355328) :
    Calls Tryd.prog 20 #[.pointer (some ⟨wb, 0, none⟩), .slice A2 1 1] w fun e w' =>
      e = .returned (.tuple #[]) ∧ WAt w' wb (bs ++ be8 (w64 n)) ∧ Ext (· = wb) w w' :=
  (wput_calls w wb bs A2 1 [n] hW hn (by simpa using hl)).mono fun e w' h => by simpa [bes] using h
theorem WAt.below {w w1 : World} {wb : Nat} {bs : List Int} (h : WAt w wb bs) (hb : Below w.heap.size w w1) : WAt w1 wb bs := by
  obtain ⟨A, n, c, h1, h2, h3⟩ := h
  exact ⟨A, n, c, blk_below h1 hb, h2.below hb, h3⟩
theorem WAt.lt {w : World} {wb : Nat} {bs : List Int} (h : WAt w wb bs) : wb < w.heap.size := by
  obtain ⟨A, n, c, h1, h2, h3⟩ := h
  exact blk_lt h1
theorem ints_new {w : World} {b : Nat} {e : TypeId} {f : Nat × Nat} {k : IntKind} (xs : List Int) (h : w.heap[b]? = some (.cells (xs.map (Value.int k)).toArray e f)) {wb : Nat} (hb : b ≠ wb) : Ints (· ≠ wb) k w (some ⟨b, 0, none⟩) xs := by
  intro h0
  obtain ⟨b1, o, h1, _, h2⟩ := ints_blk xs h h0
  cases h1
  exact ⟨_, _, rfl, hb, h2⟩
set_option maxHeartbeats 400000 in
theorem wpoint_calls (w : World) (wb : Nat) (bs : List Int) (p : Pt) (hW : WAt w wb bs) (hl : bs.length + 16 ≤ 140737488355328) :
    Calls Tryd.prog 34 #[.pointer (some ⟨wb, 0, none⟩), .agg #[.int .i64 p.e, .int .u64 p.r]] w fun e w' =>
      e = .returned (.tuple #[]) ∧ WAt w' wb (bs ++ bes [w64 p.e, p.r]) ∧ Ext (· = wb) w w' := by
  have hlt := hW.lt
  go_enter Tryd.func34, Tryd.ntmps34
  go_wp2_with (go_at_call 20; refine (wput1 _ wb bs _ p.e (hW.below (below_alloc (below_alloc (Below.refl _ _) _) _)) (ints_new _ (heap_new1 _ _ _) (by omega)) (by omega)).mono ?_; rintro e w1 ⟨rfl, hW1, hx1⟩)
  have hpr : w1.cell? ⟨w.heap.size, 1, none⟩ = some (.int .u64 p.r) := cell_ext (w := (w.alloc (.cells #[.int .i64 p.e, .int .u64 p.r] 33)).alloc (.cells #[.int .i64 p.e] 3)) (by simp) hx1 (by simp; omega)
  have hlt1 := hW1.lt
  have hsz := hx1.size
  obtain ⟨A, n, c, hblk, hbs, HL⟩ := hW1
  have hwc := blk_cell hblk 0
  simp only [List.getElem?_toArray, List.getElem?_cons_zero] at hwc
  have hwf := blk_frozen hblk 0
  have hbl : (bs ++ be8 (w64 p.e)).length + 8 * [p.r].length ≤ 140737488355328 := by simp [be8_length]; omega
  have HBL := Lib.hid hbl
  clear hbl
  go_region_law ((go_simp; go_at_call 13; refine (Put_calls _ A n c (bs ++ be8 (w64 p.e)) _ 1 1 [p.r] (hbs.any.below (below_alloc (Below.refl _ _) _).drew) (ints_blk [p.r] (heap_new w1 _)) HL.out rfl HBL.out).mono ?_; rintro e w2 ⟨A', n', c', rfl, hown, hb1⟩; have hb2 := below_trans (below_alloc (Below.refl w1.heap.size w1) (.cells #[.int .u64 p.r] 27)).drew hb1; have hk1 := cell_below hwc hb2; have hk2 := cell_below hpr hb2; have hblk2 := blk_below hblk hb2; have hwf2 := blk_frozen hblk2 0))
  all_goals
    go_wp2
    go_end0
    refine ⟨rfl, ?_, (((Ext.of_below (below_alloc (below_alloc (Below.refl _ _) _) _)).trans hx1 (fun _ _ x => x)).thenBelow hb2).setCell (.inl rfl) _⟩
    have e : bs ++ bes [w64 p.e, p.r] = bs ++ be8 (w64 p.e) ++ bes [p.r] := by simp [bes]
    rw [e]
    exact WAt.stored hblk2 hown (by simp; omega)
def voteN (v : Vt) : List Int := [w64 v.slot, v.head, w64 v.src.e, v.src.r, w64 v.tgt.e, v.tgt.r, w64 v.who.length] ++ v.who.map w64
theorem voteN_length (v : Vt) : (voteN v).length = 7 + v.who.length := by simp [voteN]; omega
set_option maxHeartbeats 1000000 in
theorem wwvote_calls (w : World) (wb : Nat) (bs : List Int) (v : Vt) (A1 : Option Addr) (c1 : Nat) (hW : WAt w wb bs) (hi : Ints (· ≠ wb) .i64 w A1 v.who) (hl : bs.length + 8 * (voteN v).length ≤ 140737488355328) :
    Calls Tryd.prog 22 #[.pointer (some ⟨wb, 0, none⟩), .agg #[.int .i64 v.slot, .int .u64 v.head, .int .i64 v.src.e, .int .u64 v.src.r, .int .i64 v.tgt.e, .int .u64 v.tgt.r, .slice A1 v.who.length c1]] w fun e w' =>
      e = .returned (.tuple #[]) ∧ WAt w' wb (bs ++ bes (voteN v)) ∧ Ext (· = wb) w w' := by
  rw [voteN_length] at hl
  have hlt := hW.lt
  obtain ⟨B, HB, hB1, hB2⟩ := size_hid w
  go_enter Tryd.func22, Tryd.ntmps22
  go_upto_region 1 with fail
  generalize hW0 : w.alloc (Obj.cells _ 36) = W0
  have hv0 : VtAt W0 w.heap.size 0 v A1 c1 := by rw [← hW0]; refine ⟨?_, ?_, ?_, ?_, ?_, ?_, ?_⟩ <;> simp
  have hx0 : Ext (· = wb) w W0 := by rw [← hW0]; exact (Ext.refl _ _).alloc _
  have hWW0 : WAt W0 wb bs := by rw [← hW0]; exact hW.below (below_alloc (Below.refl _ _) _)
  clear hW0
  rw [HB.out] at hv0 ⊢
  obtain ⟨h0, h1, h2, h3, h4, h5, h6⟩ := hv0
  go_upto_region 2 with (go_at_call 20; refine (wput1 _ wb bs _ v.slot (hWW0.below (below_alloc (Below.refl _ _) _)) (ints_new _ (heap_new _ _) (by have := hWW0.lt; omega)) (by omega)).mono ?_; rintro e w1 ⟨rfl, hW1, hx1⟩)
  have hxb : Ext (· = wb) W0 w1 := (Ext.of_below (below_alloc (Below.refl _ _) _)).trans hx1 (fun _ _ x => x)
  have hlt1 := hW1.lt
  have hBne : ¬ B = wb := by have := hlt; omega
  have g1 := cell_ext h1 hxb hBne
  obtain ⟨A, n, c, hblk, hbs, HL⟩ := hW1
  have hwc := blk_cell hblk 0
  simp only [List.getElem?_toArray, List.getElem?_cons_zero] at hwc
  have hwf := blk_frozen hblk 0
  have hbl : (bs ++ be8 (w64 v.slot)).length + 8 * [v.head].length ≤ 140737488355328 := by simp [be8_length]; omega
  have HBL := Lib.hid hbl
  clear hbl
  go_cut [] (fun w' => WAt w' wb (bs ++ bes [w64 v.slot, v.head]) ∧ Ext (· = wb) W0 w')
  case first =>
    go_region_law ((go_simp; go_at_call 13; refine (Put_calls _ A n c (bs ++ be8 (w64 v.slot)) _ 1 1 [v.head] (hbs.any.below (below_alloc (Below.refl _ _) _).drew) (ints_blk [v.head] (heap_new w1 _)) HL.out rfl HBL.out).mono ?_; rintro e w2 ⟨A', n', c', rfl, hown, hb1⟩; have hb2 := below_trans (below_alloc (Below.refl w1.heap.size w1) (.cells #[.int .u64 v.head] 27)).drew hb1; have hk1 := cell_below hwc hb2; have hk2 := cell_below g1 hb2; have hblk2 := blk_below hblk hb2; have hwf2 := blk_frozen hblk2 0))
    all_goals
      go_wp2
      go_meet
      case rel =>
        refine ⟨?_, (hxb.thenBelow hb2).setCell (.inl rfl) _⟩
        have e : bs ++ bes [w64 v.slot, v.head] = bs ++ be8 (w64 v.slot) ++ bes [v.head] := by simp [bes]
        rw [e]
        exact WAt.stored hblk2 hown (by simp; omega)
  case rest =>
    obtain ⟨hWc, hxc⟩ := hcut
    clear g1 hblk hbs HL hwc hwf hxb hx1 HBL hlt1
    have g2 := cell_ext h2 hxc hBne
    have g3 := cell_ext h3 hxc hBne
    go_wp2_with fail
    refine (wpoint_calls _ wb _ v.src hWc (by simp [bes_length]; omega)).mono ?_
    rintro e w3 ⟨rfl, hW3, hx3⟩
    have hxd := hxc.trans hx3 (fun _ _ x => x)
    have g4 := cell_ext h4 hxd hBne
    have g5 := cell_ext h5 hxd hBne
    clear g2 g3 hWc hxc hx3
    go_wp2_with fail
    refine (wpoint_calls _ wb _ v.tgt hW3 (by simp [bes_length]; omega)).mono ?_
    rintro e w4 ⟨rfl, hW4, hx4⟩
    have hxe := hxd.trans hx4 (fun _ _ x => x)
    have g6 := cell_ext h6 hxe hBne
    clear g4 g5 hW3 hxd hx4
    go_wp2_with fail
    refine (wput1 _ wb _ _ v.who.length (hW4.below (below_alloc (Below.refl _ _) _)) (ints_new [(v.who.length : Int)] (heap_new _ _) (by have := hW4.lt; omega)) (by simp [bes_length]; omega)).mono ?_
    rintro e w5 ⟨rfl, hW5, hx5⟩
    have hxf := (hxe.alloc _).trans hx5 (fun _ _ x => x)
    have g6' := cell_ext h6 hxf hBne
    clear g6 hW4 hxe hx5
    have hiw : Ints (· ≠ wb) .i64 w5 A1 v.who := Lie.mono hi (fun _ _ _ x => x) (fun _ x => x) (fun b hb hb' => ((hx0.trans hxf (fun _ _ x => x)).block b hb' hb))
    go_wp2_with fail
    refine (wput_calls _ wb _ _ _ v.who hW5 hiw (by simp [bes_length, be8_length]; omega)).mono ?_
    rintro e w6 ⟨rfl, hW6, hx6⟩
    go_wp2
    go_end0
    refine ⟨rfl, ?_, (hx0.trans hxf (fun _ _ x => x)).trans hx6 (fun _ _ x => x)⟩
    simpa [voteN, bes, List.append_assoc] using hW6
end Go.Proofs.YtccficljaomhhaaDoor
