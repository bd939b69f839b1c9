/- wire: the writer's block. -/
import Derived.Test.YtccficljaomhhaaDoorWire2
namespace Go.Proofs.YtccficljaomhhaaDoor
open Go.RowKit
attribute [local go_sem ↓] Go.wp_at_zero Go.wp_at_succ
def proofN (p : Pf) : List Int := voteN p.a ++ voteN p.b
def blockN (b : Bk) : List Int := [b.root, b.parent, w64 b.slot, w64 b.votes.length, w64 b.proofs.length] ++ b.votes.flatMap voteN ++ b.proofs.flatMap proofN
theorem flatMap_take_succ {α β : Type} (f : α → List β) {l : List α} {k : Nat} {x : α} (h : l[k]? = some x) : (l.take (k + 1)).flatMap f = (l.take k).flatMap f ++ f x := by
  rw [List.take_add_one, List.flatMap_append, h]; simp
theorem flatMap_take_length {α β : Type} (f : α → List β) {l : List α} {k : Nat} {x : α} (h : l[k]? = some x) : ((l.take k).flatMap f).length + (f x).length ≤ (l.flatMap f).length := by
  rw [← List.length_append, ← flatMap_take_succ f h]
  conv => rhs; rw [← List.take_append_drop (k + 1) l]
  rw [List.flatMap_append, List.length_append]; omega
theorem bes_append (a b : List Int) : bes (a ++ b) = bes a ++ bes b := by simp [bes]
set_option maxHeartbeats 1000000 in
theorem wwblock_calls (w : World) (wb : Nat) (bs : List Int) (b : Bk) (A1 : Option Addr) (c1 : Nat) (A2 : Option Addr) (c2 : Nat) (hW : WAt w wb bs) (hv : Vts (· ≠ wb) w A1 b.votes) (hp : Pfs (· ≠ wb) w A2 b.proofs)
    (hm1 : b.votes.length ≤ maxLen) (hm2 : b.proofs.length ≤ maxLen) (hl : bs.length + 8 * (blockN b).length ≤ 140737488355328) :
    Calls Tryd.prog 21 #[.pointer (some ⟨wb, 0, none⟩), .agg #[.int .u64 b.root, .int .u64 b.parent, .int .i64 b.slot, .slice A1 b.votes.length c1, .slice A2 b.proofs.length c2]] w fun e w' =>
      e = .returned (.tuple #[]) ∧ WAt w' wb (bs ++ bes (blockN b)) ∧ Ext (· = wb) w w' := by
  unfold maxLen at hm1 hm2
  have hlen : (blockN b).length = 5 + (b.votes.flatMap voteN).length + (b.proofs.flatMap proofN).length := by simp [blockN]; omega
  rw [hlen] at hl
  clear hlen
  have hlt := hW.lt
  obtain ⟨B, HB, hB1, hB2⟩ := size_hid w
  go_enter Tryd.func21, Tryd.ntmps21
  go_upto_region 1 with fail
  generalize hW0 : w.alloc (Obj.cells _ 31) = W0
  have hx0 : Ext (· = wb) w W0 := by rw [← hW0]; exact (Ext.refl _ _).alloc _
  have hWW0 : WAt W0 wb bs := by rw [← hW0]; exact hW.below (below_alloc (Below.refl _ _) _)
  have h0 : W0.cell? ⟨w.heap.size, 0, none⟩ = some (.int .u64 b.root) := by rw [← hW0]; simp
  have h1 : W0.cell? ⟨w.heap.size, 1, none⟩ = some (.int .u64 b.parent) := by rw [← hW0]; simp
  have h2 : W0.cell? ⟨w.heap.size, 2, none⟩ = some (.int .i64 b.slot) := by rw [← hW0]; simp
  have h3 : W0.cell? ⟨w.heap.size, 3, none⟩ = some (.slice A1 b.votes.length c1) := by rw [← hW0]; simp
  have h4 : W0.cell? ⟨w.heap.size, 4, none⟩ = some (.slice A2 b.proofs.length c2) := by rw [← hW0]; simp
  clear hW0
  rw [HB.out] at h0 h1 h2 h3 h4 ⊢
  have hBne : ¬ B = wb := by omega
  have hlt0 := hWW0.lt
  obtain ⟨A, n, c, hblk, hbs, HL⟩ := hWW0
  have hwc := blk_cell hblk 0
  simp only [List.getElem?_toArray, List.getElem?_cons_zero] at hwc
  have hwf := blk_frozen hblk 0
  have HBL : Hid (bs.length + 8 * [b.root, b.parent].length ≤ 140737488355328) := by show _ ≤ _; simp; omega
  go_cut [] (fun w' => WAt w' wb (bs ++ bes [b.root, b.parent]) ∧ Ext (· = wb) W0 w')
  case first =>
    go_region_law ((go_simp; go_at_call 13; refine (Put_calls _ A n c bs _ 2 2 [b.root, b.parent] (hbs.any.below (below_alloc (Below.refl _ _) _).drew) (ints_blk [b.root, b.parent] (heap_new W0 _)) HL.out rfl HBL.out).mono ?_; rintro e w2 ⟨A', n', c', rfl, hown, hb1⟩; have hb2 := below_trans (below_alloc (Below.refl W0.heap.size W0) (.cells #[.int .u64 b.root, .int .u64 b.parent] 27)).drew hb1; have hk1 := cell_below hwc hb2; have hk2 := cell_below h0 hb2; have hk3 := cell_below h1 hb2; have hblk2 := blk_below hblk hb2; have hwf2 := blk_frozen hblk2 0))
    all_goals
      go_wp2
      go_meet
      case rel => exact ⟨WAt.stored hblk2 hown (by simp; omega), Ext.setCell (F := (· = wb)) (Ext.of_below hb2) (.inl rfl) _⟩
  case rest =>
    obtain ⟨hWc, hxc⟩ := hcut
    clear hblk hbs HL hwc hwf HBL
    have g2 := cell_ext h2 hxc hBne
    have g3 := cell_ext h3 hxc hBne
    have g4 := cell_ext h4 hxc hBne
    go_wp2_with fail
    refine (wput_calls _ wb _ _ _ [b.slot, (b.votes.length : Int), (b.proofs.length : Int)] (hWc.below (below_alloc (Below.refl _ _) _)) (ints_new [b.slot, (b.votes.length : Int), (b.proofs.length : Int)] (heap_new _ _) (by have := hWc.lt; omega)) (by simp [bes_length]; omega)).mono ?_
    rintro e w3 ⟨rfl, hW3, hx3⟩
    have hxd := (hxc.alloc _).trans hx3 (fun _ _ x => x)
    have g3' := cell_ext h3 hxd hBne
    clear g2 g3 g4 hWc hxc hx3
    obtain ⟨L, HL⟩ : ∃ L, Hid (L = bs ++ bes [b.root, b.parent] ++ bes (List.map w64 [b.slot, (b.votes.length : Int), (b.proofs.length : Int)])) := ⟨_, rfl⟩
    rw [← HL.out] at hW3
    have hLl : L.length = bs.length + 40 := by rw [HL.out]; simp [bes_length]
    have hLb : L.length + 8 * (b.votes.flatMap voteN).length + 8 * (b.proofs.flatMap proofN).length ≤ 140737488355328 := by omega
    clear hLl hl
    have hxw : Ext (· = wb) w w3 := hx0.trans hxd (fun _ _ x => x)
    have hv3 : Vts (· ≠ wb) w3 A1 b.votes := hv.mono (fun _ x => x) (fun i hi hi' => hxw.block i hi' hi)
    have hp3 : Pfs (· ≠ wb) w3 A2 b.proofs := hp.mono (fun _ x => x) (fun i hi hi' => hxw.block i hi' hi)
    have g4 := cell_ext h4 hxd hBne
    clear hv hp h0 h1 h2 h3 h4
    go_wp2
    go_loopw [35] (fun i wr => ∃ k : Nat, k ≤ b.votes.length ∧ i = .int .i64 k ∧ WAt wr wb (L ++ bes ((b.votes.take k).flatMap voteN)) ∧ Ext (· = wb) w3 wr) (fun i _ => b.votes.length - (intOf i).toNat)
    case atStart => exact ⟨0, Nat.zero_le _, rfl, by simpa [bes] using hW3, Ext.refl _ _⟩
    case round =>
      obtain ⟨k, hk, rfl, hWr, hxr⟩ := hrel
      by_cases hltk : k < b.votes.length
      · obtain ⟨v, hx⟩ : ∃ v, b.votes[k]? = some v := ⟨_, List.getElem?_eq_getElem hltk⟩
        have hvr : Vts (· ≠ wb) wr A1 b.votes := hv3.mono (fun _ x => x) (fun i hi hi' => hxr.block i hi' hi)
        obtain ⟨bb, o, rfl, _, A3, c3, hf, hi, hc⟩ := hvr.get hx
        have HX := Lib.hid hx
        clear hx hvr
        obtain ⟨hc0, hc1, hc2, hc3, hc4', hc5, hc6⟩ := hc
        have hfl := flatMap_take_length voteN HX.out
        have HBL : Hid ((L ++ bes ((b.votes.take k).flatMap voteN)).length + 8 * (voteN v).length ≤ 140737488355328) := by show _ ≤ _; rw [List.length_append, bes_length]; omega
        clear hfl
        go_wp2_with (go_at_call 22; refine (wwvote_calls _ wb (L ++ bes ((b.votes.take k).flatMap voteN)) v A3 c3 (hWr.below (below_alloc (Below.refl _ _) _)) (Ints.below hi (below_alloc (Below.refl _ _) _)) HBL.out).mono ?_; rintro e w5 ⟨rfl, hW5, hx5⟩)
        go_roundw
        case rel =>
          refine ⟨k + 1, by omega, by go_num, ?_, (hxr.alloc _).trans hx5 (fun _ _ x => x)⟩
          rw [flatMap_take_succ voteN HX.out, bes_append, ← List.append_assoc]
          exact hW5
        case measure => simp [intOf]; omega
      · obtain rfl : k = b.votes.length := by omega
        rw [List.take_length] at hWr
        obtain ⟨L2, HL2⟩ : ∃ L2, Hid (L2 = L ++ bes (b.votes.flatMap voteN)) := ⟨_, rfl⟩
        rw [← HL2.out] at hWr
        have hL2 : L2.length + 8 * (b.proofs.flatMap proofN).length ≤ 140737488355328 := by rw [HL2.out, List.length_append, bes_length]; omega
        have g4r := cell_ext g4 hxr hBne
        go_wp2
        obtain ⟨wo, rfl⟩ : ∃ wo : World, wo = wr := ⟨_, rfl⟩
        go_loopw [46] (fun i wr => ∃ k : Nat, k ≤ b.proofs.length ∧ i = .int .i64 k ∧ WAt wr wb (L2 ++ bes ((b.proofs.take k).flatMap proofN)) ∧ Ext (· = wb) w3 wr) (fun i _ => b.proofs.length - (intOf i).toNat)
        case atStart => exact ⟨0, Nat.zero_le _, rfl, by simpa [bes] using hWr, hxr⟩
        case round =>
          clear hxr hWr g4r
          obtain ⟨k, hk, rfl, hWr, hxr⟩ := hrel
          by_cases hltk : k < b.proofs.length
          · obtain ⟨v, hx⟩ : ∃ v, b.proofs[k]? = some v := ⟨_, List.getElem?_eq_getElem hltk⟩
            have hvr : Pfs (· ≠ wb) wr A2 b.proofs := hp3.mono (fun _ x => x) (fun i hi hi' => hxr.block i hi' hi)
            obtain ⟨bb, o, rfl, _, A3, c3, A4, c4, hf, hi, hc, hf2, hi2, hc'⟩ := hvr.get hx
            have HX := Lib.hid hx
            clear hx hvr
            obtain ⟨hc0, hc1, hc2, hc3, hc4', hc5, hc6⟩ := hc
            obtain ⟨hd0, hd1, hd2, hd3, hd4', hd5, hd6⟩ := hc'
            have hfl := flatMap_take_length proofN HX.out
            have HBL : Hid ((L2 ++ bes ((b.proofs.take k).flatMap proofN)).length + 8 * (voteN v.a).length + 8 * (voteN v.b).length ≤ 140737488355328) := by
              show _ ≤ _
              rw [List.length_append, bes_length]
              simp only [proofN, List.length_append] at hfl ⊢
              omega
            clear hfl
            go_wp2_with fail
            generalize hW2 : wr.alloc (Obj.cells _ 38) = W2
            have hbx : VtAt W2 wr.heap.size 7 v.b A4 c4 := by rw [← hW2]; refine ⟨?_, ?_, ?_, ?_, ?_, ?_, ?_⟩ <;> simp
            have hbw2 : Below wr.heap.size wr W2 := by rw [← hW2]; exact below_alloc (Below.refl _ _) _
            clear hW2 hc0 hc1 hc2 hc3 hc4' hc5 hc6 hd0 hd1 hd2 hd3 hd4' hd5 hd6
            refine (wwvote_calls _ wb (L2 ++ bes ((b.proofs.take k).flatMap proofN)) v.a A3 c3 (hWr.below hbw2) (Ints.below hi hbw2) (by have := HBL.out; omega)).mono ?_
            rintro e w5 ⟨rfl, hW5, hx5⟩
            obtain ⟨he0, he1, he2, he3, he4, he5, he6⟩ := hbx.ext hx5 (by have := hWr.lt; omega)
            have hi5 : Ints (· ≠ wb) .i64 w5 A4 v.b.who := Lie.mono (Ints.below hi2 hbw2) (fun _ _ _ x => x) (fun _ x => x) (fun i hi hi' => hx5.block i hi' hi)
            go_wp2_with fail
            refine (wwvote_calls _ wb _ v.b A4 c4 hW5 hi5 (by have := HBL.out; rw [List.length_append, bes_length (voteN v.a)]; omega)).mono ?_
            rintro e w6 ⟨rfl, hW6, hx6⟩
            go_wp2
            go_roundw
            case rel =>
              refine ⟨k + 1, by omega, by go_num, ?_, ((hxr.thenBelow hbw2).trans hx5 (fun _ _ x => x)).trans hx6 (fun _ _ x => x)⟩
              rw [flatMap_take_succ proofN HX.out, bes_append, proofN, bes_append, ← List.append_assoc, ← List.append_assoc]
              exact hW6
            case measure => simp [intOf]; omega
          · obtain rfl : k = b.proofs.length := by omega
            rw [List.take_length] at hWr
            go_wp2
            go_end0
            refine ⟨rfl, ?_, hxw.trans hxr (fun _ _ x => x)⟩
            rw [HL2.out, HL.out] at hWr
            simpa [blockN, bes, List.append_assoc] using hWr
end Go.Proofs.YtccficljaomhhaaDoor
