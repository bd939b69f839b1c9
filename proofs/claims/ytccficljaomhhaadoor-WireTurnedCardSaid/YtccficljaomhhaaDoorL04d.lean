/- The statements of layer 4: the numbers of an event. -/
import Derived.Test.YtccficljaomhhaaDoorL04c
import Derived.Deep.AppendLies
namespace Go.Proofs.YtccficljaomhhaaDoor
open Go.RowKit
attribute [local go_sem ↓] Go.wp_at_zero Go.wp_at_succ
/-- A slice of the call's own. -/
def Own64 (base : Nat) (w : World) (A : Option Addr) (n c : Nat) (xs : List Int) : Prop := w.ownsRow base 27 1 (.slice A n c) n (u64s xs)
theorem Own64.len {base : Nat} {w : World} {A : Option Addr} {n c : Nat} {xs : List Int} (h : Own64 base w A n c xs) : xs.length = n := by have := h.1; simpa using this
theorem Own64.ints {base : Nat} {w : World} {A : Option Addr} {n c : Nat} {xs : List Int} (h : Own64 base w A n c xs) : Ints anyB .u64 w A xs := (Ints.of_own h).any
set_option maxRecDepth 100000 in
set_option maxHeartbeats 1000000 in
theorem numbers3_calls (w : World) (e : Ev) (A1 : Option Addr) (c1 : Nat) (A2 : Option Addr) (c2 : Nat) (A3 : Option Addr) (c3 : Nat) (A4 : Option Addr) (c4 : Nat) (A5 : Option Addr) (c5 : Nat) (hr : EvR anyB w e A1 c1 A2 c2 A3 c3 A4 c4 A5 c5) (hm : mayB e = true) (k3 : e.kind = 3) :
    Calls Tryd.prog 14 #[.agg #[.int .i64 e.kind, .int .i64 e.slot, .int .u64 e.block.root, .int .u64 e.block.parent, .int .i64 e.block.slot, .slice A1 e.block.votes.length c1, .slice A2 e.block.proofs.length c2, .int .i64 e.vote.slot, .int .u64 e.vote.head, .int .i64 e.vote.src.e, .int .u64 e.vote.src.r, .int .i64 e.vote.tgt.e, .int .u64 e.vote.tgt.r, .slice A3 e.vote.who.length c3, .int .i64 e.proof.a.slot, .int .u64 e.proof.a.head, .int .i64 e.proof.a.src.e, .int .u64 e.proof.a.src.r, .int .i64 e.proof.a.tgt.e, .int .u64 e.proof.a.tgt.r, .slice A4 e.proof.a.who.length c4, .int .i64 e.proof.b.slot, .int .u64 e.proof.b.head, .int .i64 e.proof.b.src.e, .int .u64 e.proof.b.src.r, .int .i64 e.proof.b.tgt.e, .int .u64 e.proof.b.tgt.r, .slice A5 e.proof.b.who.length c5]] w fun en w' => ∃ A' n' c', en = .returned (.slice A' n' c') ∧ Own64 w.heap.size w' A' n' c' (evN e) ∧ Below w.heap.size w w' := by
  have hm3 : voteB e.proof.a = true ∧ voteB e.proof.b = true := by simpa [mayB, k3, proofB] using hm
  have hla : e.proof.a.who.length ≤ 4096 := by have := hm3.1; simp [voteB] at this; exact this.1.2
  have hlb : e.proof.b.who.length ≤ 4096 := by have := hm3.2; simp [voteB] at this; exact this.1.2
  have hev : Hid (evN e = [w64 3] ++ voteN e.proof.a ++ voteN e.proof.b) := by show _ = _; simp [evN, k3, proofN]
  have K3 := Lib.hid k3
  have kb : (e.kind == 3) = true := by simp [k3]
  have kb0 : (e.kind == 0) = false := by simp [k3]
  have kb2 : (e.kind == 2) = false := by simp [k3]
  clear k3 hm hm3
  obtain ⟨B, HB, hB1, hB2⟩ := size_hid w
  rw [HB.out]
  go_enter Tryd.func14, Tryd.ntmps14
  go_upto_region 1 with fail
  generalize hW0 : w.alloc (Obj.cells _ 40) = W0
  have hb0 : Below w.heap.size w W0 := by rw [← hW0]; exact below_alloc (Below.refl _ _) _
  have hat : EvAt W0 w.heap.size 0 e A1 c1 A2 c2 A3 c3 A4 c4 A5 c5 := EvAt.blk (by rw [← hW0]; exact heap_new _ _)
  clear hW0
  rw [HB.out] at hat ⊢
  obtain ⟨⟨h0, _⟩, _, ha0, hb0'⟩ := hat
  rw [Nat.zero_add] at ha0 hb0'
  have hr0 := hr.below hb0
  have hi5 : Ints (· < B) .i64 w A5 e.proof.b.who := Lie.mono (Lie.lt hr.r5 (by decide)) (fun _ _ _ x => x) (fun b hb => Nat.lt_of_lt_of_le hb.2 hB1) (fun _ _ _ => rfl)
  clear hr
  have hBlt : B < W0.heap.size := cell_lt h0
  go_upto_region 8 with fail
  generalize hW1 : W0.alloc (Obj.cells _ 27) = W1
  have hb1 : Below W0.heap.size W0 W1 := by rw [← hW1]; exact below_alloc (Below.refl _ _) _
  have ho1 : Own64 (B + 1) W1 (some ⟨W0.heap.size, 0, none⟩) 1 1 [w64 e.kind] := own_blk (w := W1) (b := W0.heap.size) (cs := #[.int .u64 (w64 e.kind)]) (by rw [← hW1]; exact heap_new _ _) (by omega) rfl (by simp [maxLen])
  clear hW1
  have hA1 : VtAt W1 B 14 e.proof.a A4 c4 := ha0.below hb1
  have hB1' : VtAt W1 B 21 e.proof.b A5 c5 := hb0'.below hb1
  have hr1 := hr0.below hb1
  have hbB1 : Below B w W1 := (below_trans hb0 hb1).mono hB2
  have hBs1 : B + 1 ≤ W1.heap.size := Nat.le_trans hBlt hb1.size
  have H5 : Hid (∀ w2 w3, Below W1.heap.size W1 w2 → Below (B + 1) w2 w3 → Ints anyB .i64 w3 A5 e.proof.b.who) := fun w2 w3 x y => Lie.mono hi5 (fun _ _ _ x => x) (fun _ _ => trivial) (fun i hi hi' => ((y.block i (by omega)).trans (x.block i (by omega))).trans ((below_trans hb0 hb1).block i hi'))
  clear h0 ha0 hb0' hr0 hb1 hb0 hBlt hi5
  generalize W0.heap.size = B0 at ho1 ⊢
  obtain ⟨a0, a1, a2, a3, a4, a5, a6⟩ := hA1
  obtain ⟨b0, b1, b2, b3, b4, b5, b6⟩ := hB1'
  simp only [Nat.reduceAdd] at a1 a2 a3 a4 a5 a6 b1 b2 b3 b4 b5 b6
  have HO1 := Lib.hid ho1
  clear ho1
  have tok1 : True := trivial
  have tok2 : True := trivial
  go_region_held3 (fun w' => (w'.cell? ⟨B, 14, none⟩ = some (.int .i64 e.proof.a.slot) ∧ w'.cell? ⟨B, 15, none⟩ = some (.int .u64 e.proof.a.head) ∧ w'.cell? ⟨B, 16, none⟩ = some (.int .i64 e.proof.a.src.e) ∧ w'.cell? ⟨B, 17, none⟩ = some (.int .u64 e.proof.a.src.r) ∧ w'.cell? ⟨B, 18, none⟩ = some (.int .i64 e.proof.a.tgt.e) ∧ w'.cell? ⟨B, 19, none⟩ = some (.int .u64 e.proof.a.tgt.r) ∧ w'.cell? ⟨B, 20, none⟩ = some (.slice A4 e.proof.a.who.length c4)) ∧ (w'.cell? ⟨B, 21, none⟩ = some (.int .i64 e.proof.b.slot) ∧ w'.cell? ⟨B, 22, none⟩ = some (.int .u64 e.proof.b.head) ∧ w'.cell? ⟨B, 23, none⟩ = some (.int .i64 e.proof.b.src.e) ∧ w'.cell? ⟨B, 24, none⟩ = some (.int .u64 e.proof.b.src.r) ∧ w'.cell? ⟨B, 25, none⟩ = some (.int .i64 e.proof.b.tgt.e) ∧ w'.cell? ⟨B, 26, none⟩ = some (.int .u64 e.proof.b.tgt.r) ∧ w'.cell? ⟨B, 27, none⟩ = some (.slice A5 e.proof.b.who.length c5))) (first | exact hkA | exact hkB | exact hkC | exact hkD | go_keep)
    (first
      | (go_at_call 23; have _t := tok1; refine (l04vote_calls _ e.proof.a A4 c4 (Ints.below hr1.r4 (Below.refl _ _).drew) (by omega)).mono ?_; rintro en w2 ⟨Ra, na, ca, rfl, hoa, hb2'⟩; have hb2 := undrew hb2'; have hla2 : na = 7 + e.proof.a.who.length := (by have := hoa.1; simp [voteN_length] at this; exact this.symm); have HLA := Lib.hid hla2; clear hla2; have hkA : VtAt w2 B 14 e.proof.a A4 c4 ∧ VtAt w2 B 21 e.proof.b A5 c5 := ⟨VtAt.below (w := W1) ⟨a0, a1, a2, a3, a4, a5, a6⟩ hb2, VtAt.below (w := W1) ⟨b0, b1, b2, b3, b4, b5, b6⟩ hb2⟩; clear _t tok1)
      | (have _t := tok2; refine step_app (B + 1) (by rfl) (.tmp 32) (.tmp 36) 57 27 (.int .u64 0) 1 8 (by rfl) Tryd.underlying57 infoU64 rfl (by decide) _ 1 _ (by rfl) (own_below HO1.out hb2) Ra na ca (u64s (voteN e.proof.a)) (by rfl) hoa.1 (Flat.of_ints (Ints.of_own hoa)) (by simp [Value.oneCell']) (by have := HLA.out; omega) (by have := HLA.out; omega) (Nat.le_trans hBs1 hb2.size) ?_; intro A6 c6 w3 ho3 hg3 _; have hb3 : Below (B + 1) w2 w3 := (Below.refl _ _).grown hg3 (Nat.le_trans hBs1 hb2.size) (own_base HO1.out); have hkB : VtAt w3 B 14 e.proof.a A4 c4 ∧ VtAt w3 B 21 e.proof.b A5 c5 := ⟨VtAt.ext hkA.1 (Ext.of_lt hb3) (by omega), VtAt.ext hkA.2 (Ext.of_lt hb3) (by omega)⟩; have hbB3 : Below B w w3 := (hbB1.trans (hb2.mono (Nat.le_trans hB2 hbB1.size))).trans (hb3.mono (Nat.le_succ B)); clear _t tok2)
      | (go_at_call 23; have _t := hkB; refine (l04vote_calls _ e.proof.b A5 c5 (H5.out _ _ hb2 hb3) (by omega)).mono ?_; rintro en w4 ⟨Rb, nb, cb, rfl, hob, hb4⟩; have hlb2 : nb = 7 + e.proof.b.who.length := (by have := hob.1; simp [voteN_length] at this; exact this.symm); have HLB := Lib.hid hlb2; clear hlb2; have hkC : VtAt w4 B 14 e.proof.a A4 c4 ∧ VtAt w4 B 21 e.proof.b A5 c5 := ⟨hkB.1.below hb4, hkB.2.below hb4⟩; clear _t hkB)
      | (refine step_app (B + 1) (by rfl) (.tmp 37) (.tmp 41) 57 27 (.int .u64 0) 1 8 (by rfl) Tryd.underlying57 infoU64 rfl (by decide) _ (1 + na) _ (by rfl) (own_below ho3 hb4) Rb nb cb (u64s (voteN e.proof.b)) (by rfl) hob.1 (Flat.of_ints (Ints.of_own hob)) (by simp [Value.oneCell']) (by have := HLA.out; have := HLB.out; omega) (by have := HLA.out; have := HLB.out; omega) (Nat.le_trans (Nat.le_trans (Nat.le_trans hBs1 hb2.size) hb3.size) hb4.size) ?_; intro A7 c7 w5 ho5 hg5 _; have hb5 : Below (B + 1) w4 w5 := (Below.refl _ _).grown hg5 (Nat.le_trans (Nat.le_trans (Nat.le_trans hBs1 hb2.size) hb3.size) hb4.size) (own_base ho3); have hkD : VtAt w5 B 14 e.proof.a A4 c4 ∧ VtAt w5 B 21 e.proof.b A5 c5 := ⟨VtAt.ext hkC.1 (Ext.of_lt hb5) (by omega), VtAt.ext hkC.2 (Ext.of_lt hb5) (by omega)⟩))
  go_wp2
  go_ret
  refine ⟨A7, _, c7, rfl, ?_, ((hbB3.trans (hb4.mono (Nat.le_trans hB2 hbB3.size))).trans (hb5.mono (Nat.le_succ B)))⟩
  rw [hev.out]
  show World.ownsRow _ _ _ _ _ _ _
  have := own_weaken ho5 (Nat.le_succ B)
  simpa [u64s, K3.out, List.append_assoc] using this
end Go.Proofs.YtccficljaomhhaaDoor
