/- WireBare, walked. -/
import Derived.Test.YtccficljaomhhaaBare
import Derived.Deep.RegionHeldLaw
namespace Go.Proofs.Ytccficljaomhhaa
open Go.RowKit
attribute [local go_sem ↓] Go.wp_at_zero Go.wp_at_succ
attribute [local go_sem] Go.undef
theorem bareE_idem (e : Ev) : bareE (bareE e) = bareE e := by
  unfold bareE
  by_cases k0 : e.kind = 0
  · simp [k0]
  · by_cases k1 : e.kind = 1
    · simp [k1]
    · by_cases k2 : e.kind = 2
      · simp [k2]
      · by_cases k3 : e.kind = 3
        · simp [k3]
        · simp [k0, k1, k2, k3]
theorem bareE_may (e : Ev) : mayB (bareE e) = mayB e := by
  unfold bareE mayB
  by_cases k0 : e.kind = 0
  · simp [k0]
  · by_cases k1 : e.kind = 1
    · simp [k1]
    · by_cases k2 : e.kind = 2
      · simp [k2]
      · by_cases k3 : e.kind = 3
        · simp [k3]
        · simp [k0, k1, k2, k3]
theorem bareE_enc (e : Ev) (h : mayB e = true) : encN [bareE e] = encN [e] := by
  have hk := mayB_kind h
  simp only [encN, List.flatMap_cons, List.flatMap_nil, List.append_nil]
  unfold bareE evN
  by_cases k0 : e.kind = 0
  · simp [k0]
  · by_cases k1 : e.kind = 1
    · simp [k1]
    · by_cases k2 : e.kind = 2
      · simp [k2]
      · have k3 : e.kind = 3 := by omega
        simp [k3]
theorem encOk_one (e : Ev) : encOk [e] = mayB e := by simp [encOk]
theorem takeAt {P : Program} {ops : Array Oper} {Q : Exit → Act → World → Prop} {md : Region.Mode} {S : World → Prop} {i : Nat} {oi : Oper} {v : Value} {d : Option Tmp} {fuel : Nat} {listed : Array Bool} {a : Act} {w : World} (hi : ops[i]? = some oi) (hd : oi.dst = d)
    (hs : Region.noSelect ops = true) (hf : Region.free md ops listed i = true) (hr : (Region.ready md ops listed).contains i = true)
    (hQ : ∀ c a w, Q (.panic c) (a.put d v) w → Q (.panic c) a w) (hy : YieldsIf P ops S oi v a) (hS : S w)
    (h : wpAnyH P md ops Q S fuel (listed.setIfInBounds i true) (a.put d v) w) : wpAnyH P md ops Q S (fuel + 1) listed a w := by
  subst hd
  exact wpAnyH_take hi hs hf hr hQ hy hS h
theorem field0 (e : Ev) (A1 : Option Addr) (c1 : Nat) (A2 : Option Addr) (c2 : Nat) (A3 : Option Addr) (c3 : Nat) (A4 : Option Addr) (c4 : Nat) (A5 : Option Addr) (c5 : Nat) (w : World) : (Instr.field 38 (.agg #[.int .i64 e.kind, .int .i64 e.slot, .int .u64 e.block.root, .int .u64 e.block.parent, .int .i64 e.block.slot, .slice A1 e.block.votes.length c1, .slice A2 e.block.proofs.length c2, .int .i64 e.vote.slot, .int .u64 e.vote.head, .int .i64 e.vote.src.e, .int .u64 e.vote.src.r, .int .i64 e.vote.tgt.e, .int .u64 e.vote.tgt.r, .slice A3 e.vote.who.length c3, .int .i64 e.proof.a.slot, .int .u64 e.proof.a.head, .int .i64 e.proof.a.src.e, .int .u64 e.proof.a.src.r, .int .i64 e.proof.a.tgt.e, .int .u64 e.proof.a.tgt.r, .slice A4 e.proof.a.who.length c4, .int .i64 e.proof.b.slot, .int .u64 e.proof.b.head, .int .i64 e.proof.b.src.e, .int .u64 e.proof.b.src.r, .int .i64 e.proof.b.tgt.e, .int .u64 e.proof.b.tgt.r, .slice A5 e.proof.b.who.length c5]) 0).run Try.prog w = .ok (.int .i64 e.kind) w := by kernel_rfl
theorem field1 (e : Ev) (A1 : Option Addr) (c1 : Nat) (A2 : Option Addr) (c2 : Nat) (A3 : Option Addr) (c3 : Nat) (A4 : Option Addr) (c4 : Nat) (A5 : Option Addr) (c5 : Nat) (w : World) : (Instr.field 38 (.agg #[.int .i64 e.kind, .int .i64 e.slot, .int .u64 e.block.root, .int .u64 e.block.parent, .int .i64 e.block.slot, .slice A1 e.block.votes.length c1, .slice A2 e.block.proofs.length c2, .int .i64 e.vote.slot, .int .u64 e.vote.head, .int .i64 e.vote.src.e, .int .u64 e.vote.src.r, .int .i64 e.vote.tgt.e, .int .u64 e.vote.tgt.r, .slice A3 e.vote.who.length c3, .int .i64 e.proof.a.slot, .int .u64 e.proof.a.head, .int .i64 e.proof.a.src.e, .int .u64 e.proof.a.src.r, .int .i64 e.proof.a.tgt.e, .int .u64 e.proof.a.tgt.r, .slice A4 e.proof.a.who.length c4, .int .i64 e.proof.b.slot, .int .u64 e.proof.b.head, .int .i64 e.proof.b.src.e, .int .u64 e.proof.b.src.r, .int .i64 e.proof.b.tgt.e, .int .u64 e.proof.b.tgt.r, .slice A5 e.proof.b.who.length c5]) 1).run Try.prog w = .ok (.int .i64 e.slot) w := by kernel_rfl
set_option maxRecDepth 100000 in
set_option maxHeartbeats 4000000 in
theorem WireBare_calls (w : World) (e : Ev) (A1 : Option Addr) (c1 : Nat) (A2 : Option Addr) (c2 : Nat) (A3 : Option Addr) (c3 : Nat) (A4 : Option Addr) (c4 : Nat) (A5 : Option Addr) (c5 : Nat) (hr : EvR anyB w e A1 c1 A2 c2 A3 c3 A4 c4 A5 c5) (_ : e.wf) :
    Calls Try.prog 5 #[.agg #[.int .i64 e.kind, .int .i64 e.slot, .int .u64 e.block.root, .int .u64 e.block.parent, .int .i64 e.block.slot, .slice A1 e.block.votes.length c1, .slice A2 e.block.proofs.length c2, .int .i64 e.vote.slot, .int .u64 e.vote.head, .int .i64 e.vote.src.e, .int .u64 e.vote.src.r, .int .i64 e.vote.tgt.e, .int .u64 e.vote.tgt.r, .slice A3 e.vote.who.length c3, .int .i64 e.proof.a.slot, .int .u64 e.proof.a.head, .int .i64 e.proof.a.src.e, .int .u64 e.proof.a.src.r, .int .i64 e.proof.a.tgt.e, .int .u64 e.proof.a.tgt.r, .slice A4 e.proof.a.who.length c4, .int .i64 e.proof.b.slot, .int .u64 e.proof.b.head, .int .i64 e.proof.b.src.e, .int .u64 e.proof.b.src.r, .int .i64 e.proof.b.tgt.e, .int .u64 e.proof.b.tgt.r, .slice A5 e.proof.b.who.length c5]] w fun r w' => r = .returned (.bool true) ∧ Below w.heap.size w w' := by
  obtain ⟨B, HB, hB1, hB2⟩ := size_hid w
  rw [HB.out]
  go_enter Try.func5, Try.ntmps5
  go_upto_region 1 with fail
  have hb1 := below_alloc (Below.refl w.heap.size w) (Obj.cells #[.int .i64 e.kind, .int .i64 e.slot, .int .u64 e.block.root, .int .u64 e.block.parent, .int .i64 e.block.slot, .slice A1 e.block.votes.length c1, .slice A2 e.block.proofs.length c2, .int .i64 e.vote.slot, .int .u64 e.vote.head, .int .i64 e.vote.src.e, .int .u64 e.vote.src.r, .int .i64 e.vote.tgt.e, .int .u64 e.vote.tgt.r, .slice A3 e.vote.who.length c3, .int .i64 e.proof.a.slot, .int .u64 e.proof.a.head, .int .i64 e.proof.a.src.e, .int .u64 e.proof.a.src.r, .int .i64 e.proof.a.tgt.e, .int .u64 e.proof.a.tgt.r, .slice A4 e.proof.a.who.length c4, .int .i64 e.proof.b.slot, .int .u64 e.proof.b.head, .int .i64 e.proof.b.src.e, .int .u64 e.proof.b.src.r, .int .i64 e.proof.b.tgt.e, .int .u64 e.proof.b.tgt.r, .slice A5 e.proof.b.who.length c5] 38)
  have hbe := heap_new w (Obj.cells #[.int .i64 e.kind, .int .i64 e.slot, .int .u64 e.block.root, .int .u64 e.block.parent, .int .i64 e.block.slot, .slice A1 e.block.votes.length c1, .slice A2 e.block.proofs.length c2, .int .i64 e.vote.slot, .int .u64 e.vote.head, .int .i64 e.vote.src.e, .int .u64 e.vote.src.r, .int .i64 e.vote.tgt.e, .int .u64 e.vote.tgt.r, .slice A3 e.vote.who.length c3, .int .i64 e.proof.a.slot, .int .u64 e.proof.a.head, .int .i64 e.proof.a.src.e, .int .u64 e.proof.a.src.r, .int .i64 e.proof.a.tgt.e, .int .u64 e.proof.a.tgt.r, .slice A4 e.proof.a.who.length c4, .int .i64 e.proof.b.slot, .int .u64 e.proof.b.head, .int .i64 e.proof.b.src.e, .int .u64 e.proof.b.src.r, .int .i64 e.proof.b.tgt.e, .int .u64 e.proof.b.tgt.r, .slice A5 e.proof.b.who.length c5] 38)
  rw [HB.out] at hbe ⊢
  generalize w.alloc _ = W1 at hb1 hbe ⊢
  go_upto_region 3 with (go_at_call 9; refine (l04awake_calls _).mono ?_; rintro r w2 ⟨rfl, hb2⟩)
  have hbe2 := blk_below hbe hb2
  have hr2 := hr.below (below_trans hb1 hb2)
  have hB12 := (below_trans hb1 hb2).mono hB2
  clear hb1 hb2 hbe hr
  have HRE : Hid (∀ w' : World, w'.heap[B]? = some (.cells #[.int .i64 e.kind, .int .i64 e.slot, .int .u64 e.block.root, .int .u64 e.block.parent, .int .i64 e.block.slot, .slice A1 e.block.votes.length c1, .slice A2 e.block.proofs.length c2, .int .i64 e.vote.slot, .int .u64 e.vote.head, .int .i64 e.vote.src.e, .int .u64 e.vote.src.r, .int .i64 e.vote.tgt.e, .int .u64 e.vote.tgt.r, .slice A3 e.vote.who.length c3, .int .i64 e.proof.a.slot, .int .u64 e.proof.a.head, .int .i64 e.proof.a.src.e, .int .u64 e.proof.a.src.r, .int .i64 e.proof.a.tgt.e, .int .u64 e.proof.a.tgt.r, .slice A4 e.proof.a.who.length c4, .int .i64 e.proof.b.slot, .int .u64 e.proof.b.head, .int .i64 e.proof.b.src.e, .int .u64 e.proof.b.src.r, .int .i64 e.proof.b.tgt.e, .int .u64 e.proof.b.tgt.r, .slice A5 e.proof.b.who.length c5] 38 (0, 0)) → w'.rangeAt B 0 [.int .i64 e.kind, .int .i64 e.slot, .int .u64 e.block.root, .int .u64 e.block.parent, .int .i64 e.block.slot, .slice A1 e.block.votes.length c1, .slice A2 e.block.proofs.length c2, .int .i64 e.vote.slot, .int .u64 e.vote.head, .int .i64 e.vote.src.e, .int .u64 e.vote.src.r, .int .i64 e.vote.tgt.e, .int .u64 e.vote.tgt.r, .slice A3 e.vote.who.length c3, .int .i64 e.proof.a.slot, .int .u64 e.proof.a.head, .int .i64 e.proof.a.src.e, .int .u64 e.proof.a.src.r, .int .i64 e.proof.a.tgt.e, .int .u64 e.proof.a.tgt.r, .slice A4 e.proof.a.who.length c4, .int .i64 e.proof.b.slot, .int .u64 e.proof.b.head, .int .i64 e.proof.b.src.e, .int .u64 e.proof.b.src.r, .int .i64 e.proof.b.tgt.e, .int .u64 e.proof.b.tgt.r, .slice A5 e.proof.b.who.length c5]) := fun w' h j v hj => by rw [Nat.zero_add, blk_cell h]; simpa using hj
  go_upto_region 4 with (first
    | (refine wpList_load_mid rfl 38 _ rfl _ _ rfl [.int .i64 e.kind, .int .i64 e.slot, .int .u64 e.block.root, .int .u64 e.block.parent, .int .i64 e.block.slot, .slice A1 e.block.votes.length c1, .slice A2 e.block.proofs.length c2, .int .i64 e.vote.slot, .int .u64 e.vote.head, .int .i64 e.vote.src.e, .int .u64 e.vote.src.r, .int .i64 e.vote.tgt.e, .int .u64 e.vote.tgt.r, .slice A3 e.vote.who.length c3, .int .i64 e.proof.a.slot, .int .u64 e.proof.a.head, .int .i64 e.proof.a.src.e, .int .u64 e.proof.a.src.r, .int .i64 e.proof.a.tgt.e, .int .u64 e.proof.a.tgt.r, .slice A4 e.proof.a.who.length c4, .int .i64 e.proof.b.slot, .int .u64 e.proof.b.head, .int .i64 e.proof.b.src.e, .int .u64 e.proof.b.src.r, .int .i64 e.proof.b.tgt.e, .int .u64 e.proof.b.tgt.r, .slice A5 e.proof.b.who.length c5] _ (HRE.out _ hbe2) Try.underlying38 rfl iEv ?_)
    | (go_at_call 14; refine (Bare_calls _ e A1 c1 A2 c2 A3 c3 A4 c4 A5 c5 hr2).mono ?_; rintro r w3 ⟨b, D1, d1, D2, d2, D3, d3, D4, d4, D5, d5, hbb, rfl, hrb, hb3⟩; have HBB := Lib.hid hbb; clear hbb)
    | (refine wpList_box 38 3 _ (.tmp 11) [.int .i64 b.kind, .int .i64 b.slot, .int .u64 b.block.root, .int .u64 b.block.parent, .int .i64 b.block.slot, .slice D1 b.block.votes.length d1, .slice D2 b.block.proofs.length d2, .int .i64 b.vote.slot, .int .u64 b.vote.head, .int .i64 b.vote.src.e, .int .u64 b.vote.src.r, .int .i64 b.vote.tgt.e, .int .u64 b.vote.tgt.r, .slice D3 b.vote.who.length d3, .int .i64 b.proof.a.slot, .int .u64 b.proof.a.head, .int .i64 b.proof.a.src.e, .int .u64 b.proof.a.src.r, .int .i64 b.proof.a.tgt.e, .int .u64 b.proof.a.tgt.r, .slice D4 b.proof.a.who.length d4, .int .i64 b.proof.b.slot, .int .u64 b.proof.b.head, .int .i64 b.proof.b.src.e, .int .u64 b.proof.b.src.r, .int .i64 b.proof.b.tgt.e, .int .u64 b.proof.b.tgt.r, .slice D5 b.proof.b.who.length d5] rfl rfl rfl zEv rfl rfl iEv rfl ?_))
  have hb4 := below_alloc (Below.refl w3.heap.size w3) (Obj.cells #[.int .i64 b.kind, .int .i64 b.slot, .int .u64 b.block.root, .int .u64 b.block.parent, .int .i64 b.block.slot, .slice D1 b.block.votes.length d1, .slice D2 b.block.proofs.length d2, .int .i64 b.vote.slot, .int .u64 b.vote.head, .int .i64 b.vote.src.e, .int .u64 b.vote.src.r, .int .i64 b.vote.tgt.e, .int .u64 b.vote.tgt.r, .slice D3 b.vote.who.length d3, .int .i64 b.proof.a.slot, .int .u64 b.proof.a.head, .int .i64 b.proof.a.src.e, .int .u64 b.proof.a.src.r, .int .i64 b.proof.a.tgt.e, .int .u64 b.proof.a.tgt.r, .slice D4 b.proof.a.who.length d4, .int .i64 b.proof.b.slot, .int .u64 b.proof.b.head, .int .i64 b.proof.b.src.e, .int .u64 b.proof.b.src.r, .int .i64 b.proof.b.tgt.e, .int .u64 b.proof.b.tgt.r, .slice D5 b.proof.b.who.length d5] 38)
  have hbb4 := heap_new w3 (Obj.cells #[.int .i64 b.kind, .int .i64 b.slot, .int .u64 b.block.root, .int .u64 b.block.parent, .int .i64 b.block.slot, .slice D1 b.block.votes.length d1, .slice D2 b.block.proofs.length d2, .int .i64 b.vote.slot, .int .u64 b.vote.head, .int .i64 b.vote.src.e, .int .u64 b.vote.src.r, .int .i64 b.vote.tgt.e, .int .u64 b.vote.tgt.r, .slice D3 b.vote.who.length d3, .int .i64 b.proof.a.slot, .int .u64 b.proof.a.head, .int .i64 b.proof.a.src.e, .int .u64 b.proof.a.src.r, .int .i64 b.proof.a.tgt.e, .int .u64 b.proof.a.tgt.r, .slice D4 b.proof.a.who.length d4, .int .i64 b.proof.b.slot, .int .u64 b.proof.b.head, .int .i64 b.proof.b.src.e, .int .u64 b.proof.b.src.r, .int .i64 b.proof.b.tgt.e, .int .u64 b.proof.b.tgt.r, .slice D5 b.proof.b.who.length d5] 38)
  have hb24 := below_trans hb3 hb4
  have hbe4 := blk_below hbe2 hb24
  have hr4 := hr2.below hb24
  have hrb4 := hrb.below hb4
  have hB14 : Below B w (w3.alloc (Obj.cells #[.int .i64 b.kind, .int .i64 b.slot, .int .u64 b.block.root, .int .u64 b.block.parent, .int .i64 b.block.slot, .slice D1 b.block.votes.length d1, .slice D2 b.block.proofs.length d2, .int .i64 b.vote.slot, .int .u64 b.vote.head, .int .i64 b.vote.src.e, .int .u64 b.vote.src.r, .int .i64 b.vote.tgt.e, .int .u64 b.vote.tgt.r, .slice D3 b.vote.who.length d3, .int .i64 b.proof.a.slot, .int .u64 b.proof.a.head, .int .i64 b.proof.a.src.e, .int .u64 b.proof.a.src.r, .int .i64 b.proof.a.tgt.e, .int .u64 b.proof.a.tgt.r, .slice D4 b.proof.a.who.length d4, .int .i64 b.proof.b.slot, .int .u64 b.proof.b.head, .int .i64 b.proof.b.src.e, .int .u64 b.proof.b.src.r, .int .i64 b.proof.b.tgt.e, .int .u64 b.proof.b.tgt.r, .slice D5 b.proof.b.who.length d5] 38)) := hB12.trans (hb24.mono (Nat.le_trans hB2 hB12.size))
  clear hb3 hb4 hb24 hbe2 hr2 hrb hB12
  generalize w3.alloc _ = W4 at hbb4 hbe4 hr4 hrb4 hB14 ⊢
  generalize w3.heap.size = Pb at hbb4 ⊢
  have HRB : Hid (∀ w' : World, w'.heap[Pb]? = some (.cells #[.int .i64 b.kind, .int .i64 b.slot, .int .u64 b.block.root, .int .u64 b.block.parent, .int .i64 b.block.slot, .slice D1 b.block.votes.length d1, .slice D2 b.block.proofs.length d2, .int .i64 b.vote.slot, .int .u64 b.vote.head, .int .i64 b.vote.src.e, .int .u64 b.vote.src.r, .int .i64 b.vote.tgt.e, .int .u64 b.vote.tgt.r, .slice D3 b.vote.who.length d3, .int .i64 b.proof.a.slot, .int .u64 b.proof.a.head, .int .i64 b.proof.a.src.e, .int .u64 b.proof.a.src.r, .int .i64 b.proof.a.tgt.e, .int .u64 b.proof.a.tgt.r, .slice D4 b.proof.a.who.length d4, .int .i64 b.proof.b.slot, .int .u64 b.proof.b.head, .int .i64 b.proof.b.src.e, .int .u64 b.proof.b.src.r, .int .i64 b.proof.b.tgt.e, .int .u64 b.proof.b.tgt.r, .slice D5 b.proof.b.who.length d5] 38 (0, 0)) → w'.rangeAt Pb 0 [.int .i64 b.kind, .int .i64 b.slot, .int .u64 b.block.root, .int .u64 b.block.parent, .int .i64 b.block.slot, .slice D1 b.block.votes.length d1, .slice D2 b.block.proofs.length d2, .int .i64 b.vote.slot, .int .u64 b.vote.head, .int .i64 b.vote.src.e, .int .u64 b.vote.src.r, .int .i64 b.vote.tgt.e, .int .u64 b.vote.tgt.r, .slice D3 b.vote.who.length d3, .int .i64 b.proof.a.slot, .int .u64 b.proof.a.head, .int .i64 b.proof.a.src.e, .int .u64 b.proof.a.src.r, .int .i64 b.proof.a.tgt.e, .int .u64 b.proof.a.tgt.r, .slice D4 b.proof.a.who.length d4, .int .i64 b.proof.b.slot, .int .u64 b.proof.b.head, .int .i64 b.proof.b.src.e, .int .u64 b.proof.b.src.r, .int .i64 b.proof.b.tgt.e, .int .u64 b.proof.b.tgt.r, .slice D5 b.proof.b.who.length d5]) := fun w' h j v hj => by rw [Nat.zero_add, blk_cell h]; simpa using hj
  obtain ⟨p, hp⟩ : ∃ p, mayB e = p := ⟨_, rfl⟩
  have HP := Lib.hid hp
  have HPB : Hid (mayB b = p) := by show _ = _; rw [HBB.out, bareE_may, hp]
  clear hp
  go_wp2_with (refine wpList_load_mid rfl 38 _ rfl _ _ rfl [.int .i64 e.kind, .int .i64 e.slot, .int .u64 e.block.root, .int .u64 e.block.parent, .int .i64 e.block.slot, .slice A1 e.block.votes.length c1, .slice A2 e.block.proofs.length c2, .int .i64 e.vote.slot, .int .u64 e.vote.head, .int .i64 e.vote.src.e, .int .u64 e.vote.src.r, .int .i64 e.vote.tgt.e, .int .u64 e.vote.tgt.r, .slice A3 e.vote.who.length c3, .int .i64 e.proof.a.slot, .int .u64 e.proof.a.head, .int .i64 e.proof.a.src.e, .int .u64 e.proof.a.src.r, .int .i64 e.proof.a.tgt.e, .int .u64 e.proof.a.tgt.r, .slice A4 e.proof.a.who.length c4, .int .i64 e.proof.b.slot, .int .u64 e.proof.b.head, .int .i64 e.proof.b.src.e, .int .u64 e.proof.b.src.r, .int .i64 e.proof.b.tgt.e, .int .u64 e.proof.b.tgt.r, .slice A5 e.proof.b.who.length c5] _ (HRE.out _ hbe4) Try.underlying38 rfl iEv ?_)
  refine (wencode_calls _ _ 1 1 [e] (evs_one trivial (heap_new W4 _) (hr4.below (below_alloc (Below.refl _ _) _))) rfl (by simp [maxLen])).mono ?_
  rintro en w5 ⟨hb5', hea⟩
  have hb5 := below_trans (below_alloc (Below.refl W4.heap.size W4) _) hb5'
  obtain ⟨ra, na, ca, rfl, HA⟩ : ∃ ra na ca, en = .returned (.tuple #[.slice ra na ca, .bool p]) ∧ Hid ((p = true → Ints anyB .u8 w5 ra (bes (encN [e])) ∧ (bes (encN [e])).length = na) ∧ (p = false → ra = none ∧ na = 0 ∧ ca = 0)) := by
    rcases hea with ⟨h1, A', n', c', rfl, h2, h3⟩ | ⟨h1, rfl⟩
    · rw [encOk_one, HP.out] at h1
      exact ⟨_, _, _, by rw [h1], fun _ => ⟨h2, h3.out⟩, fun h => by rw [h1] at h; cases h⟩
    · rw [encOk_one, HP.out] at h1
      exact ⟨_, _, _, by rw [h1], fun h => by (rw [h1] at h; cases h), fun _ => ⟨rfl, rfl, rfl⟩⟩
  clear hea hb5'
  have hbb5 := blk_below hbb4 hb5
  have hbe5 := blk_below hbe4 hb5
  have hr5 := hr4.below hb5
  have hrb5 := hrb4.below hb5
  have hB15 := hB14.trans (hb5.mono (Nat.le_trans hB2 hB14.size))
  clear hbb4 hbe4 hr4 hrb4 hB14 hb5
  go_wp2_with (refine wpList_load_mid rfl 38 _ rfl _ _ rfl [.int .i64 b.kind, .int .i64 b.slot, .int .u64 b.block.root, .int .u64 b.block.parent, .int .i64 b.block.slot, .slice D1 b.block.votes.length d1, .slice D2 b.block.proofs.length d2, .int .i64 b.vote.slot, .int .u64 b.vote.head, .int .i64 b.vote.src.e, .int .u64 b.vote.src.r, .int .i64 b.vote.tgt.e, .int .u64 b.vote.tgt.r, .slice D3 b.vote.who.length d3, .int .i64 b.proof.a.slot, .int .u64 b.proof.a.head, .int .i64 b.proof.a.src.e, .int .u64 b.proof.a.src.r, .int .i64 b.proof.a.tgt.e, .int .u64 b.proof.a.tgt.r, .slice D4 b.proof.a.who.length d4, .int .i64 b.proof.b.slot, .int .u64 b.proof.b.head, .int .i64 b.proof.b.src.e, .int .u64 b.proof.b.src.r, .int .i64 b.proof.b.tgt.e, .int .u64 b.proof.b.tgt.r, .slice D5 b.proof.b.who.length d5] _ (HRB.out _ hbb5) Try.underlying38 rfl iEv ?_)
  refine (wencode_calls _ _ 1 1 [b] (evs_one trivial (heap_new w5 _) (hrb5.below (below_alloc (Below.refl _ _) _))) rfl (by simp [maxLen])).mono ?_
  rintro en w6 ⟨hb6', hea⟩
  have hb6 := below_trans (below_alloc (Below.refl w5.heap.size w5) _) hb6'
  obtain ⟨rb, nb, cb, rfl, HAB⟩ : ∃ ra na ca, en = .returned (.tuple #[.slice ra na ca, .bool p]) ∧ Hid ((p = true → Ints anyB .u8 w6 ra (bes (encN [e])) ∧ (bes (encN [e])).length = na) ∧ (p = false → ra = none ∧ na = 0 ∧ ca = 0)) := by
    have hbe := bareE_enc e
    rw [HP.out, ← HBB.out] at hbe
    rcases hea with ⟨h1, A', n', c', rfl, h2, h3⟩ | ⟨h1, rfl⟩
    · rw [encOk_one, HPB.out] at h1
      rw [hbe h1] at h2 h3
      exact ⟨_, _, _, by rw [h1], fun _ => ⟨h2, h3.out⟩, fun h => by rw [h1] at h; cases h⟩
    · rw [encOk_one, HPB.out] at h1
      exact ⟨_, _, _, by rw [h1], fun h => by (rw [h1] at h; cases h), fun _ => ⟨rfl, rfl, rfl⟩⟩
  clear hea hb6'
  have hbb6 := blk_below hbb5 hb6
  have hbe6 := blk_below hbe5 hb6
  have hr6 := hr5.below hb6
  have hrb6 := hrb5.below hb6
  have hB16 := hB15.trans (hb6.mono (Nat.le_trans hB2 hB15.size))
  obtain ⟨S, hS⟩ : ∃ S, Hid (S = if p then strOfNums (bes (encN [e])) else strOfNums []) := ⟨_, rfl⟩
  have H1 : Hid (∀ w' : World, Below w6.heap.size w6 w' → (convert 40 9 (.slice ra na ca)).run Try.prog w' = .ok (.string S) w') := fun w' h => by
    rw [hS.out]
    cases p with
    | true => exact run_str (((HA.out.1 rfl).1.below hb6).below h) (HA.out.1 rfl).2
    | false => obtain ⟨h1, h2, h3⟩ := HA.out.2 rfl; subst h1 h2 h3; exact run_str Lie.nil rfl
  have H2 : Hid (∀ w' : World, Below w6.heap.size w6 w' → (convert 40 9 (.slice rb nb cb)).run Try.prog w' = .ok (.string S) w') := fun w' h => by
    rw [hS.out]
    cases p with
    | true => exact run_str ((HAB.out.1 rfl).1.below h) (HAB.out.1 rfl).2
    | false => obtain ⟨h1, h2, h3⟩ := HAB.out.2 rfl; subst h1 h2 h3; exact run_str Lie.nil rfl
  have HBS : Hid (∀ w' : World, Below w6.heap.size w6 w' → w'.heap[B]? = some (.cells #[.int .i64 e.kind, .int .i64 e.slot, .int .u64 e.block.root, .int .u64 e.block.parent, .int .i64 e.block.slot, .slice A1 e.block.votes.length c1, .slice A2 e.block.proofs.length c2, .int .i64 e.vote.slot, .int .u64 e.vote.head, .int .i64 e.vote.src.e, .int .u64 e.vote.src.r, .int .i64 e.vote.tgt.e, .int .u64 e.vote.tgt.r, .slice A3 e.vote.who.length c3, .int .i64 e.proof.a.slot, .int .u64 e.proof.a.head, .int .i64 e.proof.a.src.e, .int .u64 e.proof.a.src.r, .int .i64 e.proof.a.tgt.e, .int .u64 e.proof.a.tgt.r, .slice A4 e.proof.a.who.length c4, .int .i64 e.proof.b.slot, .int .u64 e.proof.b.head, .int .i64 e.proof.b.src.e, .int .u64 e.proof.b.src.r, .int .i64 e.proof.b.tgt.e, .int .u64 e.proof.b.tgt.r, .slice A5 e.proof.b.who.length c5] 38 (0, 0)) ∧ w'.heap[Pb]? = some (.cells #[.int .i64 b.kind, .int .i64 b.slot, .int .u64 b.block.root, .int .u64 b.block.parent, .int .i64 b.block.slot, .slice D1 b.block.votes.length d1, .slice D2 b.block.proofs.length d2, .int .i64 b.vote.slot, .int .u64 b.vote.head, .int .i64 b.vote.src.e, .int .u64 b.vote.src.r, .int .i64 b.vote.tgt.e, .int .u64 b.vote.tgt.r, .slice D3 b.vote.who.length d3, .int .i64 b.proof.a.slot, .int .u64 b.proof.a.head, .int .i64 b.proof.a.src.e, .int .u64 b.proof.a.src.r, .int .i64 b.proof.a.tgt.e, .int .u64 b.proof.a.tgt.r, .slice D4 b.proof.a.who.length d4, .int .i64 b.proof.b.slot, .int .u64 b.proof.b.head, .int .i64 b.proof.b.src.e, .int .u64 b.proof.b.src.r, .int .i64 b.proof.b.tgt.e, .int .u64 b.proof.b.tgt.r, .slice D5 b.proof.b.who.length d5] 38 (0, 0))) := fun w' h => ⟨blk_below hbe6 h, blk_below hbb6 h⟩
  clear hbb5 hbe5 hr5 hrb5 hB15 hb6 HA HAB hS hbb6 hbe6
  go_upto_region 6 with fail
  have HF : Hid (∀ w' : World, Below w6.heap.size w6 w' → (convert 40 9 (.slice ra na ca)).run Try.prog w' = .ok (.string S) w' ∧ (convert 40 9 (.slice rb nb cb)).run Try.prog w' = .ok (.string S) w' ∧ w'.cell? ⟨B, 0, none⟩ = some (.int .i64 e.kind) ∧ w'.cell? ⟨Pb, 0, none⟩ = some (.int .i64 b.kind) ∧ w'.cell? ⟨Pb, 1, none⟩ = some (.int .i64 b.slot)) := fun w' h => ⟨H1.out w' h, H2.out w' h, blk_cell (HBS.out w' h).1 0, blk_cell (HBS.out w' h).2 0, blk_cell (HBS.out w' h).2 1⟩
  have HBE : Hid (bareE b = b) := by show _ = _; rw [HBB.out, bareE_idem]
  clear H1 H2
  refine wp_region_held_drew (S := fun w' => Below w6.heap.size w6 w') (by kernel_rfl) (Below.refl _ _).drew (fun hHeld => ?_)
  refine' takeAt (i := 0) (v := .bool p) (d := (some 24)) rfl rfl (by kernel_rfl) (by kernel_rfl) (by kernel_rfl) (fun _ _ _ h => h) (Or.inl ⟨by kernel_rfl, fun w' hSw => by obtain ⟨f1, f2, f3, f4, f5⟩ := HF.out w' hSw; first | (go_simp; done) | (go_simp; with_reducible rfl)⟩) hHeld ?_
  set_option linter.unusedSimpArgs false in
  try simp only [Act.put, List.setIfInBounds_toArray, List.set_cons_zero, List.set_cons_succ]
  refine' takeAt (i := 1) (v := .bool p) (d := (some 25)) rfl rfl (by kernel_rfl) (by kernel_rfl) (by kernel_rfl) (fun _ _ _ h => h) (Or.inl ⟨by kernel_rfl, fun w' hSw => by obtain ⟨f1, f2, f3, f4, f5⟩ := HF.out w' hSw; first | (go_simp; done) | (go_simp; with_reducible rfl)⟩) hHeld ?_
  set_option linter.unusedSimpArgs false in
  try simp only [Act.put, List.setIfInBounds_toArray, List.set_cons_zero, List.set_cons_succ]
  refine' takeAt (i := 2) (v := .bool true) (d := (some 26)) rfl rfl (by kernel_rfl) (by kernel_rfl) (by kernel_rfl) (fun _ _ _ h => h) (Or.inl ⟨by kernel_rfl, fun w' hSw => by obtain ⟨f1, f2, f3, f4, f5⟩ := HF.out w' hSw; first | (go_simp; done) | (go_simp; with_reducible rfl)⟩) hHeld ?_
  set_option linter.unusedSimpArgs false in
  try simp only [Act.put, List.setIfInBounds_toArray, List.set_cons_zero, List.set_cons_succ]
  refine' takeAt (i := 3) (v := .bool true) (d := (some 27)) rfl rfl (by kernel_rfl) (by kernel_rfl) (by kernel_rfl) (fun _ _ _ h => h) (Or.inl ⟨by kernel_rfl, fun w' hSw => by obtain ⟨f1, f2, f3, f4, f5⟩ := HF.out w' hSw; first | (go_simp; done) | (go_simp; with_reducible rfl)⟩) hHeld ?_
  set_option linter.unusedSimpArgs false in
  try simp only [Act.put, List.setIfInBounds_toArray, List.set_cons_zero, List.set_cons_succ]
  refine' takeAt (i := 4) (v := .slice ra na ca) (d := (some 28)) rfl rfl (by kernel_rfl) (by kernel_rfl) (by kernel_rfl) (fun _ _ _ h => h) (Or.inl ⟨by kernel_rfl, fun w' hSw => by obtain ⟨f1, f2, f3, f4, f5⟩ := HF.out w' hSw; first | (go_simp; done) | (go_simp; with_reducible rfl)⟩) hHeld ?_
  set_option linter.unusedSimpArgs false in
  try simp only [Act.put, List.setIfInBounds_toArray, List.set_cons_zero, List.set_cons_succ]
  refine' takeAt (i := 5) (v := .string S) (d := (some 29)) rfl rfl (by kernel_rfl) (by kernel_rfl) (by kernel_rfl) (fun _ _ _ h => h) (Or.inl ⟨by kernel_rfl, fun w' hSw => by obtain ⟨f1, f2, f3, f4, f5⟩ := HF.out w' hSw; first | (go_simp; done) | (go_simp; with_reducible rfl)⟩) hHeld ?_
  set_option linter.unusedSimpArgs false in
  try simp only [Act.put, List.setIfInBounds_toArray, List.set_cons_zero, List.set_cons_succ]
  refine' takeAt (i := 6) (v := .slice rb nb cb) (d := (some 30)) rfl rfl (by kernel_rfl) (by kernel_rfl) (by kernel_rfl) (fun _ _ _ h => h) (Or.inl ⟨by kernel_rfl, fun w' hSw => by obtain ⟨f1, f2, f3, f4, f5⟩ := HF.out w' hSw; first | (go_simp; done) | (go_simp; with_reducible rfl)⟩) hHeld ?_
  set_option linter.unusedSimpArgs false in
  try simp only [Act.put, List.setIfInBounds_toArray, List.set_cons_zero, List.set_cons_succ]
  refine' takeAt (i := 7) (v := .string S) (d := (some 31)) rfl rfl (by kernel_rfl) (by kernel_rfl) (by kernel_rfl) (fun _ _ _ h => h) (Or.inl ⟨by kernel_rfl, fun w' hSw => by obtain ⟨f1, f2, f3, f4, f5⟩ := HF.out w' hSw; first | (go_simp; done) | (go_simp; with_reducible rfl)⟩) hHeld ?_
  set_option linter.unusedSimpArgs false in
  try simp only [Act.put, List.setIfInBounds_toArray, List.set_cons_zero, List.set_cons_succ]
  refine' takeAt (i := 8) (v := .bool true) (d := (some 32)) rfl rfl (by kernel_rfl) (by kernel_rfl) (by kernel_rfl) (fun _ _ _ h => h) (Or.inl ⟨by kernel_rfl, fun w' hSw => by obtain ⟨f1, f2, f3, f4, f5⟩ := HF.out w' hSw; first | (go_simp; done) | (go_simp; with_reducible rfl)⟩) hHeld ?_
  set_option linter.unusedSimpArgs false in
  try simp only [Act.put, List.setIfInBounds_toArray, List.set_cons_zero, List.set_cons_succ]
  refine' takeAt (i := 9) (v := .bool true) (d := (some 33)) rfl rfl (by kernel_rfl) (by kernel_rfl) (by kernel_rfl) (fun _ _ _ h => h) (Or.inl ⟨by kernel_rfl, fun w' hSw => by obtain ⟨f1, f2, f3, f4, f5⟩ := HF.out w' hSw; first | (go_simp; done) | (go_simp; with_reducible rfl)⟩) hHeld ?_
  set_option linter.unusedSimpArgs false in
  try simp only [Act.put, List.setIfInBounds_toArray, List.set_cons_zero, List.set_cons_succ]
  refine' takeAt (i := 10) (v := .bool true) (d := (some 34)) rfl rfl (by kernel_rfl) (by kernel_rfl) (by kernel_rfl) (fun _ _ _ h => h) (Or.inl ⟨by kernel_rfl, fun w' hSw => by obtain ⟨f1, f2, f3, f4, f5⟩ := HF.out w' hSw; first | (go_simp; done) | (go_simp; with_reducible rfl)⟩) hHeld ?_
  set_option linter.unusedSimpArgs false in
  try simp only [Act.put, List.setIfInBounds_toArray, List.set_cons_zero, List.set_cons_succ]
  refine' takeAt (i := 11) (v := .agg #[.int .i64 e.kind, .int .i64 e.slot, .int .u64 e.block.root, .int .u64 e.block.parent, .int .i64 e.block.slot, .slice A1 e.block.votes.length c1, .slice A2 e.block.proofs.length c2, .int .i64 e.vote.slot, .int .u64 e.vote.head, .int .i64 e.vote.src.e, .int .u64 e.vote.src.r, .int .i64 e.vote.tgt.e, .int .u64 e.vote.tgt.r, .slice A3 e.vote.who.length c3, .int .i64 e.proof.a.slot, .int .u64 e.proof.a.head, .int .i64 e.proof.a.src.e, .int .u64 e.proof.a.src.r, .int .i64 e.proof.a.tgt.e, .int .u64 e.proof.a.tgt.r, .slice A4 e.proof.a.who.length c4, .int .i64 e.proof.b.slot, .int .u64 e.proof.b.head, .int .i64 e.proof.b.src.e, .int .u64 e.proof.b.src.r, .int .i64 e.proof.b.tgt.e, .int .u64 e.proof.b.tgt.r, .slice A5 e.proof.b.who.length c5]) (d := (some 35)) rfl rfl (by kernel_rfl) (by kernel_rfl) (by kernel_rfl) (fun _ _ _ h => h) (yieldsIf_load_mid (by kernel_rfl) 38 _ rfl B 0 rfl [.int .i64 e.kind, .int .i64 e.slot, .int .u64 e.block.root, .int .u64 e.block.parent, .int .i64 e.block.slot, .slice A1 e.block.votes.length c1, .slice A2 e.block.proofs.length c2, .int .i64 e.vote.slot, .int .u64 e.vote.head, .int .i64 e.vote.src.e, .int .u64 e.vote.src.r, .int .i64 e.vote.tgt.e, .int .u64 e.vote.tgt.r, .slice A3 e.vote.who.length c3, .int .i64 e.proof.a.slot, .int .u64 e.proof.a.head, .int .i64 e.proof.a.src.e, .int .u64 e.proof.a.src.r, .int .i64 e.proof.a.tgt.e, .int .u64 e.proof.a.tgt.r, .slice A4 e.proof.a.who.length c4, .int .i64 e.proof.b.slot, .int .u64 e.proof.b.head, .int .i64 e.proof.b.src.e, .int .u64 e.proof.b.src.r, .int .i64 e.proof.b.tgt.e, .int .u64 e.proof.b.tgt.r, .slice A5 e.proof.b.who.length c5] _ (fun w' h => HRE.out _ (HBS.out _ h).1) Try.underlying38 rfl iEv) hHeld ?_
  set_option linter.unusedSimpArgs false in
  try simp only [Act.put, List.setIfInBounds_toArray, List.set_cons_zero, List.set_cons_succ]
  refine' takeAt (i := 13) (v := .agg #[.int .i64 b.kind, .int .i64 b.slot, .int .u64 b.block.root, .int .u64 b.block.parent, .int .i64 b.block.slot, .slice D1 b.block.votes.length d1, .slice D2 b.block.proofs.length d2, .int .i64 b.vote.slot, .int .u64 b.vote.head, .int .i64 b.vote.src.e, .int .u64 b.vote.src.r, .int .i64 b.vote.tgt.e, .int .u64 b.vote.tgt.r, .slice D3 b.vote.who.length d3, .int .i64 b.proof.a.slot, .int .u64 b.proof.a.head, .int .i64 b.proof.a.src.e, .int .u64 b.proof.a.src.r, .int .i64 b.proof.a.tgt.e, .int .u64 b.proof.a.tgt.r, .slice D4 b.proof.a.who.length d4, .int .i64 b.proof.b.slot, .int .u64 b.proof.b.head, .int .i64 b.proof.b.src.e, .int .u64 b.proof.b.src.r, .int .i64 b.proof.b.tgt.e, .int .u64 b.proof.b.tgt.r, .slice D5 b.proof.b.who.length d5]) (d := (some 37)) rfl rfl (by kernel_rfl) (by kernel_rfl) (by kernel_rfl) (fun _ _ _ h => h) (yieldsIf_load_mid (by kernel_rfl) 38 _ rfl Pb 0 rfl [.int .i64 b.kind, .int .i64 b.slot, .int .u64 b.block.root, .int .u64 b.block.parent, .int .i64 b.block.slot, .slice D1 b.block.votes.length d1, .slice D2 b.block.proofs.length d2, .int .i64 b.vote.slot, .int .u64 b.vote.head, .int .i64 b.vote.src.e, .int .u64 b.vote.src.r, .int .i64 b.vote.tgt.e, .int .u64 b.vote.tgt.r, .slice D3 b.vote.who.length d3, .int .i64 b.proof.a.slot, .int .u64 b.proof.a.head, .int .i64 b.proof.a.src.e, .int .u64 b.proof.a.src.r, .int .i64 b.proof.a.tgt.e, .int .u64 b.proof.a.tgt.r, .slice D4 b.proof.a.who.length d4, .int .i64 b.proof.b.slot, .int .u64 b.proof.b.head, .int .i64 b.proof.b.src.e, .int .u64 b.proof.b.src.r, .int .i64 b.proof.b.tgt.e, .int .u64 b.proof.b.tgt.r, .slice D5 b.proof.b.who.length d5] _ (fun w' h => HRB.out _ (HBS.out _ h).2) Try.underlying38 rfl iEv) hHeld ?_
  set_option linter.unusedSimpArgs false in
  try simp only [Act.put, List.setIfInBounds_toArray, List.set_cons_zero, List.set_cons_succ]
  refine wpAnyH_ready (rs := [12]) (by kernel_rfl) (by simp) ?_
  refine AllReadyH.cons rfl (fun K hK => ?_) AllReadyH.nil
  go_simp
  refine (wmay_calls _ e A1 c1 A2 c2 A3 c3 A4 c4 A5 c5 (hr6.below hHeld)).mono ?_
  rintro en w7 ⟨rfl, hb7⟩
  rw [HP.out]
  refine hK.out _ _ (below_trans hHeld hb7) (fun hHeld => ?_)
  clear hK K
  set_option linter.unusedSimpArgs false in
  try simp only [Act.put, List.setIfInBounds_toArray, List.set_cons_zero, List.set_cons_succ]
  refine wpAnyH_ready (rs := [14]) (by kernel_rfl) (by simp) ?_
  refine AllReadyH.cons rfl (fun K hK => ?_) AllReadyH.nil
  go_simp
  refine (wmay_calls _ b D1 d1 D2 d2 D3 d3 D4 d4 D5 d5 (hrb6.below hHeld)).mono ?_
  rintro en w8 ⟨rfl, hb8⟩
  rw [HPB.out]
  refine hK.out _ _ (below_trans hHeld hb8) (fun hHeld => ?_)
  clear hK K
  set_option linter.unusedSimpArgs false in
  try simp only [Act.put, List.setIfInBounds_toArray, List.set_cons_zero, List.set_cons_succ]
  refine' takeAt (i := 15) (v := .bool true) (d := (some 39)) rfl rfl (by kernel_rfl) (by kernel_rfl) (by kernel_rfl) (fun _ _ _ h => h) (Or.inl ⟨by kernel_rfl, fun w' hSw => by obtain ⟨f1, f2, f3, f4, f5⟩ := HF.out w' hSw; first | (go_simp; done) | (go_simp; with_reducible rfl)⟩) hHeld ?_
  set_option linter.unusedSimpArgs false in
  try simp only [Act.put, List.setIfInBounds_toArray, List.set_cons_zero, List.set_cons_succ]
  refine' takeAt (i := 16) (v := .bool true) (d := (some 40)) rfl rfl (by kernel_rfl) (by kernel_rfl) (by kernel_rfl) (fun _ _ _ h => h) (Or.inl ⟨by kernel_rfl, fun w' hSw => by obtain ⟨f1, f2, f3, f4, f5⟩ := HF.out w' hSw; first | (go_simp; done) | (go_simp; with_reducible rfl)⟩) hHeld ?_
  set_option linter.unusedSimpArgs false in
  try simp only [Act.put, List.setIfInBounds_toArray, List.set_cons_zero, List.set_cons_succ]
  refine' takeAt (i := 17) (v := .bool true) (d := (some 41)) rfl rfl (by kernel_rfl) (by kernel_rfl) (by kernel_rfl) (fun _ _ _ h => h) (Or.inl ⟨by kernel_rfl, fun w' hSw => by obtain ⟨f1, f2, f3, f4, f5⟩ := HF.out w' hSw; first | (go_simp; done) | (go_simp; with_reducible rfl)⟩) hHeld ?_
  set_option linter.unusedSimpArgs false in
  try simp only [Act.put, List.setIfInBounds_toArray, List.set_cons_zero, List.set_cons_succ]
  refine' takeAt (i := 18) (v := .agg #[.int .i64 b.kind, .int .i64 b.slot, .int .u64 b.block.root, .int .u64 b.block.parent, .int .i64 b.block.slot, .slice D1 b.block.votes.length d1, .slice D2 b.block.proofs.length d2, .int .i64 b.vote.slot, .int .u64 b.vote.head, .int .i64 b.vote.src.e, .int .u64 b.vote.src.r, .int .i64 b.vote.tgt.e, .int .u64 b.vote.tgt.r, .slice D3 b.vote.who.length d3, .int .i64 b.proof.a.slot, .int .u64 b.proof.a.head, .int .i64 b.proof.a.src.e, .int .u64 b.proof.a.src.r, .int .i64 b.proof.a.tgt.e, .int .u64 b.proof.a.tgt.r, .slice D4 b.proof.a.who.length d4, .int .i64 b.proof.b.slot, .int .u64 b.proof.b.head, .int .i64 b.proof.b.src.e, .int .u64 b.proof.b.src.r, .int .i64 b.proof.b.tgt.e, .int .u64 b.proof.b.tgt.r, .slice D5 b.proof.b.who.length d5]) (d := (some 42)) rfl rfl (by kernel_rfl) (by kernel_rfl) (by kernel_rfl) (fun _ _ _ h => h) (yieldsIf_load_mid (by kernel_rfl) 38 _ rfl Pb 0 rfl [.int .i64 b.kind, .int .i64 b.slot, .int .u64 b.block.root, .int .u64 b.block.parent, .int .i64 b.block.slot, .slice D1 b.block.votes.length d1, .slice D2 b.block.proofs.length d2, .int .i64 b.vote.slot, .int .u64 b.vote.head, .int .i64 b.vote.src.e, .int .u64 b.vote.src.r, .int .i64 b.vote.tgt.e, .int .u64 b.vote.tgt.r, .slice D3 b.vote.who.length d3, .int .i64 b.proof.a.slot, .int .u64 b.proof.a.head, .int .i64 b.proof.a.src.e, .int .u64 b.proof.a.src.r, .int .i64 b.proof.a.tgt.e, .int .u64 b.proof.a.tgt.r, .slice D4 b.proof.a.who.length d4, .int .i64 b.proof.b.slot, .int .u64 b.proof.b.head, .int .i64 b.proof.b.src.e, .int .u64 b.proof.b.src.r, .int .i64 b.proof.b.tgt.e, .int .u64 b.proof.b.tgt.r, .slice D5 b.proof.b.who.length d5] _ (fun w' h => HRB.out _ (HBS.out _ h).2) Try.underlying38 rfl iEv) hHeld ?_
  set_option linter.unusedSimpArgs false in
  try simp only [Act.put, List.setIfInBounds_toArray, List.set_cons_zero, List.set_cons_succ]
  refine' takeAt (i := 21) (v := .pointer (some ⟨Pb, 0, none⟩)) (d := (some 45)) rfl rfl (by kernel_rfl) (by kernel_rfl) (by kernel_rfl) (fun _ _ _ h => h) (Or.inl ⟨by kernel_rfl, fun w' hSw => by obtain ⟨f1, f2, f3, f4, f5⟩ := HF.out w' hSw; first | (go_simp; done) | (go_simp; with_reducible rfl)⟩) hHeld ?_
  set_option linter.unusedSimpArgs false in
  try simp only [Act.put, List.setIfInBounds_toArray, List.set_cons_zero, List.set_cons_succ]
  refine' takeAt (i := 22) (v := .int .i64 b.kind) (d := (some 46)) rfl rfl (by kernel_rfl) (by kernel_rfl) (by kernel_rfl) (fun _ _ _ h => h) (Or.inl ⟨by kernel_rfl, fun w' hSw => by obtain ⟨f1, f2, f3, f4, f5⟩ := HF.out w' hSw; first | (go_simp; done) | (go_simp; with_reducible rfl)⟩) hHeld ?_
  set_option linter.unusedSimpArgs false in
  try simp only [Act.put, List.setIfInBounds_toArray, List.set_cons_zero, List.set_cons_succ]
  refine wpAnyH_ready (rs := [19]) (by kernel_rfl) (by simp) ?_
  refine AllReadyH.cons rfl (fun K hK => ?_) AllReadyH.nil
  go_simp
  refine (Bare_calls _ b D1 d1 D2 d2 D3 d3 D4 d4 D5 d5 (hrb6.below hHeld)).mono ?_
  rintro en w9 ⟨b9, F1, g1, F2, g2, F3, g3, F4, g4, F5, g5, hq9, rfl, hrb9, hb9⟩
  rw [HBE.out] at hq9
  have hq9 := hq9.symm
  subst hq9
  refine hK.out _ _ (below_trans hHeld hb9) (fun hHeld => ?_)
  clear hK K
  set_option linter.unusedSimpArgs false in
  try simp only [Act.put, List.setIfInBounds_toArray, List.set_cons_zero, List.set_cons_succ]
  refine' takeAt (i := 20) (v := .int .i64 b.kind) (d := (some 44)) rfl rfl (by kernel_rfl) (by kernel_rfl) (by kernel_rfl) (fun _ _ _ h => h) (Or.inl ⟨by kernel_rfl, fun w' hSw => by have q0 := field0 b F1 g1 F2 g2 F3 g3 F4 g4 F5 g5 w'; first | (go_simp; done) | (go_simp; with_reducible rfl)⟩) hHeld ?_
  set_option linter.unusedSimpArgs false in
  try simp only [Act.put, List.setIfInBounds_toArray, List.set_cons_zero, List.set_cons_succ]
  refine' takeAt (i := 23) (v := .bool true) (d := (some 47)) rfl rfl (by kernel_rfl) (by kernel_rfl) (by kernel_rfl) (fun _ _ _ h => h) (Or.inl ⟨by kernel_rfl, fun w' hSw => by obtain ⟨f1, f2, f3, f4, f5⟩ := HF.out w' hSw; first | (go_simp; done) | (go_simp; with_reducible rfl)⟩) hHeld ?_
  set_option linter.unusedSimpArgs false in
  try simp only [Act.put, List.setIfInBounds_toArray, List.set_cons_zero, List.set_cons_succ]
  refine' takeAt (i := 24) (v := .bool true) (d := (some 48)) rfl rfl (by kernel_rfl) (by kernel_rfl) (by kernel_rfl) (fun _ _ _ h => h) (Or.inl ⟨by kernel_rfl, fun w' hSw => by obtain ⟨f1, f2, f3, f4, f5⟩ := HF.out w' hSw; first | (go_simp; done) | (go_simp; with_reducible rfl)⟩) hHeld ?_
  set_option linter.unusedSimpArgs false in
  try simp only [Act.put, List.setIfInBounds_toArray, List.set_cons_zero, List.set_cons_succ]
  refine' takeAt (i := 25) (v := .bool true) (d := (some 49)) rfl rfl (by kernel_rfl) (by kernel_rfl) (by kernel_rfl) (fun _ _ _ h => h) (Or.inl ⟨by kernel_rfl, fun w' hSw => by obtain ⟨f1, f2, f3, f4, f5⟩ := HF.out w' hSw; first | (go_simp; done) | (go_simp; with_reducible rfl)⟩) hHeld ?_
  set_option linter.unusedSimpArgs false in
  try simp only [Act.put, List.setIfInBounds_toArray, List.set_cons_zero, List.set_cons_succ]
  refine' takeAt (i := 26) (v := .agg #[.int .i64 b.kind, .int .i64 b.slot, .int .u64 b.block.root, .int .u64 b.block.parent, .int .i64 b.block.slot, .slice D1 b.block.votes.length d1, .slice D2 b.block.proofs.length d2, .int .i64 b.vote.slot, .int .u64 b.vote.head, .int .i64 b.vote.src.e, .int .u64 b.vote.src.r, .int .i64 b.vote.tgt.e, .int .u64 b.vote.tgt.r, .slice D3 b.vote.who.length d3, .int .i64 b.proof.a.slot, .int .u64 b.proof.a.head, .int .i64 b.proof.a.src.e, .int .u64 b.proof.a.src.r, .int .i64 b.proof.a.tgt.e, .int .u64 b.proof.a.tgt.r, .slice D4 b.proof.a.who.length d4, .int .i64 b.proof.b.slot, .int .u64 b.proof.b.head, .int .i64 b.proof.b.src.e, .int .u64 b.proof.b.src.r, .int .i64 b.proof.b.tgt.e, .int .u64 b.proof.b.tgt.r, .slice D5 b.proof.b.who.length d5]) (d := (some 50)) rfl rfl (by kernel_rfl) (by kernel_rfl) (by kernel_rfl) (fun _ _ _ h => h) (yieldsIf_load_mid (by kernel_rfl) 38 _ rfl Pb 0 rfl [.int .i64 b.kind, .int .i64 b.slot, .int .u64 b.block.root, .int .u64 b.block.parent, .int .i64 b.block.slot, .slice D1 b.block.votes.length d1, .slice D2 b.block.proofs.length d2, .int .i64 b.vote.slot, .int .u64 b.vote.head, .int .i64 b.vote.src.e, .int .u64 b.vote.src.r, .int .i64 b.vote.tgt.e, .int .u64 b.vote.tgt.r, .slice D3 b.vote.who.length d3, .int .i64 b.proof.a.slot, .int .u64 b.proof.a.head, .int .i64 b.proof.a.src.e, .int .u64 b.proof.a.src.r, .int .i64 b.proof.a.tgt.e, .int .u64 b.proof.a.tgt.r, .slice D4 b.proof.a.who.length d4, .int .i64 b.proof.b.slot, .int .u64 b.proof.b.head, .int .i64 b.proof.b.src.e, .int .u64 b.proof.b.src.r, .int .i64 b.proof.b.tgt.e, .int .u64 b.proof.b.tgt.r, .slice D5 b.proof.b.who.length d5] _ (fun w' h => HRB.out _ (HBS.out _ h).2) Try.underlying38 rfl iEv) hHeld ?_
  set_option linter.unusedSimpArgs false in
  try simp only [Act.put, List.setIfInBounds_toArray, List.set_cons_zero, List.set_cons_succ]
  refine' takeAt (i := 29) (v := .pointer (some ⟨Pb, 1, none⟩)) (d := (some 53)) rfl rfl (by kernel_rfl) (by kernel_rfl) (by kernel_rfl) (fun _ _ _ h => h) (Or.inl ⟨by kernel_rfl, fun w' hSw => by obtain ⟨f1, f2, f3, f4, f5⟩ := HF.out w' hSw; first | (go_simp; done) | (go_simp; with_reducible rfl)⟩) hHeld ?_
  set_option linter.unusedSimpArgs false in
  try simp only [Act.put, List.setIfInBounds_toArray, List.set_cons_zero, List.set_cons_succ]
  refine' takeAt (i := 30) (v := .int .i64 b.slot) (d := (some 54)) rfl rfl (by kernel_rfl) (by kernel_rfl) (by kernel_rfl) (fun _ _ _ h => h) (Or.inl ⟨by kernel_rfl, fun w' hSw => by obtain ⟨f1, f2, f3, f4, f5⟩ := HF.out w' hSw; first | (go_simp; done) | (go_simp; with_reducible rfl)⟩) hHeld ?_
  set_option linter.unusedSimpArgs false in
  try simp only [Act.put, List.setIfInBounds_toArray, List.set_cons_zero, List.set_cons_succ]
  refine wpAnyH_ready (rs := [27]) (by kernel_rfl) (by simp) ?_
  refine AllReadyH.cons rfl (fun K hK => ?_) AllReadyH.nil
  go_simp
  refine (Bare_calls _ b D1 d1 D2 d2 D3 d3 D4 d4 D5 d5 (hrb6.below hHeld)).mono ?_
  rintro en w10 ⟨b10, F1, g1, F2, g2, F3, g3, F4, g4, F5, g5, hq10, rfl, hrb10, hb10⟩
  rw [HBE.out] at hq10
  have hq10 := hq10.symm
  subst hq10
  refine hK.out _ _ (below_trans hHeld hb10) (fun hHeld => ?_)
  clear hK K
  set_option linter.unusedSimpArgs false in
  try simp only [Act.put, List.setIfInBounds_toArray, List.set_cons_zero, List.set_cons_succ]
  refine' takeAt (i := 28) (v := .int .i64 b.slot) (d := (some 52)) rfl rfl (by kernel_rfl) (by kernel_rfl) (by kernel_rfl) (fun _ _ _ h => h) (Or.inl ⟨by kernel_rfl, fun w' hSw => by have q1 := field1 b F1 g1 F2 g2 F3 g3 F4 g4 F5 g5 w'; first | (go_simp; done) | (go_simp; with_reducible rfl)⟩) hHeld ?_
  set_option linter.unusedSimpArgs false in
  try simp only [Act.put, List.setIfInBounds_toArray, List.set_cons_zero, List.set_cons_succ]
  refine' takeAt (i := 31) (v := .bool true) (d := (some 55)) rfl rfl (by kernel_rfl) (by kernel_rfl) (by kernel_rfl) (fun _ _ _ h => h) (Or.inl ⟨by kernel_rfl, fun w' hSw => by obtain ⟨f1, f2, f3, f4, f5⟩ := HF.out w' hSw; first | (go_simp; done) | (go_simp; with_reducible rfl)⟩) hHeld ?_
  set_option linter.unusedSimpArgs false in
  try simp only [Act.put, List.setIfInBounds_toArray, List.set_cons_zero, List.set_cons_succ]
  refine' takeAt (i := 32) (v := .bool true) (d := (some 56)) rfl rfl (by kernel_rfl) (by kernel_rfl) (by kernel_rfl) (fun _ _ _ h => h) (Or.inl ⟨by kernel_rfl, fun w' hSw => by obtain ⟨f1, f2, f3, f4, f5⟩ := HF.out w' hSw; first | (go_simp; done) | (go_simp; with_reducible rfl)⟩) hHeld ?_
  set_option linter.unusedSimpArgs false in
  try simp only [Act.put, List.setIfInBounds_toArray, List.set_cons_zero, List.set_cons_succ]
  refine' takeAt (i := 33) (v := .bool true) (d := (some 57)) rfl rfl (by kernel_rfl) (by kernel_rfl) (by kernel_rfl) (fun _ _ _ h => h) (Or.inl ⟨by kernel_rfl, fun w' hSw => by obtain ⟨f1, f2, f3, f4, f5⟩ := HF.out w' hSw; first | (go_simp; done) | (go_simp; with_reducible rfl)⟩) hHeld ?_
  set_option linter.unusedSimpArgs false in
  try simp only [Act.put, List.setIfInBounds_toArray, List.set_cons_zero, List.set_cons_succ]
  refine' takeAt (i := 34) (v := .pointer (some ⟨B, 0, none⟩)) (d := (some 58)) rfl rfl (by kernel_rfl) (by kernel_rfl) (by kernel_rfl) (fun _ _ _ h => h) (Or.inl ⟨by kernel_rfl, fun w' hSw => by obtain ⟨f1, f2, f3, f4, f5⟩ := HF.out w' hSw; first | (go_simp; done) | (go_simp; with_reducible rfl)⟩) hHeld ?_
  set_option linter.unusedSimpArgs false in
  try simp only [Act.put, List.setIfInBounds_toArray, List.set_cons_zero, List.set_cons_succ]
  refine' takeAt (i := 35) (v := .int .i64 e.kind) (d := (some 59)) rfl rfl (by kernel_rfl) (by kernel_rfl) (by kernel_rfl) (fun _ _ _ h => h) (Or.inl ⟨by kernel_rfl, fun w' hSw => by obtain ⟨f1, f2, f3, f4, f5⟩ := HF.out w' hSw; first | (go_simp; done) | (go_simp; with_reducible rfl)⟩) hHeld ?_
  set_option linter.unusedSimpArgs false in
  try simp only [Act.put, List.setIfInBounds_toArray, List.set_cons_zero, List.set_cons_succ]
  by_cases k0 : e.kind = 0
  · have kb0 : (e.kind == 0) = true := by simp [k0]
    clear k0
    refine' takeAt (i := 36) (v := .bool true) (d := (some 60)) rfl rfl (by kernel_rfl) (by kernel_rfl) (by kernel_rfl) (fun _ _ _ h => h) (Or.inl ⟨by kernel_rfl, fun w' hSw => by obtain ⟨f1, f2, f3, f4, f5⟩ := HF.out w' hSw; first | (go_simp; done) | (go_simp; with_reducible rfl)⟩) hHeld ?_
    set_option linter.unusedSimpArgs false in
    try simp only [Act.put, List.setIfInBounds_toArray, List.set_cons_zero, List.set_cons_succ]
    refine' takeAt (i := 37) (v := .bool true) (d := (some 61)) rfl rfl (by kernel_rfl) (by kernel_rfl) (by kernel_rfl) (fun _ _ _ h => h) (Or.inl ⟨by kernel_rfl, fun w' hSw => by obtain ⟨f1, f2, f3, f4, f5⟩ := HF.out w' hSw; first | (go_simp; done) | (go_simp; with_reducible rfl)⟩) hHeld ?_
    set_option linter.unusedSimpArgs false in
    try simp only [Act.put, List.setIfInBounds_toArray, List.set_cons_zero, List.set_cons_succ]
    refine' takeAt (i := 38) (v := undef) (d := (some 62)) rfl rfl (by kernel_rfl) (by kernel_rfl) (by kernel_rfl) (fun _ _ _ h => h) (Or.inr ⟨by kernel_rfl, rfl⟩) hHeld ?_
    set_option linter.unusedSimpArgs false in
    try simp only [Act.put, List.setIfInBounds_toArray, List.set_cons_zero, List.set_cons_succ]
    refine' takeAt (i := 39) (v := undef) (d := (some 63)) rfl rfl (by kernel_rfl) (by kernel_rfl) (by kernel_rfl) (fun _ _ _ h => h) (Or.inr ⟨by kernel_rfl, rfl⟩) hHeld ?_
    set_option linter.unusedSimpArgs false in
    try simp only [Act.put, List.setIfInBounds_toArray, List.set_cons_zero, List.set_cons_succ]
    refine' takeAt (i := 40) (v := undef) (d := (some 64)) rfl rfl (by kernel_rfl) (by kernel_rfl) (by kernel_rfl) (fun _ _ _ h => h) (Or.inr ⟨by kernel_rfl, rfl⟩) hHeld ?_
    set_option linter.unusedSimpArgs false in
    try simp only [Act.put, List.setIfInBounds_toArray, List.set_cons_zero, List.set_cons_succ]
    refine' takeAt (i := 41) (v := .bool true) (d := (some 65)) rfl rfl (by kernel_rfl) (by kernel_rfl) (by kernel_rfl) (fun _ _ _ h => h) (Or.inl ⟨by kernel_rfl, fun w' hSw => by obtain ⟨f1, f2, f3, f4, f5⟩ := HF.out w' hSw; first | (go_simp; done) | (go_simp; with_reducible rfl)⟩) hHeld ?_
    set_option linter.unusedSimpArgs false in
    try simp only [Act.put, List.setIfInBounds_toArray, List.set_cons_zero, List.set_cons_succ]
    refine' takeAt (i := 42) (v := .bool true) (d := (some 66)) rfl rfl (by kernel_rfl) (by kernel_rfl) (by kernel_rfl) (fun _ _ _ h => h) (Or.inl ⟨by kernel_rfl, fun w' hSw => by obtain ⟨f1, f2, f3, f4, f5⟩ := HF.out w' hSw; first | (go_simp; done) | (go_simp; with_reducible rfl)⟩) hHeld ?_
    set_option linter.unusedSimpArgs false in
    try simp only [Act.put, List.setIfInBounds_toArray, List.set_cons_zero, List.set_cons_succ]
    refine' takeAt (i := 43) (v := .bool true) (d := (some 2)) rfl rfl (by kernel_rfl) (by kernel_rfl) (by kernel_rfl) (fun _ _ _ h => h) (Or.inl ⟨by kernel_rfl, fun w' hSw => by obtain ⟨f1, f2, f3, f4, f5⟩ := HF.out w' hSw; first | (go_simp; done) | (go_simp; with_reducible rfl)⟩) hHeld ?_
    set_option linter.unusedSimpArgs false in
    try simp only [Act.put, List.setIfInBounds_toArray, List.set_cons_zero, List.set_cons_succ]
    refine wpAnyH_done (by kernel_rfl) ?_ _
    have hB17 := hB16.trans (hHeld.mono (Nat.le_trans hB2 hB16.size))
    clear hHeld
    go_wp2
    go_ret
    exact ⟨rfl, hB17⟩
  · have kb0 : (e.kind == 0) = false := by simp [k0]
    have hbs : b.slot = 0 := by rw [HBB.out]; simp [bareE, k0]
    clear k0
    refine' takeAt (i := 36) (v := .bool false) (d := (some 60)) rfl rfl (by kernel_rfl) (by kernel_rfl) (by kernel_rfl) (fun _ _ _ h => h) (Or.inl ⟨by kernel_rfl, fun w' hSw => by obtain ⟨f1, f2, f3, f4, f5⟩ := HF.out w' hSw; first | (go_simp; done) | (go_simp; with_reducible rfl)⟩) hHeld ?_
    set_option linter.unusedSimpArgs false in
    try simp only [Act.put, List.setIfInBounds_toArray, List.set_cons_zero, List.set_cons_succ]
    refine' takeAt (i := 37) (v := .bool false) (d := (some 61)) rfl rfl (by kernel_rfl) (by kernel_rfl) (by kernel_rfl) (fun _ _ _ h => h) (Or.inl ⟨by kernel_rfl, fun w' hSw => by obtain ⟨f1, f2, f3, f4, f5⟩ := HF.out w' hSw; first | (go_simp; done) | (go_simp; with_reducible rfl)⟩) hHeld ?_
    set_option linter.unusedSimpArgs false in
    try simp only [Act.put, List.setIfInBounds_toArray, List.set_cons_zero, List.set_cons_succ]
    refine' takeAt (i := 38) (v := .pointer (some ⟨Pb, 1, none⟩)) (d := (some 62)) rfl rfl (by kernel_rfl) (by kernel_rfl) (by kernel_rfl) (fun _ _ _ h => h) (Or.inl ⟨by kernel_rfl, fun w' hSw => by obtain ⟨f1, f2, f3, f4, f5⟩ := HF.out w' hSw; first | (go_simp; done) | (go_simp; with_reducible rfl)⟩) hHeld ?_
    set_option linter.unusedSimpArgs false in
    try simp only [Act.put, List.setIfInBounds_toArray, List.set_cons_zero, List.set_cons_succ]
    refine' takeAt (i := 39) (v := .int .i64 b.slot) (d := (some 63)) rfl rfl (by kernel_rfl) (by kernel_rfl) (by kernel_rfl) (fun _ _ _ h => h) (Or.inl ⟨by kernel_rfl, fun w' hSw => by obtain ⟨f1, f2, f3, f4, f5⟩ := HF.out w' hSw; first | (go_simp; done) | (go_simp; with_reducible rfl)⟩) hHeld ?_
    set_option linter.unusedSimpArgs false in
    try simp only [Act.put, List.setIfInBounds_toArray, List.set_cons_zero, List.set_cons_succ]
    refine' takeAt (i := 40) (v := .bool true) (d := (some 64)) rfl rfl (by kernel_rfl) (by kernel_rfl) (by kernel_rfl) (fun _ _ _ h => h) (Or.inl ⟨by kernel_rfl, fun w' hSw => by obtain ⟨f1, f2, f3, f4, f5⟩ := HF.out w' hSw; first | (go_simp; done) | (go_simp; with_reducible rfl)⟩) hHeld ?_
    set_option linter.unusedSimpArgs false in
    try simp only [Act.put, List.setIfInBounds_toArray, List.set_cons_zero, List.set_cons_succ]
    refine' takeAt (i := 41) (v := .bool true) (d := (some 65)) rfl rfl (by kernel_rfl) (by kernel_rfl) (by kernel_rfl) (fun _ _ _ h => h) (Or.inl ⟨by kernel_rfl, fun w' hSw => by obtain ⟨f1, f2, f3, f4, f5⟩ := HF.out w' hSw; first | (go_simp; done) | (go_simp; with_reducible rfl)⟩) hHeld ?_
    set_option linter.unusedSimpArgs false in
    try simp only [Act.put, List.setIfInBounds_toArray, List.set_cons_zero, List.set_cons_succ]
    refine' takeAt (i := 42) (v := .bool true) (d := (some 66)) rfl rfl (by kernel_rfl) (by kernel_rfl) (by kernel_rfl) (fun _ _ _ h => h) (Or.inl ⟨by kernel_rfl, fun w' hSw => by obtain ⟨f1, f2, f3, f4, f5⟩ := HF.out w' hSw; first | (go_simp; done) | (go_simp; with_reducible rfl)⟩) hHeld ?_
    set_option linter.unusedSimpArgs false in
    try simp only [Act.put, List.setIfInBounds_toArray, List.set_cons_zero, List.set_cons_succ]
    refine' takeAt (i := 43) (v := .bool true) (d := (some 2)) rfl rfl (by kernel_rfl) (by kernel_rfl) (by kernel_rfl) (fun _ _ _ h => h) (Or.inl ⟨by kernel_rfl, fun w' hSw => by obtain ⟨f1, f2, f3, f4, f5⟩ := HF.out w' hSw; first | (go_simp; done) | (go_simp; with_reducible rfl)⟩) hHeld ?_
    set_option linter.unusedSimpArgs false in
    try simp only [Act.put, List.setIfInBounds_toArray, List.set_cons_zero, List.set_cons_succ]
    refine wpAnyH_done (by kernel_rfl) ?_ _
    have hB17 := hB16.trans (hHeld.mono (Nat.le_trans hB2 hB16.size))
    clear hHeld
    go_wp2
    go_ret
    exact ⟨rfl, hB17⟩
end Go.Proofs.Ytccficljaomhhaa
