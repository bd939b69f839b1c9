/- The statements of layer 4: what they all need. -/
import Derived.Test.YtccficljaomhhaaDoorWire4
import Derived.Laws.BytesArg
import Derived.Deep.QuietTactic
import Derived.BigQuiet
namespace Go.Proofs.YtccficljaomhhaaDoor
open Go.RowKit
theorem evs_one {w : World} {ok : Nat → Prop} {e : Ev} {A1 : Option Addr} {c1 : Nat} {A2 : Option Addr} {c2 : Nat} {A3 : Option Addr} {c3 : Nat} {A4 : Option Addr} {c4 : Nat} {A5 : Option Addr} {c5 : Nat} {b : Nat} {t : TypeId} {f : Nat × Nat} (hok : ok b)
    (h : w.heap[b]? = some (.cells #[.int .i64 e.kind, .int .i64 e.slot, .int .u64 e.block.root, .int .u64 e.block.parent, .int .i64 e.block.slot, .slice A1 e.block.votes.length c1, .slice A2 e.block.proofs.length c2, .int .i64 e.vote.slot, .int .u64 e.vote.head, .int .i64 e.vote.src.e, .int .u64 e.vote.src.r, .int .i64 e.vote.tgt.e, .int .u64 e.vote.tgt.r, .slice A3 e.vote.who.length c3, .int .i64 e.proof.a.slot, .int .u64 e.proof.a.head, .int .i64 e.proof.a.src.e, .int .u64 e.proof.a.src.r, .int .i64 e.proof.a.tgt.e, .int .u64 e.proof.a.tgt.r, .slice A4 e.proof.a.who.length c4, .int .i64 e.proof.b.slot, .int .u64 e.proof.b.head, .int .i64 e.proof.b.src.e, .int .u64 e.proof.b.src.r, .int .i64 e.proof.b.tgt.e, .int .u64 e.proof.b.tgt.r, .slice A5 e.proof.b.who.length c5] t f)) (hr : EvR ok w e A1 c1 A2 c2 A3 c3 A4 c4 A5 c5) : Evs ok w (some ⟨b, 0, none⟩) [e] := by
  intro _
  refine ⟨b, 0, rfl, hok, fun j x hx => ?_⟩
  match j, hx with
  | 0, hx =>
    obtain rfl : e = x := by simpa using hx
    refine ⟨_, EvK.shut hr, rfl, fun i u hi => ?_⟩
    rw [Nat.zero_mul, Nat.zero_add, Nat.zero_add, blk_cell h]
    simpa using hi
  | j + 1, hx => simp at hx
theorem evR_zero (ok : Nat → Prop) (w : World) (k s : Int) : EvR ok w ⟨k, s, Bk.zero, Vt.zero, Pf.zero⟩ none 0 none 0 none 0 none 0 none 0 :=
  ⟨⟨Nat.le_refl _, Nat.zero_le _⟩, ⟨Nat.le_refl _, Nat.zero_le _⟩, ⟨Nat.le_refl _, Nat.zero_le _⟩, ⟨Nat.le_refl _, Nat.zero_le _⟩, ⟨Nat.le_refl _, Nat.zero_le _⟩, Lie.nil, Lie.nil, Lie.nil, Lie.nil, Lie.nil⟩
def ev5 : Ev := ⟨0, 5, Bk.zero, Vt.zero, Pf.zero⟩
theorem enc5 : encOk [ev5] = true ∧ bes (encN [ev5]) = [0, 0, 0, 0, 0, 0, 0, 0, 0, 0, 0, 0, 0, 0, 0, 5] := by constructor <;> decide
set_option maxRecDepth 100000 in
set_option maxHeartbeats 1000000 in
theorem l04awake_calls (w : World) : Calls Tryd.prog 6 #[] w fun e w' => e = .returned (.bool true) ∧ Below w.heap.size w w' := by
  go_enter Tryd.func6, Tryd.ntmps6
  go_wp2_with fail
  refine (wencode_calls _ _ _ _ [ev5] (evs_one (e := ev5) trivial (heap_new w _) (evR_zero _ _ 0 5)) rfl (by simp [maxLen])).mono ?_
  rintro en w1 ⟨hb1, h⟩
  rcases h with ⟨_, A', n', c', rfl, hi, hn⟩ | ⟨h, _⟩
  · rw [enc5.2] at hi hn
    obtain rfl : 16 = n' := hn.out
    obtain ⟨b, o, rfl, _, h7⟩ := hi.get (j := 7) (by decide)
    obtain ⟨b2, o2, he, _, h15⟩ := hi.get (j := 15) (by decide)
    cases he
    simp only [List.getD_cons_succ, List.getD_cons_zero] at h7 h15
    go_wp2
    go_ret
    exact ⟨rfl, below_trans (below_alloc (Below.refl _ _) _) hb1⟩
  · rw [enc5.1] at h; cases h
theorem run_str {w : World} {A : Option Addr} {n c : Nat} {bs : List Int} (h : Ints anyB .u8 w A bs) (hn : bs.length = n) : (convert 24 9 (.slice A n c)).run Tryd.prog w = .ok (.string (strOfNums bs)) w := by
  rcases A with _ | ⟨b, o, sp⟩
  · have h0 : bs = [] := by
      rcases Nat.eq_zero_or_pos bs.length with h0 | h0
      · exact List.eq_nil_of_length_eq_zero h0
      · obtain ⟨b, o, he, _⟩ := h h0
        cases he
    subst h0
    exact run_convert_bytes_nil w 24 5 Tryd.underlying24 Tryd.underlying5 n c _ Tryd.underlying9
  · rcases Nat.eq_zero_or_pos bs.length with h0 | h0
    · obtain rfl := List.eq_nil_of_length_eq_zero h0
      subst hn
      rw [run_convert_bytes_string w _ _ _ _ _ _ Tryd.underlying24 Tryd.underlying5 Tryd.underlying9]
      simp [Conv.bytesToString, loadCells, loadCellsFrom, strOfNums]
      rfl
    · obtain ⟨b', o', he, _⟩ := h h0
      cases he
      refine run_convert_bytes_arg w 24 5 Tryd.underlying24 Tryd.underlying5 b o n c bs hn (fun i hi => ?_) _ Tryd.underlying9
      obtain ⟨b2, o2, he, _, hc⟩ := h.get (j := i) (by omega)
      cases he
      exact hc
theorem strOfNums_append (a b : List Int) : strOfNums (a ++ b) = strOfNums a ++ strOfNums b := by
  apply ByteArray.ext
  simp [strOfNums]
theorem str_beq_self (s : ByteArray) : (s == s) = true := by
  show (s.data == s.data) = true
  simp
theorem enc_size {es : List Ev} (h : encOk es = true) : (bes (encN es)).length ≤ 6553600000 := by
  simp only [encOk, Bool.and_eq_true, decide_eq_true_eq, List.all_eq_true] at h
  rw [bes_length]
  have := flatMap_le evN 200000 es (fun x hx => evN_le (h.2 x hx))
  have h3 := Nat.mul_le_mul_right 200000 h.1
  simp only [encN]; omega
end Go.Proofs.YtccficljaomhhaaDoor
