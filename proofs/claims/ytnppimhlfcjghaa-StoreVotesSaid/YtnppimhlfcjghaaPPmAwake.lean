import Derived.Test.YtnppimhlfcjghaaPBase
import Derived.Test.YtnppimhlfcjghaaPApply
set_option linter.all false
set_option linter.unusedVariables false
set_option linter.unusedSimpArgs false
namespace Go.Proofs.Ytnppimhlfcjghaa
open Go.RowKit
set_option maxRecDepth 100000
def cf14 : Cf := ⟨[1], 4, 0⟩
theorem cf14_ok : cf14.ok := ⟨by decide, by decide, by decide, by decide, by decide, by decide, by decide⟩
def t14 : Ev := ⟨0, 3, Bk.zero, Vt.zero, Pf.zero⟩
def p14 : Ev := ⟨1, 0, ⟨2, 1, 3, [], []⟩, Vt.zero, Pf.zero⟩
theorem aw1 : (applyS (St.of cf14) t14).2 = 0 := by decide +kernel
theorem aw2 : (applyS (applyS (St.of cf14) t14).1.1 p14).2 = 0 := by decide +kernel
theorem aw3 : (applyS (applyS (St.of cf14) t14).1.1 p14).1.2 = [⟨0, 2, 1, 0, 0, false⟩] := by decide +kernel
theorem aw4 : (applyS (applyS (St.of cf14) t14).1.1 p14).1.1.boosted = 2 := by decide +kernel
theorem aw5 : (applyS (applyS (St.of cf14) t14).1.1 p14).1.1.tree.nodes.length = 2 := by decide +kernel
theorem aw6 : t14.wf ∧ p14.wf := by
 constructor <;> simp [Ev.wf, Bk.wf, Vt.wf, Pf.wf, Pt.wf, inI, inU, t14, p14, Bk.zero, Vt.zero, Pf.zero, Pt.zero]
end Go.Proofs.Ytnppimhlfcjghaa
namespace Go.Proofs.Ytnppimhlfcjghaa
open Go.RowKit
set_option maxRecDepth 100000
set_option maxHeartbeats 2000000
theorem evr_nil {ok : Nat → Prop} {w : World} {e : Ev} (h1 : e.block.votes = []) (h2 : e.block.proofs = []) (h3 : e.vote.who = []) (h4 : e.proof.a.who = []) (h5 : e.proof.b.who = []) : EvR ok w e none 0 none 0 none 0 none 0 none 0 :=
 ⟨by rw [h1]; exact ⟨Nat.le_refl _, Nat.zero_le _⟩, by rw [h2]; exact ⟨Nat.le_refl _, Nat.zero_le _⟩, by rw [h3]; exact ⟨Nat.le_refl _, Nat.zero_le _⟩, by rw [h4]; exact ⟨Nat.le_refl _, Nat.zero_le _⟩, by rw [h5]; exact ⟨Nat.le_refl _, Nat.zero_le _⟩, by rw [h1]; exact Lie.nil, by rw [h2]; exact Lie.nil, by rw [h3]; exact Lie.nil, by rw [h4]; exact Lie.nil, by rw [h5]; exact Lie.nil⟩
def RetAw1 (B S sb : Nat) (w : World) (e : Ending) (w' : World) : Prop :=
 ∃ ch, e = .returned (.tuple #[ch, .nilIface]) ∧ RunAt B S S sb none [] (applyS (St.of cf14) t14).1.1 ch w' ∧ Ext (fun i => B ≤ i ∧ (i < S ∨ S ≤ i)) w w'
theorem aw1_calls {B S sb : Nat} {ch : Value} {w : World} (h : RunAt B S S sb none [] (St.of cf14) ch w) : Calls Try.prog 18 #[.pointer (some ⟨sb, 0, none⟩), .agg #[.int .i64 0, .int .i64 3, .int .u64 0, .int .u64 0, .int .i64 0, .slice none 0 0, .slice none 0 0, .int .i64 0, .int .u64 0, .int .i64 0, .int .u64 0, .int .i64 0, .int .u64 0, .slice none 0 0, .int .i64 0, .int .u64 0, .int .i64 0, .int .u64 0, .int .i64 0, .int .u64 0, .slice none 0 0, .int .i64 0, .int .u64 0, .int .i64 0, .int .u64 0, .int .i64 0, .int .u64 0, .slice none 0 0]] w (RetAw1 B S sb w) := by
 have := h.apply (e := t14) aw6.1 (evr_nil rfl rfl rfl rfl rfl)
 refine Calls.mono this ?_
 rintro e w' ⟨ch', rfl, hR, _, _, hx⟩
 rw [aw1]
 exact ⟨ch', rfl, hR, hx⟩
def RetAw2 (B S sb : Nat) (w : World) (e : Ending) (w' : World) : Prop :=
 ∃ A c ch, e = .returned (.tuple #[.slice A 1 c, .nilIface]) ∧ (∃ b, A = some ⟨b, 0, none⟩ ∧ w'.cell? ⟨b, 0, none⟩ = some (.int .i64 0)) ∧ (∃ (p : Places) (s : St) (k vk : Nat), p.sb = sb ∧ StoreAt w' p s k vk ch ∧ s.boosted = 2 ∧ s.tree.nodes.length = 2) ∧ Ext (fun i => B ≤ i ∧ (i < S ∨ S ≤ i)) w w'
theorem aw2_calls {B S sb : Nat} {ch : Value} {w : World} (h : RunAt B S S sb none [] (applyS (St.of cf14) t14).1.1 ch w) : Calls Try.prog 18 #[.pointer (some ⟨sb, 0, none⟩), .agg #[.int .i64 1, .int .i64 0, .int .u64 2, .int .u64 1, .int .i64 3, .slice none 0 0, .slice none 0 0, .int .i64 0, .int .u64 0, .int .i64 0, .int .u64 0, .int .i64 0, .int .u64 0, .slice none 0 0, .int .i64 0, .int .u64 0, .int .i64 0, .int .u64 0, .int .i64 0, .int .u64 0, .slice none 0 0, .int .i64 0, .int .u64 0, .int .i64 0, .int .u64 0, .int .i64 0, .int .u64 0, .slice none 0 0]] w (RetAw2 B S sb w) := by
 have := h.apply (e := p14) aw6.2 (evr_nil rfl rfl rfl rfl rfl)
 refine Calls.mono this ?_
 rintro e w' ⟨ch', rfl, ⟨⟨p, k, vk, hp, hS, _⟩, _, _, _, _⟩, ho, _, hx⟩
 rw [aw2]
 rw [aw3] at ho
 obtain ⟨A, c, rfl⟩ := own_slice ho
 obtain ⟨g, cap, he, _, _⟩ := ho.form (by simp)
 injection he with e1 e2 e3
 subst e1
 refine ⟨_, c, _, rfl, ⟨g, rfl, ho.cells (g := g) rfl 0 _ rfl⟩, ⟨p, _, k, vk, hp, hS, aw4, aw5⟩, hx⟩
theorem awake14_calls (w : World) : Calls Try.prog 14 #[] w fun e w' => e = .returned (.bool true) ∧ Below w.heap.size w w' := by
 have hb0 : Below w.heap.size w (w.alloc (.cells #[.int .u64 1] 28)) := below_alloc (Below.refl _ _) _
 have hI0 : Ints anyB .u64 (w.alloc (.cells #[.int .u64 1] 28)) (some ⟨w.heap.size, 0, none⟩) cf14.bal := ints_blk [1] (heap_new w _)
 have cS := SOf_calls (w.alloc (.cells #[.int .u64 1] 28)) cf14 (some ⟨w.heap.size, 0, none⟩) 1 cf14_ok hI0
 have tok : True := trivial
 go_enter Try.func14, Try.ntmps14
 go_upto_region 4 with (go_at_call 16; refine cS.mono ?_; rintro e w1 ⟨p, k, vk, rfl, hS, hp, hb1⟩)
 have hb1' : Below w.heap.size w w1 := below_then hb0 (by simp) hb1
 have hR : RunAt w.heap.size w1.heap.size w1.heap.size p.sb none [] (St.of cf14) (.slice none 0 0) w1 := ⟨⟨p, k, vk, rfl, hS, fun i hi => ⟨by have := hp i hi; simp at this; omega, by omega⟩⟩, ok_of cf14_ok, Lie.nil, (fun e he => by cases he), by have := hb1'.size; omega⟩
 clear cS hI0 hb0 hb1 hp hS
 go_upto_region 5 with (go_at_call 18; refine (aw1_calls hR).mono ?_; rintro e w2 ⟨ch2, rfl, hR2, hx2⟩)
 go_upto_region 6 with (go_at_call 18; refine (aw2_calls hR2).mono ?_; rintro e w3 ⟨A3, c3, ch3, rfl, ⟨b3, rfl, hc3⟩, ⟨p3, s3, k3, vk3, hsb3, hS3, hbo, hln⟩, hx3⟩)
 obtain ⟨_, _, _, x3, _, _, x6, _⟩ := hS3.cells
 rw [hsb3] at x3 x6
 rw [hbo] at x6
 have cL := Len_calls hS3.tree
 rw [hln] at cL
 have hbw : Below w.heap.size w w3 := (hb1'.trans (hx2.below hb1'.size (fun i hi e => by omega))).trans (hx3.below (by have := hb1'.size; have := hx2.size; omega) (fun i hi e => by omega))
 go_wp2_with (go_at_call 34; refine cL.mono ?_; rintro e w4 ⟨rfl, rfl⟩)
 go_ret
 exact ⟨rfl, hbw⟩
end Go.Proofs.Ytnppimhlfcjghaa
