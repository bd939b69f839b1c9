import Derived.Test.YtnppimhlfcjghaaGreatPPmFinal
set_option linter.all false
set_option linter.unusedVariables false
set_option linter.unusedSimpArgs false
namespace Go.Proofs.YtnppimhlfcjghaaGreat
open Go.RowKit
structure SameB (s s' : St) : Prop where
 sl : s'.slot = s.slot
 bo : s'.boosted = s.boosted
 t : s'.tree = s.tree
theorem SameB.refl (s : St) : SameB s s := ⟨rfl, rfl, rfl⟩
theorem SameB.trans {a b c : St} (h : SameB a b) (k : SameB b c) : SameB a c := ⟨k.sl.trans h.sl, k.bo.trans h.bo, k.t.trans h.t⟩
theorem sameB_moveOne (e r : Int) (x : SC) (k : Int) : SameB x.1 (moveOne e r x k).1 := by
 unfold moveOne
 split <;> exact ⟨rfl, rfl, rfl⟩
theorem sameB_moveAll (e r : Int) (who : List Int) : ∀ x : SC, SameB x.1 (who.foldl (moveOne e r) x).1 := by
 induction who with
 | nil => intro x; exact SameB.refl _
 | cons a l ih => intro x; exact (sameB_moveOne e r x a).trans (ih _)
theorem sameB_attest (x : SC) (v : Vt) (i : Bool) : SameB x.1 (attestS x v i).1 := by
 unfold attestS
 split
 ·exact sameB_moveAll _ _ _ _
 ·exact SameB.refl _
theorem sameB_banOne (x : SC) (k : Int) : SameB x.1 (banOne x k).1 := by
 unfold banOne
 split <;> exact ⟨rfl, rfl, rfl⟩
theorem sameB_banAll (who : List Int) : ∀ x : SC, SameB x.1 (who.foldl banOne x).1 := by
 induction who with
 | nil => intro x; exact SameB.refl _
 | cons a l ih => intro x; exact (sameB_banOne x a).trans (ih _)
theorem sameB_slash (x : SC) (p : Pf) : SameB x.1 (slashS x p).1 := sameB_banAll _ _
theorem sameB_attests (i : Bool) (vs : List Vt) : ∀ x : SC, SameB x.1 (vs.foldl (fun x v => attestS x v i) x).1 := by
 induction vs with
 | nil => intro x; exact SameB.refl _
 | cons a l ih => intro x; exact (sameB_attest x a i).trans (ih _)
theorem sameB_slashes (ps : List Pf) : ∀ x : SC, SameB x.1 (ps.foldl slashS x).1 := by
 induction ps with
 | nil => intro x; exact SameB.refl _
 | cons a l ih => intro x; exact (sameB_slash x a).trans (ih _)
def BoostIs (b0 : Int) (s : St) : Prop := s.boosted = b0 ∨ (s.boosted = 0 ∧ s.tree.has b0 = false)
theorem boost_raise {x : SC} (h : x.1.ok) (j f : Pt) {b0 : Int} (hb : BoostIs b0 x.1) : BoostIs b0 (raiseS x j f).1 ∧ (raiseS x j f).1.slot = x.1.slot := by
 have ht : (raiseJ x.1 j).tree = x.1.tree ∧ (raiseJ x.1 j).boosted = x.1.boosted ∧ (raiseJ x.1 j).slot = x.1.slot := by unfold raiseJ; split <;> exact ⟨rfl, rfl, rfl⟩
 unfold raiseS
 simp only
 split
 ·refine ⟨?_, ht.2.2⟩
  unfold BoostIs
  rw [ht.1, ht.2.1]
  exact hb
 ·rename_i hc
  simp only [not_or, Bool.not_eq_false, Int.not_le] at hc
  have c2 := hc.2.1
  rw [ht.1] at c2
  have hh := (Tr.below_has c2).1
  refine ⟨?_, ht.2.2⟩
  show (if ((raiseJ x.1 j).tree.cut f.r).has (raiseJ x.1 j).boosted then (raiseJ x.1 j).boosted else 0) = b0 ∨ ((if ((raiseJ x.1 j).tree.cut f.r).has (raiseJ x.1 j).boosted then (raiseJ x.1 j).boosted else 0) = 0 ∧ ((raiseJ x.1 j).tree.cut f.r).has b0 = false)
  rw [ht.1, ht.2.1]
  rcases hb with e | ⟨e, hn⟩
  ·rw [e]
   cases hx : (x.1.tree.cut f.r).has b0 with
   | true => exact .inl rfl
   | false => exact .inr ⟨rfl, rfl⟩
  ·refine .inr ⟨by rw [e]; split <;> rfl, ?_⟩
   rw [Tr.cut_has h.t hh]
   cases hx : x.1.tree.below b0 f.r with
   | false => rfl
   | true => rw [(Tr.below_has hx).1] at hn; cases hn
def wantB (s : St) (b : Bk) : Int := if s.boosted = 0 ∧ b.slot = s.slot then b.root else s.boosted
theorem boost_propose {s : St} (h : s.ok) {b : Bk} (hw : b.wf) (he : proposeE s b = 0) : BoostIs (wantB s b) (proposeS s b).1 ∧ (proposeS s b).1.slot = s.slot := by
 have s1 : SameB (laidS s b) (prop1 s b).1 := sameB_attests true b.votes (laidS s b, [⟨0, b.root, b.parent, 0, 0, false⟩])
 have s2 : SameB (prop1 s b).1 (prop2 s b).1 := sameB_slashes b.proofs (prop1 s b)
 have s02 := s1.trans s2
 have e1 : (prop2 s b).1.boosted = s.boosted := s02.bo
 have e2 : (prop2 s b).1.slot = s.slot := s02.sl
 have b3 : (prop3 s b).1.boosted = wantB s b ∧ (prop3 s b).1.slot = s.slot := by
  show (boostS (prop2 s b).1 b).boosted = _ ∧ (boostS (prop2 s b).1 b).slot = _
  unfold boostS wantB
  rw [e1, e2]
  by_cases hc : b.slot = s.slot ∧ s.boosted = 0
  ·rw [if_pos hc, if_pos ⟨hc.2, hc.1⟩]; exact ⟨rfl, rfl⟩
  ·rw [if_neg hc, if_neg (fun hh => hc ⟨hh.2, hh.1⟩)]; exact ⟨e1, e2⟩
 obtain ⟨b4, l4⟩ := boost_raise (ok_prop3 h hw he) (ledgerP s b).j.cur (ledgerP s b).j.fin (b0 := wantB s b) (.inl b3.1)
 have e4 : (prop4 s b).1.slot = s.slot := l4.trans b3.2
 rw [proposeS_eq]
 split
 ·obtain ⟨b5, l5⟩ := boost_raise (ok_prop4 h hw he) (propP s b).cur (propP s b).fin b4
  exact ⟨b5, l5.trans e4⟩
 ·exact ⟨b4, e4⟩
theorem apply_err {s : St} {e : Ev} (h : (applyS s e).2 ≠ 0) : (applyS s e).1.1 = s := by
 unfold applyS at h ⊢
 split
 ·rename_i h0
  rw [if_pos h0] at h
  split
  ·rfl
  ·rename_i h1
   rw [if_neg h1] at h
   split
   ·rfl
   ·rename_i h2
    rw [if_neg h2] at h
    exact absurd rfl h
 ·rename_i h0
  rw [if_neg h0] at h
  split
  ·rename_i h1
   rw [if_pos h1] at h
   split
   ·rename_i h2
    rw [if_pos h2] at h
    exact absurd rfl h
   ·rfl
  ·rename_i h1
   rw [if_neg h1] at h
   split
   ·rename_i h2
    rw [if_pos h2] at h
    show (attestS (s, []) e.vote false).1 = s
    rw [attestS, if_neg h]
   ·rename_i h2
    rw [if_neg h2] at h
    split
    ·rename_i h3
     rw [if_pos h3] at h
     show (slashS (s, []) e.proof).1 = s
     have hs : slashE s e.proof ≠ 0 := h
     unfold slashE at hs
     split at hs
     ·rename_i h4
      unfold slashS
      rw [List.eq_nil_of_length_eq_zero h4]
      rfl
     ·exact absurd rfl hs
    ·rfl
theorem ticks_step {s : St} (h : s.ok) {e : Ev} (hw : e.wf) : let s' := (applyS s e).1.1
    ((applyS s e).2 ≠ 0 → s'.boosted = s.boosted) ∧ ((applyS s e).2 = 0 → e.kind = 0 → s'.slot = e.slot ∧ s'.boosted = 0) ∧ ((applyS s e).2 = 0 → e.kind = 1 → ¬ (s'.boosted ≠ (if s.boosted = 0 ∧ e.block.slot = s'.slot then e.block.root else s.boosted) ∧ s'.tree.has (if s.boosted = 0 ∧ e.block.slot = s'.slot then e.block.root else s.boosted) = true)) := by
 refine ⟨fun he => by rw [apply_err he], fun he hk => ?_, fun he hk => ?_⟩
 ·unfold applyS at he ⊢
  rw [if_pos hk] at he ⊢
  split
  ·rename_i h1; rw [if_pos h1] at he; cases he
  ·rename_i h1
   rw [if_neg h1] at he
   split
   ·rename_i h2; rw [if_pos h2] at he; cases he
   ·exact ⟨rfl, rfl⟩
 ·have hk0 : e.kind ≠ 0 := by omega
  have hE : proposeE s e.block = 0 := by
   unfold applyS at he
   rw [if_neg hk0, if_pos hk] at he
   split at he
   ·rename_i h1; exact h1
   ·exact he
  have hS : (applyS s e).1.1 = (proposeS s e.block).1 := by
   unfold applyS
   rw [if_neg hk0, if_pos hk, if_pos hE]
  obtain ⟨b1, b2⟩ := boost_propose h hw.2.2.1 hE
  rw [hS, b2]
  rintro ⟨c1, c2⟩
  rcases b1 with e1 | ⟨e1, e2⟩
  ·exact c1 e1
  ·unfold wantB at e2
   rw [e2] at c2
   cases c2
end Go.Proofs.YtnppimhlfcjghaaGreat
