import Derived.Test.YtnppimhlfcjghaaGreatPPmOk
set_option linter.all false
set_option linter.unusedVariables false
set_option linter.unusedSimpArgs false
namespace Go.Proofs.YtnppimhlfcjghaaGreat
open Go.RowKit
structure St.inv (s : St) : Prop where
 first : s.tree.first = s.fin.r
 on : s.tree.below s.just.r s.fin.r = true
structure Same3 (s s' : St) : Prop where
 t : s'.tree = s.tree
 j : s'.just = s.just
 f : s'.fin = s.fin
theorem Same3.refl (s : St) : Same3 s s := ⟨rfl, rfl, rfl⟩
theorem Same3.trans {a b c : St} (h : Same3 a b) (k : Same3 b c) : Same3 a c := ⟨k.t.trans h.t, k.j.trans h.j, k.f.trans h.f⟩
theorem Same3.inv {s s' : St} (h : Same3 s s') (hi : s.inv) : s'.inv := ⟨by rw [h.t, h.f]; exact hi.first, by rw [h.t, h.j, h.f]; exact hi.on⟩
theorem same_moveOne (e r : Int) (x : SC) (k : Int) : Same3 x.1 (moveOne e r x k).1 := by
 unfold moveOne
 split <;> exact ⟨rfl, rfl, rfl⟩
theorem same_moveAll (e r : Int) (who : List Int) : ∀ x : SC, Same3 x.1 (who.foldl (moveOne e r) x).1 := by
 induction who with
 | nil => intro x; exact Same3.refl _
 | cons a l ih => intro x; exact (same_moveOne e r x a).trans (ih _)
theorem same_attest (x : SC) (v : Vt) (i : Bool) : Same3 x.1 (attestS x v i).1 := by
 unfold attestS
 split
 ·exact same_moveAll _ _ _ _
 ·exact Same3.refl _
theorem same_banOne (x : SC) (k : Int) : Same3 x.1 (banOne x k).1 := by
 unfold banOne
 split <;> exact ⟨rfl, rfl, rfl⟩
theorem same_banAll (who : List Int) : ∀ x : SC, Same3 x.1 (who.foldl banOne x).1 := by
 induction who with
 | nil => intro x; exact Same3.refl _
 | cons a l ih => intro x; exact (same_banOne x a).trans (ih _)
theorem same_slash (x : SC) (p : Pf) : Same3 x.1 (slashS x p).1 := same_banAll _ _
theorem same_attests (i : Bool) (vs : List Vt) : ∀ x : SC, Same3 x.1 (vs.foldl (fun x v => attestS x v i) x).1 := by
 induction vs with
 | nil => intro x; exact Same3.refl _
 | cons a l ih => intro x; exact (same_attest x a i).trans (ih _)
theorem same_slashes (ps : List Pf) : ∀ x : SC, Same3 x.1 (ps.foldl slashS x).1 := by
 induction ps with
 | nil => intro x; exact Same3.refl _
 | cons a l ih => intro x; exact (same_slash x a).trans (ih _)
theorem same_boost (s : St) (b : Bk) : Same3 s (boostS s b) := by
 unfold boostS
 split <;> exact ⟨rfl, rfl, rfl⟩
theorem same_tick (s : St) (t : Int) : Same3 s (tickS s t) := by
 unfold tickS
 split <;> exact ⟨rfl, rfl, rfl⟩
structure Later (s s' : St) : Prop where
 j : s.just.e ≤ s'.just.e
 f : s.fin.e ≤ s'.fin.e
theorem Later.refl (s : St) : Later s s := ⟨Int.le_refl _, Int.le_refl _⟩
theorem Later.trans {a b c : St} (h : Later a b) (k : Later b c) : Later a c := ⟨Int.le_trans h.j k.j, Int.le_trans h.f k.f⟩
theorem Same3.later {s s' : St} (h : Same3 s s') : Later s s' := ⟨by rw [h.j]; exact Int.le_refl _, by rw [h.f]; exact Int.le_refl _⟩
theorem inv_raiseJ {s : St} (hi : s.inv) (j : Pt) : (raiseJ s j).inv ∧ Later s (raiseJ s j) := by
 unfold raiseJ
 split
 ·rename_i h
  exact ⟨⟨hi.first, h.2⟩, ⟨by show s.just.e ≤ j.e; omega, Int.le_refl _⟩⟩
 ·exact ⟨hi, Later.refl _⟩
theorem inv_raise {x : SC} (h : x.1.ok) (hi : x.1.inv) (j f : Pt) : (raiseS x j f).1.inv ∧ Later x.1 (raiseS x j f).1 := by
 obtain ⟨i1, l1⟩ := inv_raiseJ hi j
 have ht : (raiseJ x.1 j).tree = x.1.tree := by unfold raiseJ; split <;> rfl
 unfold raiseS
 simp only
 split
 ·exact ⟨i1, l1⟩
 ·rename_i hc
  simp only [not_or, Bool.not_eq_false, Int.not_le] at hc
  obtain ⟨c1, c2, c3⟩ := hc
  rw [ht] at c2 c3
  have hh := (Tr.below_has c2).1
  refine ⟨⟨rfl, ?_⟩, ⟨l1.j, ?_⟩⟩
  ·show ((raiseJ x.1 j).tree.cut f.r).below (raiseJ x.1 j).just.r f.r = true
   rw [ht]
   exact Tr.below_first (Tr.cut_ok h.t hh) _ (by rw [Tr.cut_has h.t hh]; exact c3)
  ·show x.1.fin.e ≤ f.e
   have := l1.f
   omega
theorem inv_laid {s : St} (h : s.ok) (hi : s.inv) {b : Bk} (hw : b.wf) (he : proposeE s b = 0) : (laidS s b).inv := by
 have e6 := (proposeE_ok he).2.2.2.2.2
 have hA := addT_ok h hw he
 refine ⟨hi.first, ?_⟩
 show (s.tree.add b.root b.parent b.slot).below s.just.r s.fin.r = true
 have hb := Tr.below_has hi.on
 rw [Tr.add_below h.t e6 hA hb.1 hb.2.1]
 exact hi.on
theorem inv_propose {s : St} (h : s.ok) (hi : s.inv) {b : Bk} (hw : b.wf) (he : proposeE s b = 0) : (proposeS s b).1.inv ∧ Later s (proposeS s b).1 := by
 have i0 := inv_laid h hi hw he
 have s1 : Same3 (laidS s b) (prop1 s b).1 := same_attests true b.votes (laidS s b, [⟨0, b.root, b.parent, 0, 0, false⟩])
 have s2 : Same3 (prop1 s b).1 (prop2 s b).1 := same_slashes b.proofs (prop1 s b)
 have s3 : Same3 (prop2 s b).1 (prop3 s b).1 := same_boost _ b
 have s03 := (s1.trans s2).trans s3
 have i3 := s03.inv i0
 obtain ⟨i4, l4⟩ := inv_raise (ok_prop3 h hw he) i3 (ledgerP s b).j.cur (ledgerP s b).j.fin
 have l0 : Later s (laidS s b) := ⟨Int.le_refl _, Int.le_refl _⟩
 have l04 := (l0.trans s03.later).trans l4
 rw [proposeS_eq]
 split
 ·obtain ⟨i5, l5⟩ := inv_raise (ok_prop4 h hw he) i4 (propP s b).cur (propP s b).fin
  exact ⟨i5, l04.trans l5⟩
 ·exact ⟨i4, l04⟩
theorem inv_apply {s : St} (h : s.ok) (hi : s.inv) {e : Ev} (hw : e.wf) : (applyS s e).1.1.inv ∧ Later s (applyS s e).1.1 := by
 unfold applyS
 split
 ·split
  ·exact ⟨hi, Later.refl _⟩
  ·split
   ·exact ⟨hi, Later.refl _⟩
   ·exact ⟨⟨hi.first, hi.on⟩, ⟨Int.le_refl _, Int.le_refl _⟩⟩
 ·split
  ·split
   ·rename_i he
    exact inv_propose h hi hw.2.2.1 he
   ·exact ⟨hi, Later.refl _⟩
  ·split
   ·exact ⟨(same_attest (s, []) e.vote false).inv hi, (same_attest (s, []) e.vote false).later⟩
   ·split
    ·exact ⟨(same_slash (s, []) e.proof).inv hi, (same_slash (s, []) e.proof).later⟩
    ·exact ⟨hi, Later.refl _⟩
theorem inv_of {c : Cf} (h : c.ok) : (St.of c).inv := ⟨rfl, Tr.below_self (ok_of h).t (ok_of h).t.fst⟩
theorem final_step {s : St} (h : s.ok) (hi : s.inv) {e : Ev} (hw : e.wf) : let s' := (applyS s e).1.1
    ¬ (s'.just.e < s.just.e ∨ s'.fin.e < s.fin.e ∨ s'.tree.first ≠ s'.fin.r ∨ s'.tree.below s'.just.r s'.fin.r = false) ∧ ¬ (s'.fin = s.fin ∧ s'.just.e < s'.fin.e ∧ s.fin.e ≤ s.just.e) := by
 obtain ⟨i, l⟩ := inv_apply h hi hw
 have a := l.j
 have b := l.f
 refine ⟨?_, ?_⟩
 ·rintro (h1 | h1 | h1 | h1)
  ·omega
  ·omega
  ·exact h1 i.first
  ·rw [i.on] at h1; cases h1
 ·rintro ⟨h1, h2, h3⟩
  rw [h1] at h2
  omega
end Go.Proofs.YtnppimhlfcjghaaGreat
