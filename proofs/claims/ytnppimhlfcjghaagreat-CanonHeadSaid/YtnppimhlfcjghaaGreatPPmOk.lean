import Derived.Test.YtnppimhlfcjghaaGreatPPmTree
import Derived.Test.YtnppimhlfcjghaaGreatPTick
import Derived.Test.YtnppimhlfcjghaaGreatPAttest
import Derived.Test.YtnppimhlfcjghaaGreatPAdv2
import Derived.Test.YtnppimhlfcjghaaGreatPCount
set_option linter.all false
set_option linter.unusedVariables false
set_option linter.unusedSimpArgs false
namespace Go.Proofs.YtnppimhlfcjghaaGreat
open Go.RowKit
theorem takeV_ve {v : List En} {k e r : Int} (h : ∀ x ∈ v, (0 ≤ x.epoch ∧ x.epoch ≤ 1099511627776) ∧ inU x.root) (he : 0 ≤ e ∧ e ≤ 1099511627776) (hr : inU r) : ∀ x ∈ takeV v k e r, (0 ≤ x.epoch ∧ x.epoch ≤ 1099511627776) ∧ inU x.root := by
 intro x hx
 unfold takeV at hx
 split at hx
 ·rcases List.mem_or_eq_of_mem_set hx with h1 | h1
  ·exact h x h1
  ·subst h1; exact ⟨he, hr⟩
 ·exact h x hx
theorem banV_ve {v : List En} {k : Int} (h : ∀ x ∈ v, (0 ≤ x.epoch ∧ x.epoch ≤ 1099511627776) ∧ inU x.root) : ∀ x ∈ banV v k, (0 ≤ x.epoch ∧ x.epoch ≤ 1099511627776) ∧ inU x.root := by
 intro x hx
 unfold banV at hx
 split at hx
 ·obtain ⟨i, hi, e⟩ := List.mem_iff_getElem.1 hx
  rw [List.getElem_modify] at e
  have hi' : i < v.length := by simpa using hi
  have hv := h _ (List.getElem_mem hi')
  split at e
  ·subst e; exact hv
  ·subst e; exact hv
 ·exact h x hx
theorem St.ok.votes' {s : St} (h : s.ok) {v : List En} (hl : v.length = s.votes.length) (hv : ∀ x ∈ v, (0 ≤ x.epoch ∧ x.epoch ≤ 1099511627776) ∧ inU x.root) : ({ s with votes := v } : St).ok :=
 ⟨h.c, h.t, hl.trans h.vl, h.sl0, h.sl1, h.bo, h.je, h.jr, h.fe, h.fr, hv, h.led, h.has, h.gn, h.lu, h.ln, h.lr⟩
theorem ok_tick {s : St} (h : s.ok) (t : Int) : (tickS s t).ok := by
 unfold tickS
 by_cases h1 : t ≤ s.slot
 ·rw [if_neg (by unfold tickE; rw [if_pos h1]; decide)]; exact h
 ·by_cases h2 : 1099511627776 < t
  ·rw [if_neg (by unfold tickE; rw [if_neg h1, if_pos h2]; decide)]; exact h
  ·have h0 := h.sl0
   rw [if_pos (by unfold tickE; rw [if_neg h1, if_neg h2])]
   exact ⟨h.c, h.t, h.vl, by show 0 ≤ t; omega, by show t ≤ _; omega, ⟨by show (0 : Int) ≤ 0; omega, by show (0 : Int) ≤ _; omega⟩, h.je, h.jr, h.fe, h.fr, h.ve, h.led, h.has, h.gn, h.lu, h.ln, h.lr⟩
theorem ok_moveOne {e r : Int} (he : 0 ≤ e ∧ e ≤ 1099511627776) (hr : inU r) {x : SC} (h : x.1.ok) (k : Int) : (moveOne e r x k).1.ok := by
 unfold moveOne
 split
 ·exact h.votes' (takeV_length _ _ _ _) (takeV_ve h.ve he hr)
 ·exact h
theorem ok_moveAll {e r : Int} (he : 0 ≤ e ∧ e ≤ 1099511627776) (hr : inU r) (who : List Int) : ∀ (x : SC), x.1.ok → (who.foldl (moveOne e r) x).1.ok := by
 induction who with
 | nil => intro x h; exact h
 | cons a l ih => intro x h; exact ih _ (ok_moveOne he hr h a)
theorem epochOf_bd2 {s n : Int} (h : s ≤ 1099511627776) : 0 ≤ epochOf s n ∧ epochOf s n ≤ 1099511627776 := by
 unfold epochOf
 have h1 : 0 ≤ max 0 s := by omega
 have h2 : 0 ≤ max 1 n := by omega
 have a := Int.ediv_nonneg h1 h2
 have b := Int.ediv_le_self (max 1 n) h1
 omega
theorem rightB_epoch {c : Cf} {v : Vt} (h : rightB c v = true) : v.tgt.e = epochOf v.slot c.slots ∧ 0 ≤ v.slot ∧ 0 ≤ v.src.e ∧ v.src.e ≤ v.tgt.e ∧ v.who ≠ [] ∧ whoOk c.bal.length v.who = true := by
 unfold rightB at h
 simp only [Bool.and_eq_true, decide_eq_true_eq, beq_iff_eq, Bool.not_eq_true', beq_eq_false_iff_ne] at h
 obtain ⟨⟨⟨⟨⟨h1, h2⟩, h3⟩, h4⟩, h5⟩, h6⟩ := h
 exact ⟨h5, h2, h3, h4, fun e => by simp [e] at h1, h6⟩
theorem attestE_right {s : St} {v : Vt} {i : Bool} (h : attestE s v i = 0) : rightB s.c v = true ∧ v.slot ≤ s.slot := by
 unfold attestE at h
 split at h; · cases h
 rename_i h1
 split at h; · cases h
 rename_i h2
 exact ⟨by simpa using h1, by omega⟩
theorem ok_attest {x : SC} (h : x.1.ok) {v : Vt} (hv : v.wf) (i : Bool) : (attestS x v i).1.ok := by
 unfold attestS
 split
 ·rename_i he
  obtain ⟨h1, h2⟩ := attestE_right he
  have h3 := (rightB_epoch h1).1
  have := h.sl1
  refine ok_moveAll ?_ hv.2.1 _ _ h
  rw [h3]; exact epochOf_bd2 (by omega)
 ·exact h
theorem ok_banOne {x : SC} (h : x.1.ok) (k : Int) : (banOne x k).1.ok := by
 unfold banOne
 split
 ·exact h.votes' (banV_length _ _) (banV_ve h.ve)
 ·exact h
theorem ok_banAll (who : List Int) : ∀ (x : SC), x.1.ok → (who.foldl banOne x).1.ok := by
 induction who with
 | nil => intro x h; exact h
 | cons a l ih => intro x h; exact ih _ (ok_banOne h a)
theorem ok_slash {x : SC} (h : x.1.ok) (p : Pf) : (slashS x p).1.ok := ok_banAll _ _ h
theorem ok_attests (i : Bool) (vs : List Vt) : ∀ (x : SC), x.1.ok → (∀ v ∈ vs, v.wf) → (vs.foldl (fun x v => attestS x v i) x).1.ok := by
 induction vs with
 | nil => intro x h _; exact h
 | cons a l ih => intro x h hw; exact ih _ (ok_attest h (hw a (List.mem_cons_self ..)) i) (fun v hv => hw v (List.mem_cons_of_mem _ hv))
theorem ok_slashes (ps : List Pf) : ∀ (x : SC), x.1.ok → (ps.foldl slashS x).1.ok := by
 induction ps with
 | nil => intro x h; exact h
 | cons a l ih => intro x h; exact ih _ (ok_slash h a)
theorem delAll_keys {α : Type} (ks : List Int) : ∀ (l : List (Int × α)), (keys l).Nodup → (keys (delAll l ks)).Nodup ∧ (∀ k, k ∈ keys (delAll l ks) → k ∈ keys l) ∧ ∀ k, lk (delAll l ks) k = if k ∈ ks then none else lk l k := by
 induction ks with
 | nil => intro l h; exact ⟨h, fun _ h => h, fun k => by simp [delAll]⟩
 | cons a r ih =>
  intro l h
  obtain ⟨a1, a2, a3⟩ := ih (del l a) (nodup_del h a)
  refine ⟨a1, fun k hk => ?_, fun k => ?_⟩
  ·have := a2 k hk
   rw [keys_del] at this
   exact List.mem_of_mem_erase this
  ·show lk (delAll (del l a) r) k = _
   rw [a3, lk_del h]
   by_cases h1 : k ∈ r
   ·simp [h1]
   ·by_cases h2 : k = a
    ·simp [h2]
    ·simp [h1, h2]
theorem putAll_true (ks : List Int) : ∀ (l : List (Int × Bool)), (∀ r b, (r, b) ∈ l → b = true) → ∀ r b, (r, b) ∈ putAll l ks → b = true := by
 induction ks with
 | nil => intro l h; exact h
 | cons a t ih =>
  intro l h
  refine ih _ (fun r b hm => ?_)
  have : ∀ (l : List (Int × Bool)), (∀ r b, (r, b) ∈ l → b = true) → ∀ r b, (r, b) ∈ put l a true → b = true := by
   intro l
   induction l with
   | nil => intro _ r b hm; simp [put] at hm; exact hm.2
   | cons p q ihq =>
    intro hp r b hm
    obtain ⟨k', v'⟩ := p
    unfold put at hm
    split at hm
    ·rcases List.mem_cons.1 hm with e | e
     ·injection e
     ·exact hp r b (List.mem_cons_of_mem _ e)
    ·rcases List.mem_cons.1 hm with e | e
     ·exact hp r b (by rw [e]; exact List.mem_cons_self ..)
     ·exact ihq (fun r b hh => hp r b (List.mem_cons_of_mem _ hh)) r b e
  exact this l h r b hm
theorem Tr.mem_gone {t : Tr} {root r : Int} : r ∈ t.gone root ↔ t.has r = true ∧ t.below r root = false := by
 rw [Tr.gone, List.mem_filter, Tr.mem_roots]; simp
theorem ok_raiseJ {s : St} (h : s.ok) {j : Pt} (hj : 0 ≤ j.e ∧ j.e ≤ 1099511627776) (hr : inU j.r) : (raiseJ s j).ok := by
 unfold raiseJ
 split
 ·exact ⟨h.c, h.t, h.vl, h.sl0, h.sl1, h.bo, hj, hr, h.fe, h.fr, h.ve, h.led, h.has, h.gn, h.lu, h.ln, h.lr⟩
 ·exact h
theorem ok_cut {s : St} (h : s.ok) {f : Pt} (hf : 0 ≤ f.e ∧ f.e ≤ 1099511627776) (hr : inU f.r) (hh : s.tree.has f.r = true) : (cutS s f).ok := by
 obtain ⟨d1, d2, d3⟩ := delAll_keys (s.tree.gone f.r) s.ledgers h.ln
 have d4 : ∀ r l, lk (delAll s.ledgers (s.tree.gone f.r)) r = some l → lk s.ledgers r = some l := fun r l e => by
  rw [d3] at e
  split at e
  ·cases e
  ·exact e
 refine ⟨h.c, Tr.cut_ok h.t hh, h.vl, h.sl0, h.sl1, ?_, h.je, h.jr, hf, hr, h.ve, fun r l e => h.led r l (d4 r l e), fun r hc => ?_, putAll_true _ _ h.gn, fun r hm => h.lu r (d2 r hm), d1, fun r l e => h.lr r l (d4 r l e)⟩
 ·show inU (if (s.tree.cut f.r).has s.boosted then s.boosted else 0)
  split
  ·exact h.bo
  ·exact ⟨Int.le_refl _, by omega⟩
 ·have hc' : (s.tree.cut f.r).has r = true := hc
  rw [Tr.cut_has h.t hh] at hc'
  show (lk (delAll s.ledgers (s.tree.gone f.r)) r).isSome = true
  rw [d3, if_neg (fun hm => by have := (Tr.mem_gone.1 hm).2; rw [hc'] at this; cases this)]
  exact h.has r (Tr.below_has hc').1
theorem ok_raise {x : SC} (h : x.1.ok) {j f : Pt} (hj : 0 ≤ j.e ∧ j.e ≤ 1099511627776) (hjr : inU j.r) (hf : 0 ≤ f.e ∧ f.e ≤ 1099511627776) (hfr : inU f.r) : (raiseS x j f).1.ok := by
 unfold raiseS
 simp only
 split
 ·exact ok_raiseJ h hj hjr
 ·rename_i hc
  refine ok_cut (ok_raiseJ h hj hjr) hf hfr ?_
  simp only [not_or, Bool.not_eq_false] at hc
  exact (Tr.below_has hc.2.1).1
theorem pullL_U {c : Cf} {l : Ls} {f : Int → Int} (hf : ∀ s, inU (f s)) (h : LsU l) : LsU { l with j := pullL c l f } := by
 obtain ⟨p, cu, fi⟩ := h
 unfold pullL
 split
 ·exact ⟨p, cu, fi⟩
 ·unfold nextJ
  refine ⟨cu, ?_, ?_⟩
  ·show inU (Pt.r (if _ then _ else _))
   split
   ·exact hf _
   ·split
    ·exact hf _
    ·exact cu
  ·show inU (Pt.r (if _ then _ else _))
   split
   ·exact cu
   ·split
    ·exact cu
    ·split
     ·exact p
     ·split
      ·exact p
      ·exact fi
theorem stepL_U {c : Cf} {f : Int → Int} (hf : ∀ s, inU (f s)) {l : Ls} (h : LsU l) (e : Int) : LsU (stepL c f l e) := by
 have := pullL_U (c := c) hf h
 exact ⟨this.p, this.c, this.f⟩
theorem countL_ok {c : Cf} {f : Int → Int} {l : Ls} (h : LsOk c.bal.length l) (v : Vt) : LsOk c.bal.length (countL c f l v) := by
 unfold countL
 split
 ·split
  ·exact ⟨h.j, h.e0, h.e1, h.b, by show (setAll _ _).length = _; rw [setAll_length]; exact h.n⟩
  ·exact ⟨h.j, h.e0, h.e1, by show (setAll _ _).length = _; rw [setAll_length]; exact h.b, h.n⟩
 ·exact h
theorem countL_j {c : Cf} {f : Int → Int} {l : Ls} (v : Vt) : (countL c f l v).j = l.j ∧ (countL c f l v).epoch = l.epoch := by
 unfold countL
 split
 ·split <;> exact ⟨rfl, rfl⟩
 ·exact ⟨rfl, rfl⟩
theorem counts_ok {c : Cf} {f : Int → Int} (vs : List Vt) : ∀ (l : Ls), LsOk c.bal.length l → LsU l → LsOk c.bal.length (vs.foldl (countL c f) l) ∧ LsU (vs.foldl (countL c f) l) := by
 induction vs with
 | nil => intro l h hu; exact ⟨h, hu⟩
 | cons v r ih =>
  intro l h hu
  have e := (countL_j (c := c) (f := f) (l := l) v).1
  exact ih _ (countL_ok h v) ⟨by rw [e]; exact hu.p, by rw [e]; exact hu.c, by rw [e]; exact hu.f⟩
theorem zLs_ok {c : Cf} : LsU Ls.zero := by
 refine ⟨?_, ?_, ?_⟩ <;> exact ⟨Int.le_refl _, by show (0 : Int) ≤ _; omega⟩
theorem pullL_ok {c : Cf} {f : Int → Int} {l : Ls} (h : LsOk c.bal.length l) : JsB (pullL c l f) := by
 have hj := h.j
 have h0 := h.e0
 have h1 := h.e1
 unfold pullL
 split
 ·exact hj
 ·obtain ⟨p1, p2, p3⟩ := hj
  unfold nextJ JsB
  refine ⟨p2, ?_, ?_⟩
  ·simp only
   split
   ·simp only [pointL]; omega
   ·split
    ·simp only [pointL]; omega
    ·exact p2
  ·simp only
   split
   ·exact p2
   ·split
    ·exact p2
    ·split
     ·exact p1
     ·split
      ·exact p1
      ·exact p3
theorem steps_ok {c : Cf} (hok : c.ok) {f : Int → Int} (hf : ∀ s, inU (f s)) {l : Ls} (h : LsOk c.bal.length l) (hu : LsU l) : ∀ (n : Nat), l.epoch + n ≤ 1099511627776 → LsOk c.bal.length ((seqI l.epoch n).foldl (stepL c f) l) ∧ LsU ((seqI l.epoch n).foldl (stepL c f) l) ∧ ((seqI l.epoch n).foldl (stepL c f) l).epoch = l.epoch + n := by
 intro n
 induction n with
 | zero => intro _; exact ⟨h, hu, by simp [seqI]⟩
 | succ n ih =>
  intro hn
  obtain ⟨a, b, e⟩ := ih (by omega)
  have := h.e0
  rw [seqI_succ, List.foldl_append]
  refine ⟨stepL_ok hok hf a (by omega) (by omega) e, stepL_U hf b _, ?_⟩
  show l.epoch + n + 1 = _
  omega
theorem advanceL_eq {c : Cf} (hok : c.ok) {l : Ls} (h0 : 0 ≤ l.epoch) (s : Int) (f : Int → Int) : advanceL c l s f = (seqI l.epoch (min (epochOf s c.slots - l.epoch).toNat 4096)).foldl (stepL c f) l := by
 have s1 := hok.s1
 have hmx : max 1 c.slots = c.slots := by omega
 have hm : 0 ≤ l.epoch * c.slots := Int.mul_nonneg h0 (by omega)
 unfold advanceL
 rw [hmx]
 have : epochOf (l.epoch * c.slots) c.slots = l.epoch := by
  unfold epochOf
  rw [hmx, show max 0 (l.epoch * c.slots) = l.epoch * c.slots from by omega, Int.mul_ediv_cancel _ (by omega)]
 have e : endsL (l.epoch * c.slots) s c.slots = seqI l.epoch (min (epochOf s c.slots - l.epoch).toNat 4096) := by
  show seqI _ _ = _
  rw [this]
 rw [e]
theorem advance_ok {c : Cf} (hok : c.ok) {f : Int → Int} (hf : ∀ s, inU (f s)) {l : Ls} (h : LsOk c.bal.length l) (hu : LsU l) {s : Int} (hs : s ≤ 1099511627776) : LsOk c.bal.length (advanceL c l s f) ∧ LsU (advanceL c l s f) := by
 rw [advanceL_eq hok h.e0]
 have h1 := (epochOf_bd2 (n := c.slots) hs).2
 have h2 := h.e1
 obtain ⟨a, b, _⟩ := steps_ok hok hf h hu (min (epochOf s c.slots - l.epoch).toNat 4096) (by omega)
 exact ⟨a, b⟩
theorem proposeE_ok {s : St} {b : Bk} (h : proposeE s b = 0) : b.slot ≤ s.slot ∧ b.root ≠ 0 ∧ b.votes.length ≤ 16 ∧ b.proofs.length ≤ 16 ∧ (lk s.gone b.root).getD false = false ∧ s.tree.addE b.root b.parent b.slot = 0 := by
 unfold proposeE at h
 split at h; · cases h
 rename_i h1
 split at h; · cases h
 rename_i h2
 split at h; · cases h
 rename_i h3
 split at h; · cases h
 rename_i h4
 exact ⟨by omega, h2, by omega, by omega, by simpa using h4, h⟩
theorem addT_ok {s : St} (h : s.ok) {b : Bk} (hw : b.wf) (he : proposeE s b = 0) : (s.tree.add b.root b.parent b.slot).ok := by
 obtain ⟨e1, _, _, _, _, e6⟩ := proposeE_ok he
 have := h.sl1
 exact Tr.add_ok h.t e6 hw.1 (by omega)
theorem atT_inU {t : Tr} (h : t.ok) (r : Int) : ∀ s, inU (t.at_ r s) := fun s => Tr.at_inU h r s
theorem advP_ok {s : St} (h : s.ok) {b : Bk} (hw : b.wf) (he : proposeE s b = 0) : LsOk s.c.bal.length ((lk s.ledgers b.parent).getD Ls.zero) ∧ LsU ((lk s.ledgers b.parent).getD Ls.zero) ∧ ∃ l, lk s.ledgers b.parent = some l := by
 obtain ⟨e1, _, _, _, _, e6⟩ := proposeE_ok he
 have hp := h.has _ (Tr.addE_ok e6).2.1
 obtain ⟨l, hl⟩ := Option.isSome_iff_exists.1 hp
 rw [hl]
 exact ⟨h.led _ _ hl, h.lr _ _ hl, l, rfl⟩
theorem ledgerP_ok {s : St} (h : s.ok) {b : Bk} (hw : b.wf) (he : proposeE s b = 0) : LsOk s.c.bal.length (ledgerP s b) ∧ LsU (ledgerP s b) := by
 obtain ⟨a1, a2, _⟩ := advP_ok h hw he
 have ht := addT_ok h hw he
 have := h.sl1
 obtain ⟨b1, b2⟩ := advance_ok h.c (atT_inU ht b.root) a1 a2 (s := b.slot) (by have := (proposeE_ok he).1; omega)
 exact counts_ok _ _ b1 b2
def laidS (s : St) (b : Bk) : St := { s with tree := s.tree.add b.root b.parent b.slot, ledgers := put s.ledgers b.root (ledgerP s b) }
theorem ok_laid {s : St} (h : s.ok) {b : Bk} (hw : b.wf) (he : proposeE s b = 0) : (laidS s b).ok := by
 obtain ⟨a1, a2⟩ := ledgerP_ok h hw he
 refine ⟨h.c, addT_ok h hw he, h.vl, h.sl0, h.sl1, h.bo, h.je, h.jr, h.fe, h.fr, h.ve, fun r l e => ?_, fun r hr => ?_, h.gn, fun r hm => ?_, nodup_put h.ln _ _, fun r l e => ?_⟩
 ·have e' : lk (put s.ledgers b.root (ledgerP s b)) r = some l := e
  rw [lk_put] at e'
  split at e'
  ·injection e' with e'; subst e'; exact a1
  ·exact h.led r l e'
 ·show (lk (put s.ledgers b.root (ledgerP s b)) r).isSome = true
  rw [lk_put]
  split
  ·rfl
  ·rename_i hne
   refine h.has r ?_
   have hr' : (s.tree.add b.root b.parent b.slot).has r = true := hr
   rw [Tr.add_has] at hr'
   simpa [hne] using hr'
 ·have hm' : r ∈ keys (put s.ledgers b.root (ledgerP s b)) := hm
  rw [keys_put] at hm'
  split at hm'
  ·exact h.lu r hm'
  ·rcases List.mem_append.1 hm' with h1 | h1
   ·exact h.lu r h1
   ·simp only [List.mem_singleton] at h1; subst h1; exact hw.1
 ·have e' : lk (put s.ledgers b.root (ledgerP s b)) r = some l := e
  rw [lk_put] at e'
  split at e'
  ·injection e' with e'; subst e'; exact a2
  ·exact h.lr r l e'
def boostS (s : St) (b : Bk) : St := if b.slot = s.slot ∧ s.boosted = 0 then { s with boosted := b.root } else s
theorem ok_boost {s : St} (h : s.ok) {b : Bk} (hw : b.wf) : (boostS s b).ok := by
 unfold boostS
 split
 ·exact ⟨h.c, h.t, h.vl, h.sl0, h.sl1, hw.1, h.je, h.jr, h.fe, h.fr, h.ve, h.led, h.has, h.gn, h.lu, h.ln, h.lr⟩
 ·exact h
def prop1 (s : St) (b : Bk) : SC := b.votes.foldl (fun x v => attestS x v true) (laidS s b, [⟨0, b.root, b.parent, 0, 0, false⟩])
def prop2 (s : St) (b : Bk) : SC := b.proofs.foldl slashS (prop1 s b)
def prop3 (s : St) (b : Bk) : SC := (boostS (prop2 s b).1 b, (prop2 s b).2)
def prop4 (s : St) (b : Bk) : SC := raiseS (prop3 s b) (ledgerP s b).j.cur (ledgerP s b).j.fin
def propP (s : St) (b : Bk) : Js := pullL (prop4 s b).1.c (ledgerP s b) ((prop4 s b).1.tree.at_ b.root)
theorem proposeS_eq (s : St) (b : Bk) : proposeS s b = if epochOf b.slot (prop4 s b).1.c.slots < epochOf (prop4 s b).1.slot (prop4 s b).1.c.slots then raiseS (prop4 s b) (propP s b).cur (propP s b).fin else prop4 s b := rfl
theorem ok_prop1 {s : St} (h : s.ok) {b : Bk} (hw : b.wf) (he : proposeE s b = 0) : (prop1 s b).1.ok := ok_attests true _ _ (ok_laid h hw he) hw.2.2.2.1
theorem ok_prop2 {s : St} (h : s.ok) {b : Bk} (hw : b.wf) (he : proposeE s b = 0) : (prop2 s b).1.ok := ok_slashes _ _ (ok_prop1 h hw he)
theorem ok_prop3 {s : St} (h : s.ok) {b : Bk} (hw : b.wf) (he : proposeE s b = 0) : (prop3 s b).1.ok := ok_boost (ok_prop2 h hw he) hw
theorem ok_prop4 {s : St} (h : s.ok) {b : Bk} (hw : b.wf) (he : proposeE s b = 0) : (prop4 s b).1.ok := by
 obtain ⟨a1, a2⟩ := ledgerP_ok h hw he
 exact ok_raise (ok_prop3 h hw he) a1.j.2.1 a2.c a1.j.2.2 a2.f
theorem raiseS_c (x : SC) (j f : Pt) : (raiseS x j f).1.c = x.1.c := by
 have : (raiseJ x.1 j).c = x.1.c := by unfold raiseJ; split <;> rfl
 unfold raiseS
 simp only
 split
 ·exact this
 ·exact this
theorem attestS_c (x : SC) (v : Vt) (i : Bool) : (attestS x v i).1.c = x.1.c := by
 unfold attestS
 split
 ·exact (moveAll_bd _ _ _ x).2.1
 ·rfl
theorem slashS_c (x : SC) (p : Pf) : (slashS x p).1.c = x.1.c := (banAll_bd _ x).2.1
theorem attests_c (i : Bool) (vs : List Vt) : ∀ (x : SC), (vs.foldl (fun x v => attestS x v i) x).1.c = x.1.c := by
 induction vs with
 | nil => intro x; rfl
 | cons a l ih => intro x; exact (ih _).trans (attestS_c x a i)
theorem slashes_c (ps : List Pf) : ∀ (x : SC), (ps.foldl slashS x).1.c = x.1.c := by
 induction ps with
 | nil => intro x; rfl
 | cons a l ih => intro x; exact (ih _).trans (slashS_c x a)
theorem boostS_c (s : St) (b : Bk) : (boostS s b).c = s.c := by unfold boostS; split <;> rfl
theorem prop4_c (s : St) (b : Bk) : (prop4 s b).1.c = s.c := by
 unfold prop4
 rw [raiseS_c]
 show (boostS (prop2 s b).1 b).c = s.c
 rw [boostS_c]
 unfold prop2
 rw [slashes_c]
 unfold prop1
 rw [attests_c]
 rfl
theorem propP_ok {s : St} (h : s.ok) {b : Bk} (hw : b.wf) (he : proposeE s b = 0) : JsB (propP s b) ∧ LsU { ledgerP s b with j := propP s b } := by
 obtain ⟨a1, a2⟩ := ledgerP_ok h hw he
 have h4 := ok_prop4 h hw he
 unfold propP
 refine ⟨pullL_ok (by rw [prop4_c]; exact a1), pullL_U (atT_inU h4.t b.root) a2⟩
theorem ok_propose {s : St} (h : s.ok) {b : Bk} (hw : b.wf) (he : proposeE s b = 0) : (proposeS s b).1.ok := by
 rw [proposeS_eq]
 have h4 := ok_prop4 h hw he
 obtain ⟨p1, p2⟩ := propP_ok h hw he
 split
 ·exact ok_raise h4 p1.2.1 p2.c p1.2.2 p2.f
 ·exact h4
theorem ok_apply {s : St} (h : s.ok) {e : Ev} (hw : e.wf) : (applyS s e).1.1.ok := by
 unfold applyS
 split
 ·have := ok_tick h e.slot
  unfold tickS tickE at this
  split
  ·exact h
  ·rename_i h1
   split
   ·exact h
   ·rename_i h2
    rw [if_neg h1, if_neg h2, if_pos rfl] at this
    exact this
 ·split
  ·split
   ·rename_i he
    exact ok_propose h hw.2.2.1 he
   ·exact h
  ·split
   ·exact ok_attest (x := (s, [])) h hw.2.2.2.1 false
   ·split
    ·exact ok_slash (x := (s, [])) h e.proof
    ·exact h
theorem ok_of {c : Cf} (h : c.ok) : (St.of c).ok := by
 have z : inU 0 := ⟨Int.le_refl _, by omega⟩
 have o : inU 1 := ⟨by omega, by omega⟩
 refine ⟨h, ⟨?_, by simp [St.of, Tr.of, Tr.has, lk_cons], ?_, ?_, ?_⟩, by simp [St.of], Int.le_refl _, by show (0 : Int) ≤ _; omega, z, ⟨Int.le_refl _, by show (0 : Int) ≤ _; omega⟩, o, ⟨Int.le_refl _, by show (0 : Int) ≤ _; omega⟩, o, ?_, ?_, ?_, ?_, ?_, ?_, ?_⟩
 ·simp [St.of, Tr.of, keys]
 ·intro p hp
  simp only [St.of, Tr.of, List.mem_singleton] at hp
  subst hp
  simp
 ·intro r hr hf
  exfalso
  unfold Tr.has at hr
  simp only [St.of, Tr.of, lk_cons, lk_nil] at hr hf
  rw [if_neg hf] at hr
  cases hr
 ·simp [St.of, Tr.of]
 ·intro x hx
  have := List.eq_of_mem_replicate hx
  subst this
  exact ⟨⟨Int.le_refl _, by show (0 : Int) ≤ _; omega⟩, z⟩
 ·intro r l e
  simp only [St.of, lk_cons, lk_nil] at e
  split at e
  ·injection e with e
   subst e
   refine ⟨⟨⟨Int.le_refl _, ?_⟩, ⟨Int.le_refl _, ?_⟩, Int.le_refl _, ?_⟩, Int.le_refl _, ?_, by simp [openL, St.of], by simp [openL, St.of]⟩ <;> show (0 : Int) ≤ 1099511627776 <;> omega
  ·cases e
 ·intro r hr
  unfold Tr.has at hr
  simp only [St.of, Tr.of, lk_cons, lk_nil] at hr ⊢
  split at hr
  ·rename_i e; rw [if_pos e]; rfl
  ·cases hr
 ·intro r b hm; simp [St.of] at hm
 ·intro r hm; simp [St.of, keys] at hm; subst hm; exact o
 ·simp [St.of, keys]
 ·intro r l e
  simp only [St.of, lk_cons, lk_nil] at e
  split at e
  ·injection e with e
   subst e
   exact ⟨o, o, o⟩
  ·cases e
end Go.Proofs.YtnppimhlfcjghaaGreat
