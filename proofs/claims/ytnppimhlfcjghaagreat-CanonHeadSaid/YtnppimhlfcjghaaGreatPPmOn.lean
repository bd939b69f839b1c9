import Derived.Test.YtnppimhlfcjghaaGreatPPmVotes
set_option linter.all false
set_option linter.unusedVariables false
set_option linter.unusedSimpArgs false
namespace Go.Proofs.YtnppimhlfcjghaaGreat
open Go.RowKit
theorem Tr.at_below {t : Tr} (hok : t.ok) {r : Int} (hr : t.has r = true) (q : Int) : t.below r (t.at_ r q) = true := by
 obtain ⟨h1, h2, h3, h4⟩ := Tr.at_props hok q r hr
 rcases h4 with h4 | h4
 ·rw [h4]; exact Tr.below_first hok r hr
 ·refine Tr.below_of hr h1 ?_
  rw [← Tr.at_at hok h4 r hr, Tr.at_step hok h1, if_neg (fun c => by omega)]
theorem Tr.cut_at {t : Tr} (hok : t.ok) {root : Int} (hh : t.has root = true) (q : Int) (hq : (t.nd root).slot ≤ q) : ∀ r, (t.cut root).has r = true → (t.cut root).at_ r q = t.at_ r q := by
 have hc := Tr.cut_ok hok hh
 refine Tr.climb hc _ (fun r hr ih => ?_)
 have hb : t.below r root = true := by rw [← Tr.cut_has hok hh]; exact hr
 have hr0 := (Tr.below_has hb).1
 rw [Tr.at_step hc hr, Tr.at_step hok hr0, Tr.cut_slot hok hh hb]
 by_cases hrt : r = root
 ·rw [if_neg (fun c => c.1 hrt), if_neg (fun c => by rw [hrt] at c; omega)]
 ·obtain ⟨p1, p2, p3⟩ := Tr.below_parent hok hb hrt
  have hf : r ≠ (t.cut root).first := hrt
  have e : ((t.cut root).nd r).parent = (t.nd r).parent := by rw [Tr.cut_nd hok hh hb, if_neg hrt]
  have ih' := ih hf
  rw [e] at ih' ⊢
  by_cases hs : q < (t.nd r).slot
  ·rw [if_pos ⟨hf, hs⟩, if_pos ⟨p1, hs⟩]; exact ih'
  ·rw [if_neg (fun c => hs c.2), if_neg (fun c => hs c.2)]
theorem Tr.cut_below {t : Tr} (hok : t.ok) {root : Int} (hh : t.has root = true) {r x : Int} (hr : (t.cut root).has r = true) (hx : (t.cut root).has x = true) : (t.cut root).below r x = t.below r x := by
 have hxb : t.below x root = true := by rw [← Tr.cut_has hok hh]; exact hx
 have hrb : t.below r root = true := by rw [← Tr.cut_has hok hh]; exact hr
 unfold Tr.below
 rw [hr, hx, (Tr.below_has hxb).1, (Tr.below_has hrb).1, Tr.cut_slot hok hh hxb, Tr.cut_at hok hh _ (Tr.below_le hok hxb).1 r hr]
structure PtsOf (Q : Int → Prop) (l : Ls) : Prop where
 p : Q l.j.prev.r
 c : Q l.j.cur.r
 f : Q l.j.fin.r
theorem PtsOf.mono {Q Q' : Int → Prop} {l : Ls} (h : PtsOf Q l) (hq : ∀ r, Q r → Q' r) : PtsOf Q' l := ⟨hq _ h.p, hq _ h.c, hq _ h.f⟩
theorem pts_pull {Q : Int → Prop} {c : Cf} {l : Ls} {f : Int → Int} (hf : ∀ s, Q (f s)) (h : PtsOf Q l) : PtsOf Q { l with j := pullL c l f } := by
 obtain ⟨p, cu, fi⟩ := h
 unfold pullL
 split
 ·exact ⟨p, cu, fi⟩
 ·unfold nextJ
  refine ⟨cu, ?_, ?_⟩
  ·show Q (Pt.r (if _ then _ else _))
   split
   ·exact hf _
   ·split
    ·exact hf _
    ·exact cu
  ·show Q (Pt.r (if _ then _ else _))
   split
   ·exact cu
   ·split
    ·exact cu
    ·split
     ·exact p
     ·split
      ·exact p
      ·exact fi
theorem pts_step {Q : Int → Prop} {c : Cf} {l : Ls} {f : Int → Int} (hf : ∀ s, Q (f s)) (h : PtsOf Q l) (e : Int) : PtsOf Q (stepL c f l e) := by
 have := pts_pull (c := c) hf h
 exact ⟨this.p, this.c, this.f⟩
theorem pts_steps {Q : Int → Prop} {c : Cf} {f : Int → Int} (hf : ∀ s, Q (f s)) (es : List Int) : ∀ (l : Ls), PtsOf Q l → PtsOf Q (es.foldl (stepL c f) l) := by
 induction es with
 | nil => intro l h; exact h
 | cons a r ih => intro l h; exact ih _ (pts_step hf h a)
theorem pts_counts {Q : Int → Prop} {c : Cf} {f : Int → Int} (vs : List Vt) : ∀ (l : Ls), PtsOf Q l → PtsOf Q (vs.foldl (countL c f) l) := by
 induction vs with
 | nil => intro l h; exact h
 | cons a r ih =>
  intro l h
  have e := (countL_j (c := c) (f := f) (l := l) a).1
  exact ih _ ⟨by rw [e]; exact h.p, by rw [e]; exact h.c, by rw [e]; exact h.f⟩
def St.isGone (s : St) (r : Int) : Prop := (lk s.gone r).getD false = true
structure St.on (s : St) : Prop where
 led : ∀ r l, s.tree.has r = true → lk s.ledgers r = some l → PtsOf (fun x => s.tree.below r x = true ∨ s.isGone x) l
 gn : ∀ r, s.isGone r → s.tree.has r = false
structure SameL (s s' : St) : Prop where
 t : s'.tree = s.tree
 l : s'.ledgers = s.ledgers
 g : s'.gone = s.gone
theorem SameL.refl (s : St) : SameL s s := ⟨rfl, rfl, rfl⟩
theorem SameL.trans {a b c : St} (h : SameL a b) (k : SameL b c) : SameL a c := ⟨k.t.trans h.t, k.l.trans h.l, k.g.trans h.g⟩
theorem SameL.gone {s s' : St} (h : SameL s s') (r : Int) : s'.isGone r ↔ s.isGone r := by unfold St.isGone; rw [h.g]
theorem SameL.on {s s' : St} (h : SameL s s') (ho : s.on) : s'.on := by
 refine ⟨fun r l hr hl => ?_, fun r hr => ?_⟩
 ·rw [h.t] at hr
  rw [h.l] at hl
  refine (ho.led r l hr hl).mono (fun x hx => ?_)
  rw [h.t, h.gone]
  exact hx
 ·rw [h.t]; exact ho.gn r ((h.gone r).1 hr)
theorem same_gone_boost (s : St) (b : Bk) : SameL s (boostS s b) := by
 unfold boostS
 split <;> exact ⟨rfl, rfl, rfl⟩
theorem sameL_moveAll (e r : Int) (who : List Int) : ∀ x : SC, SameL x.1 (who.foldl (moveOne e r) x).1 := by
 induction who with
 | nil => intro x; exact SameL.refl _
 | cons a l ih =>
  intro x
  have : SameL x.1 (moveOne e r x a).1 := by unfold moveOne; split <;> exact ⟨rfl, rfl, rfl⟩
  exact this.trans (ih _)
theorem sameL_attest (x : SC) (v : Vt) (i : Bool) : SameL x.1 (attestS x v i).1 := by
 unfold attestS
 split
 ·exact sameL_moveAll _ _ _ _
 ·exact SameL.refl _
theorem sameL_banAll (who : List Int) : ∀ x : SC, SameL x.1 (who.foldl banOne x).1 := by
 induction who with
 | nil => intro x; exact SameL.refl _
 | cons a l ih =>
  intro x
  have : SameL x.1 (banOne x a).1 := by unfold banOne; split <;> exact ⟨rfl, rfl, rfl⟩
  exact this.trans (ih _)
theorem sameL_slash (x : SC) (p : Pf) : SameL x.1 (slashS x p).1 := sameL_banAll _ _
theorem sameL_attests (i : Bool) (vs : List Vt) : ∀ x : SC, SameL x.1 (vs.foldl (fun x v => attestS x v i) x).1 := by
 induction vs with
 | nil => intro x; exact SameL.refl _
 | cons a l ih => intro x; exact (sameL_attest x a i).trans (ih _)
theorem sameL_slashes (ps : List Pf) : ∀ x : SC, SameL x.1 (ps.foldl slashS x).1 := by
 induction ps with
 | nil => intro x; exact SameL.refl _
 | cons a l ih => intro x; exact (sameL_slash x a).trans (ih _)
theorem putAll_lk (ks : List Int) : ∀ (l : List (Int × Bool)) (k : Int), lk (putAll l ks) k = if k ∈ ks then some true else lk l k := by
 induction ks with
 | nil => intro l k; simp [putAll]
 | cons a r ih =>
  intro l k
  show lk (putAll (put l a true) r) k = _
  rw [ih, lk_put]
  by_cases h1 : k ∈ r
  ·simp [h1]
  ·by_cases h2 : k = a
   ·simp [h2]
   ·simp [h1, h2]
def St.onQ (s : St) (r y : Int) : Prop := s.tree.below r y = true ∨ s.isGone y
theorem on_laid {s : St} (h : s.ok) (ho : s.on) {b : Bk} (hw : b.wf) (he : proposeE s b = 0) : (laidS s b).on ∧ PtsOf ((laidS s b).onQ b.root) (ledgerP s b) := by
 have e6 := (proposeE_ok he).2.2.2.2.2
 have eg := (proposeE_ok he).2.2.2.2.1
 have hA := addT_ok h hw he
 obtain ⟨a1, a2, a3, a4⟩ := Tr.addE_ok e6
 have hroot : (s.tree.add b.root b.parent b.slot).has b.root = true := by rw [Tr.add_has]; simp
 have hrf : b.root ≠ (s.tree.add b.root b.parent b.slot).first := fun e => by
  have hf := h.t.fst
  have e' : b.root = s.tree.first := e
  rw [← e', a1] at hf
  cases hf
 have hpar : ((s.tree.add b.root b.parent b.slot).nd b.root).parent = b.parent := by rw [Tr.add_nd, if_pos rfl]
 have up : ∀ y, s.tree.below b.parent y = true → (s.tree.add b.root b.parent b.slot).below b.root y = true := fun y hy => by
  refine Tr.below_child hA hroot hrf ?_
  rw [hpar, Tr.add_below h.t e6 hA a2 (Tr.below_has hy).2.1]
  exact hy
 obtain ⟨L0, hL0⟩ := (advP_ok h hw he).2.2
 have hp0 : PtsOf ((laidS s b).onQ b.root) L0 := (ho.led _ _ a2 hL0).mono (fun y hy => hy.imp (up y) id)
 have hat : ∀ q, (laidS s b).onQ b.root ((s.tree.add b.root b.parent b.slot).at_ b.root q) := fun q => .inl (Tr.at_below hA hroot q)
 have hL : PtsOf ((laidS s b).onQ b.root) (ledgerP s b) := by
  unfold ledgerP advanceL
  rw [hL0]
  exact pts_counts _ _ (pts_steps hat _ _ hp0)
 refine ⟨⟨fun r l hr hl => ?_, fun r hr => ?_⟩, hL⟩
 ·have hl' : lk (put s.ledgers b.root (ledgerP s b)) r = some l := hl
  rw [lk_put] at hl'
  by_cases hrr : r = b.root
  ·rw [if_pos hrr] at hl'
   injection hl' with hl'
   subst hrr hl'
   exact hL
  ·rw [if_neg hrr] at hl'
   have hr' : (s.tree.add b.root b.parent b.slot).has r = true := hr
   rw [Tr.add_has] at hr'
   have hr0 : s.tree.has r = true := by simpa [hrr] using hr'
   refine (ho.led r l hr0 hl').mono (fun y hy => hy.imp (fun hb => ?_) id)
   show (s.tree.add b.root b.parent b.slot).below r y = true
   rw [Tr.add_below h.t e6 hA hr0 (Tr.below_has hb).2.1]
   exact hb
 ·show (s.tree.add b.root b.parent b.slot).has r = false
  have hg : s.isGone r := hr
  rw [Tr.add_has, ho.gn r hg]
  have : r ≠ b.root := fun e => by
   unfold St.isGone at hg
   rw [e, eg] at hg
   cases hg
  simp [this]
theorem on_raise {x : SC} (h : x.1.ok) (ho : x.1.on) (j f : Pt) : (raiseS x j f).1.on ∧ (∀ r, x.1.tree.has r = true → x.1.onQ r f.r → (raiseS x j f).1.tree.has r = true) ∧ (∀ r y, (raiseS x j f).1.tree.has r = true → x.1.onQ r y → (raiseS x j f).1.onQ r y) := by
 have hs : SameL x.1 (raiseJ x.1 j) := by unfold raiseJ; split <;> exact ⟨rfl, rfl, rfl⟩
 unfold raiseS
 simp only
 split
 ·refine ⟨hs.on ho, fun r hr _ => by rw [hs.t]; exact hr, fun r y _ hy => ?_⟩
  unfold St.onQ
  rw [hs.t, hs.gone]
  exact hy
 ·rename_i hc
  simp only [not_or, Bool.not_eq_false, Int.not_le] at hc
  have c2 := hc.2.1
  rw [hs.t] at c2
  have hh := (Tr.below_has c2).1
  have ht : (cutS (raiseJ x.1 j) f).tree = x.1.tree.cut f.r := by show (raiseJ x.1 j).tree.cut f.r = _; rw [hs.t]
  have hg : ∀ y, (cutS (raiseJ x.1 j) f).isGone y ↔ (y ∈ x.1.tree.gone f.r ∨ x.1.isGone y) := fun y => by
   show (lk (putAll (raiseJ x.1 j).gone ((raiseJ x.1 j).tree.gone f.r)) y).getD false = true ↔ _
   rw [putAll_lk, hs.t, hs.g]
   by_cases hm : y ∈ x.1.tree.gone f.r
   ·simp [hm]
   ·simp [hm, St.isGone]
  have hq : ∀ r y, (x.1.tree.cut f.r).has r = true → x.1.onQ r y → (cutS (raiseJ x.1 j) f).onQ r y := fun r y hr hy => by
   rcases hy with hb | hb
   ·cases hyy : (x.1.tree.cut f.r).has y with
    | true =>
     left
     rw [ht, Tr.cut_below h.t hh hr hyy]
     exact hb
    | false =>
     right
     rw [hg]
     left
     rw [Tr.mem_gone]
     refine ⟨(Tr.below_has hb).2.1, ?_⟩
     rw [← Tr.cut_has h.t hh]
     exact hyy
   ·right
    rw [hg]
    exact .inr hb
  refine ⟨⟨fun r l hr hl => ?_, fun r hr => ?_⟩, fun r hr hq1 => ?_, fun r y hr hy => ?_⟩
  ·rw [ht] at hr
   have hr0 : x.1.tree.below r f.r = true := by rw [← Tr.cut_has h.t hh]; exact hr
   have hl' : lk (delAll (raiseJ x.1 j).ledgers ((raiseJ x.1 j).tree.gone f.r)) r = some l := hl
   rw [hs.t, hs.l, (delAll_keys _ _ h.ln).2.2] at hl'
   split at hl'
   ·cases hl'
   ·exact (ho.led r l (Tr.below_has hr0).1 hl').mono (fun y hy => hq r y hr hy)
  ·rw [ht]
   rcases (hg r).1 hr with h1 | h1
   ·rw [Tr.cut_has h.t hh]
    exact (Tr.mem_gone.1 h1).2
   ·have := ho.gn r h1
    rw [Tr.cut_has h.t hh]
    cases hb : x.1.tree.below r f.r with
    | false => rfl
    | true => rw [(Tr.below_has hb).1] at this; cases this
  ·show (cutS (raiseJ x.1 j) f).tree.has r = true
   rw [ht, Tr.cut_has h.t hh]
   rcases hq1 with h1 | h1
   ·exact h1
   ·rw [ho.gn _ h1] at hh; cases hh
  ·have hr' : (cutS (raiseJ x.1 j) f).tree.has r = true := hr
   rw [ht] at hr'
   exact hq r y hr' hy
end Go.Proofs.YtnppimhlfcjghaaGreat
namespace Go.Proofs.YtnppimhlfcjghaaGreat
open Go.RowKit
theorem SameL.onQ {s s' : St} (h : SameL s s') {r y : Int} (hy : s.onQ r y) : s'.onQ r y := by
 unfold St.onQ
 rw [h.t, h.gone]
 exact hy
theorem on_propose {s : St} (h : s.ok) (ho : s.on) {b : Bk} (hw : b.wf) (he : proposeE s b = 0) : (proposeS s b).1.on ∧ (proposeS s b).1.tree.has b.root = true := by
 obtain ⟨o0, hL⟩ := on_laid h ho hw he
 have s1 : SameL (laidS s b) (prop1 s b).1 := sameL_attests true b.votes (laidS s b, [⟨0, b.root, b.parent, 0, 0, false⟩])
 have s2 : SameL (prop1 s b).1 (prop2 s b).1 := sameL_slashes b.proofs (prop1 s b)
 have s3 : SameL (prop2 s b).1 (prop3 s b).1 := same_gone_boost _ b
 have s03 := (s1.trans s2).trans s3
 have o3 := s03.on o0
 have hL3 : PtsOf ((prop3 s b).1.onQ b.root) (ledgerP s b) := hL.mono (fun y hy => s03.onQ hy)
 have r3 : (prop3 s b).1.tree.has b.root = true := by
  rw [s03.t]
  show (s.tree.add b.root b.parent b.slot).has b.root = true
  rw [Tr.add_has]; simp
 obtain ⟨o4, h4, q4⟩ := on_raise (ok_prop3 h hw he) o3 (ledgerP s b).j.cur (ledgerP s b).j.fin
 have r4 : (prop4 s b).1.tree.has b.root = true := h4 _ r3 hL3.f
 have hL4 : PtsOf ((prop4 s b).1.onQ b.root) (ledgerP s b) := hL3.mono (fun y hy => q4 _ _ r4 hy)
 have hP : PtsOf ((prop4 s b).1.onQ b.root) { ledgerP s b with j := propP s b } := pts_pull (fun q => .inl (Tr.at_below (ok_prop4 h hw he).t r4 q)) hL4
 rw [proposeS_eq]
 split
 ·obtain ⟨o5, h5, _⟩ := on_raise (ok_prop4 h hw he) o4 (propP s b).cur (propP s b).fin
  exact ⟨o5, h5 _ r4 hP.f⟩
 ·exact ⟨o4, r4⟩
theorem on_apply {s : St} (h : s.ok) (ho : s.on) {e : Ev} (hw : e.wf) : (applyS s e).1.1.on := by
 unfold applyS
 split
 ·split
  ·exact ho
  ·split
   ·exact ho
   ·exact ⟨ho.led, ho.gn⟩
 ·split
  ·split
   ·rename_i he
    exact (on_propose h ho hw.2.2.1 he).1
   ·exact ho
  ·split
   ·exact (sameL_attest (s, []) e.vote false).on ho
   ·split
    ·exact (sameL_slash (s, []) e.proof).on ho
    ·exact ho
theorem on_of {c : Cf} (h : c.ok) : (St.of c).on := by
 refine ⟨fun r l hr hl => ?_, fun r hr => ?_⟩
 ·have hk := (ok_of h).t
  simp only [St.of, lk_cons, lk_nil] at hl
  split at hl
  ·rename_i e
   injection hl with hl
   subst e hl
   have hb : (St.of c).tree.below 1 1 = true := Tr.below_self hk hk.fst
   exact ⟨.inl hb, .inl hb, .inl hb⟩
  ·cases hl
 ·simp [St.isGone, St.of, lk_nil] at hr
theorem raise_chg (x : SC) (j f : Pt) : ((raiseS x j f).2 = x.2 ∧ (raiseS x j f).1.fin = x.1.fin) ∨ ((raiseS x j f).2 = x.2 ++ [⟨3, f.r, 0, 0, 0, false⟩] ∧ (raiseS x j f).1.fin = f ∧ x.1.fin.e < f.e) := by
 have hf : (raiseJ x.1 j).fin = x.1.fin := by unfold raiseJ; split <;> rfl
 unfold raiseS
 simp only
 split
 ·exact .inl ⟨rfl, hf⟩
 ·rename_i hc
  simp only [not_or, Int.not_le] at hc
  refine .inr ⟨rfl, rfl, ?_⟩
  have := hc.1
  rw [hf] at this
  exact this
def Mids (c0 : Chg) (cs : List Chg) : Prop := ∃ ms : List Chg, cs = c0 :: ms ∧ ∀ c ∈ ms, c.kind = 1 ∨ c.kind = 2
theorem mids_app {c0 : Chg} {cs ds : List Chg} (h : Mids c0 cs) (hd : ∀ c ∈ ds, c.kind = 1 ∨ c.kind = 2) : Mids c0 (cs ++ ds) := by
 obtain ⟨ms, rfl, hm⟩ := h
 refine ⟨ms ++ ds, rfl, fun c hc => ?_⟩
 rcases List.mem_append.1 hc with h1 | h1
 ·exact hm c h1
 ·exact hd c h1
theorem mids_attest {c0 : Chg} {x : SC} (h : Mids c0 x.2) (v : Vt) (i : Bool) : Mids c0 (attestS x v i).2 := by
 unfold attestS
 split
 ·rename_i he
  rw [moves_eq _ _ _ _ (whoOk_nodup (rightB_epoch (attestE_right he).1).2.2.2.2.2)]
  refine mids_app h (fun c hc => ?_)
  obtain ⟨k, _, rfl⟩ := List.mem_map.1 hc
  exact .inl rfl
 ·exact h
theorem mids_slash {c0 : Chg} {x : SC} (h : Mids c0 x.2) (p : Pf) : Mids c0 (slashS x p).2 := by
 unfold slashS
 rw [bans_eq _ _ (slashWho_nodup _ _)]
 refine mids_app h (fun c hc => ?_)
 obtain ⟨k, _, rfl⟩ := List.mem_map.1 hc
 exact .inr rfl
theorem mids_attests {c0 : Chg} (i : Bool) (vs : List Vt) : ∀ x : SC, Mids c0 x.2 → Mids c0 (vs.foldl (fun x v => attestS x v i) x).2 := by
 induction vs with
 | nil => intro x h; exact h
 | cons a l ih => intro x h; exact ih _ (mids_attest h a i)
theorem mids_slashes {c0 : Chg} (ps : List Pf) : ∀ x : SC, Mids c0 x.2 → Mids c0 (ps.foldl slashS x).2 := by
 induction ps with
 | nil => intro x h; exact h
 | cons a l ih => intro x h; exact ih _ (mids_slash h a)
theorem adds_propose {s : St} (h : s.ok) (hi : s.inv) {b : Bk} (hw : b.wf) (he : proposeE s b = 0) :
    ∃ ms : List Chg, ∃ last : Chg, (proposeS s b).2 = ⟨0, b.root, b.parent, 0, 0, false⟩ :: ms ∧ (proposeS s b).2.getLast? = some last ∧ (last.kind = 3 ↔ (proposeS s b).1.fin ≠ s.fin) ∧ (last.kind = 3 → last.root = (proposeS s b).1.fin.r) := by
 have m1 : Mids ⟨0, b.root, b.parent, 0, 0, false⟩ (prop1 s b).2 := mids_attests true b.votes (laidS s b, [⟨0, b.root, b.parent, 0, 0, false⟩]) ⟨[], rfl, fun c hc => by cases hc⟩
 have m2 : Mids ⟨0, b.root, b.parent, 0, 0, false⟩ (prop2 s b).2 := mids_slashes b.proofs (prop1 s b) m1
 obtain ⟨ms, hms, hmk⟩ : Mids ⟨0, b.root, b.parent, 0, 0, false⟩ (prop3 s b).2 := m2
 have f3 : (prop3 s b).1.fin = s.fin := ((same_attests true b.votes (laidS s b, [⟨0, b.root, b.parent, 0, 0, false⟩])).trans ((same_slashes b.proofs (prop1 s b)).trans (same_boost (prop2 s b).1 b))).f
 have hlast : ∀ (ms : List Chg), (∀ c ∈ ms, c.kind = 1 ∨ c.kind = 2) → ∃ last : Chg, ((⟨0, b.root, b.parent, 0, 0, false⟩ : Chg) :: ms).getLast? = some last ∧ last.kind ≠ 3 := fun ms hm => by
  cases hl : ms.getLast? with
  | none =>
   have : ms = [] := by simpa using hl
   subst this
   exact ⟨⟨0, b.root, b.parent, 0, 0, false⟩, rfl, by show (0 : Int) ≠ 3; decide⟩
  | some c =>
   refine ⟨c, by rw [List.getLast?_cons, hl]; rfl, ?_⟩
   have := hm c (List.mem_of_getLast? hl)
   omega
 have r4 := raise_chg (prop3 s b) (ledgerP s b).j.cur (ledgerP s b).j.fin
 have r4' : ((prop4 s b).2 = (prop3 s b).2 ∧ (prop4 s b).1.fin = s.fin) ∨ ((prop4 s b).2 = (prop3 s b).2 ++ [⟨3, (ledgerP s b).j.fin.r, 0, 0, 0, false⟩] ∧ (prop4 s b).1.fin = (ledgerP s b).j.fin ∧ s.fin.e < (ledgerP s b).j.fin.e) := by
  rw [← f3]; exact r4
 have done : ∀ (y : SC) (ms' : List Chg) (f : Pt), y.2 = (⟨0, b.root, b.parent, 0, 0, false⟩ : Chg) :: ms' ++ [⟨3, f.r, 0, 0, 0, false⟩] → y.1.fin = f → s.fin.e < f.e → ∃ ms : List Chg, ∃ last : Chg, y.2 = ⟨0, b.root, b.parent, 0, 0, false⟩ :: ms ∧ y.2.getLast? = some last ∧ (last.kind = 3 ↔ y.1.fin ≠ s.fin) ∧ (last.kind = 3 → last.root = y.1.fin.r) := fun y ms' f h1 h2 h3 => by
  refine ⟨ms' ++ [⟨3, f.r, 0, 0, 0, false⟩], ⟨3, f.r, 0, 0, 0, false⟩, by rw [h1]; rfl, by rw [h1]; exact List.getLast?_concat, ⟨fun _ e => ?_, fun _ => rfl⟩, fun _ => by rw [h2]⟩
  rw [h2] at e
  rw [e] at h3
  omega
 have keep : ∀ (y : SC), y.2 = (prop3 s b).2 → y.1.fin = s.fin → ∃ ms : List Chg, ∃ last : Chg, y.2 = ⟨0, b.root, b.parent, 0, 0, false⟩ :: ms ∧ y.2.getLast? = some last ∧ (last.kind = 3 ↔ y.1.fin ≠ s.fin) ∧ (last.kind = 3 → last.root = y.1.fin.r) := fun y h1 h2 => by
  obtain ⟨last, l1, l2⟩ := hlast ms hmk
  exact ⟨ms, last, by rw [h1, hms], by rw [h1, hms]; exact l1, ⟨fun e => absurd e l2, fun e => absurd h2 e⟩, fun e => absurd e l2⟩
 rw [proposeS_eq]
 split
 ·have r5 := raise_chg (prop4 s b) (propP s b).cur (propP s b).fin
  rcases r4' with ⟨a1, a2⟩ | ⟨a1, a2, a3⟩
  ·rcases r5 with ⟨b1, b2⟩ | ⟨b1, b2, b3⟩
   ·exact keep _ (b1.trans a1) (b2.trans a2)
   ·exact done _ ms (propP s b).fin (by rw [b1, a1, hms]) b2 (by rw [← a2]; exact b3)
  ·rcases r5 with ⟨b1, b2⟩ | ⟨b1, b2, b3⟩
   ·exact done _ ms (ledgerP s b).j.fin (by rw [b1, a1, hms]) (b2.trans a2) a3
   ·exact done _ (ms ++ [⟨3, (ledgerP s b).j.fin.r, 0, 0, 0, false⟩]) (propP s b).fin (by rw [b1, a1, hms]; rfl) b2 (by rw [a2] at b3; omega)
 ·rcases r4' with ⟨a1, a2⟩ | ⟨a1, a2, a3⟩
  ·exact keep _ a1 a2
  ·exact done _ ms (ledgerP s b).j.fin (by rw [a1, hms]) a2 a3
theorem adds_other {s : St} {e : Ev} (h : (applyS s e).2 ≠ 0 ∨ e.kind ≠ 1) : ∀ c ∈ (applyS s e).1.2, c.kind = 1 ∨ c.kind = 2 := by
 by_cases h2 : e.kind = 2
 ·by_cases he : (applyS s e).2 = 0
  ·intro c hc
   rw [(votes_moved h2 he).1] at hc
   obtain ⟨k, _, rfl⟩ := List.mem_map.1 hc
   exact .inl rfl
  ·have : (applyS s e).1 = attestS (s, []) e.vote false ∧ (applyS s e).2 = attestE s e.vote false := by
      unfold applyS
      rw [if_neg (by omega), if_neg (by omega), if_pos h2]
      exact ⟨rfl, rfl⟩
   intro c hc
   rw [this.1, attestS, if_neg (by rw [← this.2]; exact he)] at hc
   cases hc
 ·by_cases h3 : e.kind = 3
  ·intro c hc
   rw [votes_banned h3] at hc
   obtain ⟨k, _, rfl⟩ := List.mem_map.1 hc
   exact .inr rfl
  ·have : (applyS s e).1.2 = [] := by
      unfold applyS at h ⊢
      split
      ·split
       ·rfl
       ·split <;> rfl
      ·rename_i h0
       rw [if_neg h0] at h
       split
       ·rename_i h1
        rw [if_pos h1] at h
        split
        ·rename_i he
         rw [if_pos he] at h
         rcases h with h | h
         ·exact absurd rfl h
         ·exact absurd h1 h
        ·rfl
       ·first
           | rfl
           | rw [if_neg h2, if_neg h3]
   rw [this]
   intro c hc
   cases hc
end Go.Proofs.YtnppimhlfcjghaaGreat
