import Derived.Test.YtnppimhlfcjghaaGreatPRange
import Derived.Test.YtnppimhlfcjghaaGreatPBase
import Derived.ProofKit
import Derived.Deep.Slices
import Derived.ChangeArms
set_option linter.all false
set_option linter.unusedVariables false
set_option linter.unusedSimpArgs false
namespace Go.Proofs.YtnppimhlfcjghaaGreat
open Go.RowKit Go.Deep
section
variable {H : Type} {enc : TypeId × Value → H} {P : Program} {w : World} {base : Nat} {spare : Nat → Bool} {held : Bool}
theorem trod_lie {α : Type} {t e : TypeId} {fuel : Nat} {cs : List Value} {x : DataW H × List MemPlace} (ht : P.underlying t = some (.slice e)) (h : DataW.trod enc P w base spare held fuel t cs = some x) (K : α → List Value → Prop) (wf : α → Prop) (sz : Nat) (hsz : P.cellsOf e = sz) (h0 : 0 < sz)
    (hK : ∀ fuel cs y, DataW.trod enc P w base spare held fuel e cs = some y → ∃ x : α, K x cs ∧ wf x) : ∃ A n c xs, cs = [.slice A n c] ∧ xs.length = n ∧ Fits n c ∧ Lie anyB K sz w A xs ∧ ∀ x ∈ xs, wf x := by
 rcases open_slice ht h with ⟨rfl, _⟩ | ⟨a, len, cap, m, n, D, Pl, rfl, hb, hl, hm, hmm, _, hel⟩
 ·exact ⟨none, 0, 0, [], rfl, rfl, ⟨Nat.le_refl _, Nat.zero_le _⟩, Lie.nil, by simp⟩
 ·have hlm : len ≤ m := by rw [hmm]; split <;> omega
  have key : ∀ k, k ≤ len → ∃ xs : List α, xs.length = k ∧ (∀ x ∈ xs, wf x) ∧ ∀ j x, xs[j]? = some x → ∃ cs', K x cs' ∧ cs'.length = sz ∧ ∀ i u, cs'[i]? = some u → w.cell? ((a.add (j * sz)).add i) = some u := by
   intro k
   induction k with
   | zero => intro _; exact ⟨[], rfl, by simp, by simp⟩
   | succ k ih =>
    intro hk
    obtain ⟨xs, hxl, hwf, hx⟩ := ih (by omega)
    obtain ⟨cs', hc, ht'⟩ := hel k (by omega)
    obtain ⟨y, hy, hyw⟩ := hK _ _ _ ht'
    obtain ⟨_, hcl, hcc⟩ := World.cells?_some hc
    rw [hsz] at hcl hcc
    refine ⟨xs ++ [y], by simp [hxl], by
     intro z hz
     rcases List.mem_append.1 hz with hz | hz
     ·exact hwf z hz
     ·obtain rfl : z = y := by simpa using hz
      exact hyw, ?_⟩
    intro j x hj
    rcases Nat.lt_or_ge j xs.length with h1 | h1
    ·rw [List.getElem?_append_left h1] at hj; exact hx j x hj
    ·rw [List.getElem?_append_right h1] at hj
     have hj0 : j = k := by
      have := (List.getElem?_eq_some_iff.1 hj).1
      simp at this; omega
     subst hj0
     rw [hxl, Nat.sub_self] at hj
     obtain rfl : y = x := by simpa using hj
     refine ⟨cs', hy, hcl, fun i u hi => ?_⟩
     rw [← hi]
     exact hcc i (by have := (List.getElem?_eq_some_iff.1 hi).1; omega)
  obtain ⟨xs, hxl, hwf, hx⟩ := key len (Nat.le_refl _)
  refine ⟨some a, len, cap, xs, rfl, hxl, ⟨hl, Nat.le_trans hl hm⟩, ?_, hwf⟩
  intro hpos
  obtain ⟨b, o, sp⟩ := a
  have hsp : sp = none := by
   obtain ⟨cs', _, hcl, hc⟩ := hx 0 _ (List.getElem?_eq_getElem hpos)
   have := hc 0 _ (List.getElem?_eq_getElem (by omega))
   simp [Addr.add] at this
   simp [World.cell?] at this
   split at this
   ·split at this
    ·cases this
    ·rename_i hs; simpa using hs
   ·cases this
  subst hsp
  refine ⟨b, o, rfl, trivial, fun j x hj => ?_⟩
  obtain ⟨cs', hy, hcl, hc⟩ := hx j x hj
  refine ⟨cs', hy, hcl, fun i u hi => ?_⟩
  have := hc i u hi
  have ha : ((⟨b, o, none⟩ : Addr).add (j * sz)).add i = ⟨b, o + (j * sz + i), none⟩ := by
   unfold Addr.add
   by_cases h1 : j * sz = 0 <;> by_cases h2 : i = 0 <;> simp [h1, h2, Nat.add_assoc]
  rwa [ha] at this
theorem trod_inI {t : TypeId} {fuel : Nat} {cs : List Value} {x : DataW H × List MemPlace} (ht : P.underlying t = some (.int .i64)) (h : DataW.trod enc P w base spare held fuel t cs = some x) : ∃ n, cs = [.int .i64 n] ∧ inI n := by
 obtain ⟨n, rfl, _, hw⟩ := DataW.trod_int ht h
 refine ⟨n, rfl, ?_⟩
 simp [Lit.wf, IntKind.min, IntKind.max, IntKind.bits, IntKind.signed] at hw
 unfold inI; omega
theorem trod_inU {t : TypeId} {fuel : Nat} {cs : List Value} {x : DataW H × List MemPlace} (ht : P.underlying t = some (.int .u64)) (h : DataW.trod enc P w base spare held fuel t cs = some x) : ∃ n, cs = [.int .u64 n] ∧ inU n := by
 obtain ⟨n, rfl, _, hw⟩ := DataW.trod_int ht h
 refine ⟨n, rfl, ?_⟩
 simp [Lit.wf, IntKind.min, IntKind.max, IntKind.bits, IntKind.signed] at hw
 unfold inU; omega
theorem trod_field {t : TypeId} {fs : Array Field} {fuel : Nat} {cs : List Value} {x : DataW H × List MemPlace} (ht : P.underlying t = some (.struct fs)) (h : DataW.trod enc P w base spare held fuel t cs = some x) :
    cs.length = P.cellsOf t ∧ ∀ (i : Nat) (u : TypeId) (off sz : Nat), (fs[i]?).map (fun f => (f.type, f.offset)) = some (u, off) → P.cellsOf u = sz → ∃ n y, DataW.trod enc P w base spare held n u ((cs.drop off).take sz) = some y := by
 obtain ⟨xs, n, rfl, _, hl, hxl, hf⟩ := DataW.trod_struct ht h
 refine ⟨hl, fun i u off sz hi hs => ?_⟩
 obtain ⟨f, hi2, he⟩ := Option.map_eq_some_iff.1 hi
 simp only [Prod.mk.injEq] at he
 obtain ⟨rfl, rfl⟩ := he
 subst hs
 have hi' : i < xs.length := by
  have := (Array.getElem?_eq_some_iff.1 hi2).1
  omega
 exact ⟨n, xs[i], by rw [hf i f hi2]; exact List.getElem?_eq_getElem hi'⟩
end
theorem cellsPt : Tryz.prog.cellsOf 38 = 2 := by kernel_rfl
theorem cellsVt : Tryz.prog.cellsOf 53 = 7 := by kernel_rfl
theorem cellsPf : Tryz.prog.cellsOf 55 = 14 := by kernel_rfl
theorem cellsBk : Tryz.prog.cellsOf 50 = 5 := by kernel_rfl
theorem cellsEv : Tryz.prog.cellsOf 57 = 28 := by kernel_rfl
theorem cellsI : Tryz.prog.cellsOf 3 = 1 := by kernel_rfl
theorem cellsU : Tryz.prog.cellsOf 23 = 1 := by kernel_rfl
theorem cellsU8 : Tryz.prog.cellsOf 5 = 1 := by kernel_rfl
theorem cellsIs : Tryz.prog.cellsOf 51 = 1 := by kernel_rfl
theorem cellsVs : Tryz.prog.cellsOf 47 = 1 := by kernel_rfl
theorem cellsPs : Tryz.prog.cellsOf 48 = 1 := by kernel_rfl
theorem cellsKd : Tryz.prog.cellsOf 46 = 1 := by kernel_rfl
section
variable {H : Type} {enc : TypeId × Value → H} {w : World} {base : Nat} {spare : Nat → Bool} {held : Bool} {fuel : Nat} {cs : List Value} {x : DataW H × List MemPlace}
theorem list_two {α : Type} {l : List α} (h : l.length = 2) : ∃ a b, l = [a, b] := by
 match l, h with | [a, b], _ => exact ⟨a, b, rfl⟩
theorem trod_pt (h : DataW.trod enc Tryz.prog w base spare held fuel 38 cs = some x) : ∃ p : Pt, cs = ptC p ∧ p.wf := by
 obtain ⟨hl, hf⟩ := trod_field Tryz.underlying38 h
 rw [cellsPt] at hl
 obtain ⟨a, b, rfl⟩ := list_two hl
 obtain ⟨n0, y0, h0⟩ := hf 0 _ 0 1 rfl cellsI
 obtain ⟨n1, y1, h1⟩ := hf 1 _ 1 1 rfl cellsU
 simp only [List.drop_zero, List.drop_succ_cons, List.take_succ_cons, List.take_zero] at h0 h1
 obtain ⟨e, he, w0⟩ := trod_inI Tryz.underlying3 h0
 obtain ⟨r, hr, w1⟩ := trod_inU Tryz.underlying23 h1
 cases he; cases hr
 exact ⟨⟨e, r⟩, rfl, w0, w1⟩
theorem trod_is (h : DataW.trod enc Tryz.prog w base spare held fuel 51 cs = some x) : ∃ A n c xs, cs = [.slice A n c] ∧ xs.length = n ∧ Fits n c ∧ Ints anyB .i64 w A xs ∧ ∀ x ∈ xs, inI x :=
 trod_lie Tryz.underlying51 h (one (Value.int .i64)) inI 1 cellsI (by decide) (fun _ _ _ hy => by
  obtain ⟨n, rfl, hn⟩ := trod_inI Tryz.underlying3 hy
  exact ⟨n, rfl, hn⟩)
theorem split_app {α : Type} (l : List α) (n : Nat) : l = l.take n ++ l.drop n := (List.take_append_drop n l).symm
theorem trod_vt (h : DataW.trod enc Tryz.prog w base spare held fuel 53 cs = some x) : ∃ v : Vt, VtK anyB w v cs ∧ v.wf := by
 obtain ⟨hl, hf⟩ := trod_field Tryz.underlying53 h
 rw [cellsVt] at hl
 obtain ⟨n0, y0, h0⟩ := hf 0 _ 0 1 rfl cellsI
 obtain ⟨n1, y1, h1⟩ := hf 1 _ 1 1 rfl cellsU
 obtain ⟨n2, y2, h2⟩ := hf 2 _ 2 2 rfl cellsPt
 obtain ⟨n3, y3, h3⟩ := hf 3 _ 4 2 rfl cellsPt
 obtain ⟨n4, y4, h4⟩ := hf 4 _ 6 1 rfl cellsIs
 match cs, hl with
 | [a0, a1, a2, a3, a4, a5, a6], _ =>
  simp only [List.drop_zero, List.drop_succ_cons, List.take_succ_cons, List.take_zero] at h0 h1 h2 h3 h4
  obtain ⟨s, hs, w0⟩ := trod_inI Tryz.underlying3 h0
  obtain ⟨r, hr, w1⟩ := trod_inU Tryz.underlying23 h1
  obtain ⟨p, hp, w2⟩ := trod_pt h2
  obtain ⟨q, hq, w3⟩ := trod_pt h3
  obtain ⟨A, n, c, xs, hi, hxl, hfit, hx, w4⟩ := trod_is h4
  cases hs; cases hr; cases hp; cases hq; cases hi
  subst hxl
  exact ⟨⟨s, r, p, q, xs⟩, ⟨A, c, rfl, hfit, hx⟩, w0, w1, w2, w3, w4⟩
theorem trod_pf (h : DataW.trod enc Tryz.prog w base spare held fuel 55 cs = some x) : ∃ p : Pf, PfK anyB w p cs ∧ p.wf := by
 obtain ⟨hl, hf⟩ := trod_field Tryz.underlying55 h
 rw [cellsPf] at hl
 obtain ⟨n0, y0, h0⟩ := hf 0 _ 0 7 rfl cellsVt
 obtain ⟨n1, y1, h1⟩ := hf 1 _ 7 7 rfl cellsVt
 simp only [List.drop_zero] at h0 h1
 obtain ⟨a, ha, w0⟩ := trod_vt h0
 obtain ⟨b, hb, w1⟩ := trod_vt h1
 refine ⟨⟨a, b⟩, ⟨_, _, ?_, ha, hb⟩, w0, w1⟩
 rw [List.take_of_length_le (l := cs.drop 7) (by rw [List.length_drop]; omega)]
 exact split_app cs 7
theorem trod_bk (h : DataW.trod enc Tryz.prog w base spare held fuel 50 cs = some x) : ∃ b : Bk, BkK anyB w b cs ∧ b.wf := by
 obtain ⟨hl, hf⟩ := trod_field Tryz.underlying50 h
 rw [cellsBk] at hl
 obtain ⟨n0, y0, h0⟩ := hf 0 _ 0 1 rfl cellsU
 obtain ⟨n1, y1, h1⟩ := hf 1 _ 1 1 rfl cellsU
 obtain ⟨n2, y2, h2⟩ := hf 2 _ 2 1 rfl cellsI
 obtain ⟨n3, y3, h3⟩ := hf 3 _ 3 1 rfl cellsVs
 obtain ⟨n4, y4, h4⟩ := hf 4 _ 4 1 rfl cellsPs
 match cs, hl with
 | [a0, a1, a2, a3, a4], _ =>
  simp only [List.drop_zero, List.drop_succ_cons, List.take_succ_cons, List.take_zero] at h0 h1 h2 h3 h4
  obtain ⟨r, hr, w0⟩ := trod_inU Tryz.underlying23 h0
  obtain ⟨q, hq, w1⟩ := trod_inU Tryz.underlying23 h1
  obtain ⟨s, hs, w2⟩ := trod_inI Tryz.underlying3 h2
  obtain ⟨A, n, c, xs, hi, hxl, hfit, hx, w3⟩ := trod_lie Tryz.underlying47 h3 (VtK anyB w) Vt.wf 7 cellsVt (by decide) (fun _ _ _ hy => trod_vt hy)
  obtain ⟨A2, n2, c2, xs2, hi2, hxl2, hfit2, hx2, w4⟩ := trod_lie Tryz.underlying48 h4 (PfK anyB w) Pf.wf 14 cellsPf (by decide) (fun _ _ _ hy => trod_pf hy)
  cases hr; cases hq; cases hs; cases hi; cases hi2
  subst hxl hxl2
  exact ⟨⟨r, q, s, xs, xs2⟩, ⟨A, c, A2, c2, rfl, hfit, hfit2, hx, hx2⟩, w0, w1, w2, w3, w4⟩
theorem trod_ev (h : DataW.trod enc Tryz.prog w base spare held fuel 57 cs = some x) : ∃ e : Ev, EvK anyB w e cs ∧ e.wf := by
 obtain ⟨hl, hf⟩ := trod_field Tryz.underlying57 h
 rw [cellsEv] at hl
 obtain ⟨n0, y0, h0⟩ := hf 0 _ 0 1 rfl cellsKd
 obtain ⟨n1, y1, h1⟩ := hf 1 _ 1 1 rfl cellsI
 obtain ⟨n2, y2, h2⟩ := hf 2 _ 2 5 rfl cellsBk
 obtain ⟨n3, y3, h3⟩ := hf 3 _ 7 7 rfl cellsVt
 obtain ⟨n4, y4, h4⟩ := hf 4 _ 14 14 rfl cellsPf
 simp only [List.drop_zero] at h0 h1 h2 h3 h4
 match cs, hl with
 | a0 :: a1 :: r, hl =>
  simp only [List.drop_zero, List.drop_succ_cons, List.take_succ_cons, List.take_zero] at h0 h1 h2 h3 h4
  obtain ⟨k, hk, w0⟩ := trod_inI Tryz.underlying46 h0
  obtain ⟨s, hs, w1⟩ := trod_inI Tryz.underlying3 h1
  obtain ⟨b, hb, w2⟩ := trod_bk h2
  obtain ⟨v, hv, w3⟩ := trod_vt h3
  obtain ⟨p, hp, w4⟩ := trod_pf h4
  cases hk; cases hs
  have hrl : r.length = 26 := by simpa using hl
  refine ⟨⟨k, s, b, v, p⟩, ⟨_, _, _, ?_, hb, hv, hp⟩, w0, w1, w2, w3, w4⟩
  rw [List.take_of_length_le (l := r.drop 12) (by rw [List.length_drop]; omega)]
  congr 2
  rw [show r.drop 12 = (r.drop 5).drop 7 from by rw [List.drop_drop], List.take_append_drop, List.take_append_drop]
theorem trod_evs (h : DataW.trod enc Tryz.prog w base spare held fuel 44 cs = some x) : ∃ A n c xs, cs = [.slice A n c] ∧ xs.length = n ∧ Fits n c ∧ Evs anyB w A xs ∧ ∀ x ∈ xs, x.wf :=
 trod_lie Tryz.underlying44 h (EvK anyB w) Ev.wf 28 cellsEv (by decide) (fun _ _ _ hy => trod_ev hy)
end
end Go.Proofs.YtnppimhlfcjghaaGreat
namespace Go.Proofs.YtnppimhlfcjghaaGreat
open Go.RowKit Go.Deep
section
variable {H : Type} {enc : TypeId × Value → H} {w : World} {base : Nat} {spare : Nat → Bool} {held : Bool} {fuel : Nat} {cs : List Value} {x : DataW H × List MemPlace}
theorem cellsU8' : Tryz.prog.cellsOf 5 = 1 := by kernel_rfl
theorem trod_u8s (h : DataW.trod enc Tryz.prog w base spare held fuel 22 cs = some x) : ∃ A n c xs, cs = [.slice A n c] ∧ xs.length = n ∧ Fits n c ∧ Ints anyB .u8 w A xs ∧ ∀ x ∈ xs, 0 ≤ x ∧ x < 256 :=
 trod_lie Tryz.underlying22 h (one (Value.int .u8)) (fun x => 0 ≤ x ∧ x < 256) 1 cellsU8' (by decide) (fun _ _ _ hy => by
  obtain ⟨n, rfl, _, hw⟩ := DataW.trod_int Tryz.underlying5 hy
  refine ⟨n, rfl, ?_⟩
  simp [Lit.wf, IntKind.min, IntKind.max, IntKind.bits, IntKind.signed] at hw
  omega)
theorem trod_sl_len {t e : TypeId} {d : DataW H} {p : List MemPlace} (ht : Tryz.prog.underlying t = some (.slice e)) (h : DataW.trod enc Tryz.prog w base spare held fuel t cs = some (d, p)) : ∃ A n c, cs = [.slice A n c] ∧ (n = 0 ∨ ∃ el sp, d = .slice el sp ∧ el.length = n) := by
 rcases open_slice ht h with ⟨rfl, _⟩ | ⟨a, len, cap, m, n, D, Pl, rfl, _, _, _, _, hx, _⟩
 ·exact ⟨none, 0, 0, rfl, .inl rfl⟩
 ·injection hx with hx _
  exact ⟨some a, len, cap, rfl, .inr ⟨_, _, hx, by simp⟩⟩
end
end Go.Proofs.YtnppimhlfcjghaaGreat
