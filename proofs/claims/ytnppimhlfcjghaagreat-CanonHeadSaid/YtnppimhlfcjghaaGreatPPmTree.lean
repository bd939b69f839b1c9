import Derived.Test.YtnppimhlfcjghaaGreatPMap
set_option linter.all false
set_option linter.unusedVariables false
set_option linter.unusedSimpArgs false
namespace Go.Proofs.YtnppimhlfcjghaaGreat
open Go.RowKit
theorem lk_mapk {α : Type} (g : Int → α) (l : List Int) (k : Int) : lk (l.map fun r => (r, g r)) k = if k ∈ l then some (g k) else none := by
 induction l with
 | nil => rfl
 | cons a l ih =>
  rw [List.map_cons, lk_cons, ih]
  by_cases h : k = a
  ·subst h; simp
  ·simp [h]
theorem Tr.mem_roots {t : Tr} {r : Int} : r ∈ t.roots ↔ t.has r = true := by
 rw [Tr.roots, sortI, (List.mergeSort_perm _ _).mem_iff, Tr.has, lk_isSome]
theorem Tr.rngK {t : Tr} (hok : t.ok) {r : Int} (h : t.has r = true) : 0 ≤ r ∧ r ≤ 18446744073709551615 := by
 unfold Tr.has at h
 obtain ⟨n, hn⟩ := Option.isSome_iff_exists.1 h
 exact (hok.rng _ (lk_mem hn)).1
theorem Tr.rngN {t : Tr} (hok : t.ok) {r : Int} (h : t.has r = true) : (0 ≤ (t.nd r).parent ∧ (t.nd r).parent ≤ 18446744073709551615) ∧ (0 ≤ (t.nd r).slot ∧ (t.nd r).slot ≤ 1099511627776) ∧ 0 ≤ (t.nd r).height ∧ (t.nd r).height ≤ (t.nd r).slot := by
 unfold Tr.has at h
 obtain ⟨n, hn⟩ := Option.isSome_iff_exists.1 h
 unfold Tr.nd
 rw [hn]
 exact (hok.rng _ (lk_mem hn)).2
theorem Tr.at_step {t : Tr} (hok : t.ok) {r : Int} (hr : t.has r = true) (s : Int) : t.at_ r s = if r ≠ t.first ∧ s < (t.nd r).slot then t.at_ (t.nd r).parent s else r := by
 unfold Tr.at_
 rw [if_pos hr]
 by_cases hf : r = t.first
 ·rw [if_neg (fun h => h.1 hf)]
  generalize (t.nd r).height.toNat = n
  cases n with
  | zero => rfl
  | succ n => rw [Tr.atF, if_neg (fun h => h.1 hf)]
 ·obtain ⟨u1, u2, u3⟩ := hok.up r hr hf
  have h0 := (Tr.rngN hok u1).2.2.1
  rw [if_pos u1]
  have e : (t.nd r).height.toNat = (t.nd (t.nd r).parent).height.toNat + 1 := by omega
  rw [e, Tr.atF]
theorem Tr.at_none {t : Tr} {r : Int} (hr : t.has r = false) (s : Int) : t.at_ r s = 0 := by
 unfold Tr.at_
 rw [hr]; rfl
theorem Tr.climb {t : Tr} (hok : t.ok) (P : Int → Prop) (h0 : ∀ r, t.has r = true → (r ≠ t.first → P (t.nd r).parent) → P r) : ∀ r, t.has r = true → P r := by
 have : ∀ (n : Nat) (r : Int), (t.nd r).height.toNat ≤ n → t.has r = true → P r := by
  intro n
  induction n with
  | zero =>
   intro r hn hr
   refine h0 r hr (fun hf => ?_)
   obtain ⟨u1, u2, u3⟩ := hok.up r hr hf
   have := (Tr.rngN hok u1).2.2.1
   omega
  | succ n ih =>
   intro r hn hr
   refine h0 r hr (fun hf => ?_)
   obtain ⟨u1, u2, u3⟩ := hok.up r hr hf
   have := (Tr.rngN hok u1).2.2.1
   exact ih _ (by omega) u1
 exact fun r hr => this _ r (Nat.le_refl _) hr
theorem Tr.at_props {t : Tr} (hok : t.ok) (s : Int) : ∀ r, t.has r = true → t.has (t.at_ r s) = true ∧ (t.nd (t.at_ r s)).slot ≤ (t.nd r).slot ∧ (t.nd (t.at_ r s)).height ≤ (t.nd r).height ∧ (t.at_ r s = t.first ∨ (t.nd (t.at_ r s)).slot ≤ s) :=
 Tr.climb hok _ (fun r hr ih => by
  rw [Tr.at_step hok hr s]
  split
  ·rename_i hc
   obtain ⟨u1, u2, u3⟩ := hok.up r hr hc.1
   obtain ⟨a, b, c, d⟩ := ih hc.1
   exact ⟨a, by omega, by omega, d⟩
  ·rename_i hc
   refine ⟨hr, Int.le_refl _, Int.le_refl _, ?_⟩
   by_cases hf : r = t.first
   ·exact .inl hf
   ·exact .inr (by
       have : ¬ s < (t.nd r).slot := fun h => hc ⟨hf, h⟩
       omega))
theorem Tr.at_inU {t : Tr} (hok : t.ok) (r s : Int) : 0 ≤ t.at_ r s ∧ t.at_ r s ≤ 18446744073709551615 := by
 cases hr : t.has r with
 | false => rw [Tr.at_none hr]; omega
 | true => exact Tr.rngK hok (Tr.at_props hok s r hr).1
theorem Tr.at_at {t : Tr} (hok : t.ok) {s s' : Int} (h : s ≤ s') : ∀ r, t.has r = true → t.at_ (t.at_ r s') s = t.at_ r s :=
 Tr.climb hok _ (fun r hr ih => by
  by_cases hc : r ≠ t.first ∧ s' < (t.nd r).slot
  ·rw [Tr.at_step hok hr s', if_pos hc, ih hc.1, Tr.at_step hok hr s, if_pos ⟨hc.1, by omega⟩]
  ·rw [Tr.at_step hok hr s', if_neg hc])
theorem Tr.below_has {t : Tr} {r on : Int} (h : t.below r on = true) : t.has r = true ∧ t.has on = true ∧ t.at_ r (t.nd on).slot = on := by
 unfold Tr.below at h
 simp only [Bool.and_eq_true, beq_iff_eq] at h
 exact ⟨h.2.1, h.1, h.2.2⟩
theorem Tr.below_of {t : Tr} {r on : Int} (h1 : t.has r = true) (h2 : t.has on = true) (h3 : t.at_ r (t.nd on).slot = on) : t.below r on = true := by
 unfold Tr.below
 rw [h1, h2, h3]; simp
theorem Tr.below_self {t : Tr} (hok : t.ok) {r : Int} (h : t.has r = true) : t.below r r = true :=
 Tr.below_of h h (by rw [Tr.at_step hok h, if_neg (fun c => by omega)])
theorem Tr.below_first {t : Tr} (hok : t.ok) : ∀ r, t.has r = true → t.below r t.first = true :=
 Tr.climb hok _ (fun r hr ih => by
  by_cases hf : r = t.first
  ·rw [hf]; exact Tr.below_self hok hok.fst
  ·have h1 := Tr.below_has (ih hf)
   obtain ⟨u1, u2, u3⟩ := hok.up r hr hf
   have h2 := (Tr.at_props hok (t.nd t.first).slot _ u1).2.1
   rw [h1.2.2] at h2
   exact Tr.below_of hr hok.fst (by rw [Tr.at_step hok hr, if_pos ⟨hf, by omega⟩]; exact h1.2.2))
theorem Tr.below_le {t : Tr} (hok : t.ok) {r on : Int} (h : t.below r on = true) : (t.nd on).slot ≤ (t.nd r).slot ∧ (t.nd on).height ≤ (t.nd r).height := by
 obtain ⟨h1, h2, h3⟩ := Tr.below_has h
 have := Tr.at_props hok (t.nd on).slot r h1
 rw [h3] at this
 exact ⟨this.2.1, this.2.2.1⟩
theorem Tr.below_trans {t : Tr} (hok : t.ok) {a b c : Int} (h1 : t.below a b = true) (h2 : t.below b c = true) : t.below a c = true := by
 have l2 := (Tr.below_le hok h2).1
 obtain ⟨a1, a2, a3⟩ := Tr.below_has h1
 obtain ⟨b1, b2, b3⟩ := Tr.below_has h2
 refine Tr.below_of a1 b2 ?_
 rw [← Tr.at_at hok l2 a a1, a3, b3]
theorem Tr.below_parent {t : Tr} (hok : t.ok) {r on : Int} (h : t.below r on = true) (hne : r ≠ on) : r ≠ t.first ∧ (t.nd on).slot < (t.nd r).slot ∧ t.below (t.nd r).parent on = true := by
 obtain ⟨h1, h2, h3⟩ := Tr.below_has h
 rw [Tr.at_step hok h1] at h3
 by_cases hc : r ≠ t.first ∧ (t.nd on).slot < (t.nd r).slot
 ·rw [if_pos hc] at h3
  exact ⟨hc.1, hc.2, Tr.below_of (hok.up r h1 hc.1).1 h2 h3⟩
 ·rw [if_neg hc] at h3
  exact absurd h3 hne
theorem Tr.below_child {t : Tr} (hok : t.ok) {r on : Int} (hr : t.has r = true) (hf : r ≠ t.first) (h : t.below (t.nd r).parent on = true) : t.below r on = true := by
 obtain ⟨u1, u2, u3⟩ := hok.up r hr hf
 have l := (Tr.below_le hok h).1
 obtain ⟨h1, h2, h3⟩ := Tr.below_has h
 exact Tr.below_of hr h2 (by rw [Tr.at_step hok hr, if_pos ⟨hf, by omega⟩]; exact h3)
theorem Tr.addE_ok {t : Tr} {r p s : Int} (h : t.addE r p s = 0) : t.has r = false ∧ t.has p = true ∧ (t.nd p).slot < s ∧ t.nodes.length < 1024 := by
 unfold Tr.addE at h
 split at h; · cases h
 rename_i h1
 split at h; · cases h
 rename_i h2
 split at h; · cases h
 rename_i h3
 split at h; · cases h
 rename_i h4
 exact ⟨by simpa using h1, by simpa using h2, by omega, by omega⟩
theorem Tr.add_lk (t : Tr) (r p s k : Int) : lk (t.add r p s).nodes k = if k = r then some ⟨p, s, (t.nd p).height + 1⟩ else lk t.nodes k := lk_put _ _ _ _
theorem Tr.add_has (t : Tr) (r p s k : Int) : (t.add r p s).has k = (decide (k = r) || t.has k) := by
 unfold Tr.has
 rw [Tr.add_lk]
 by_cases h : k = r <;> simp [h]
theorem Tr.add_nd (t : Tr) (r p s k : Int) : (t.add r p s).nd k = if k = r then ⟨p, s, (t.nd p).height + 1⟩ else t.nd k := by
 unfold Tr.nd
 rw [Tr.add_lk]
 by_cases h : k = r <;> simp [h, Tr.nd]
theorem Tr.add_ok {t : Tr} (hok : t.ok) {r p s : Int} (he : t.addE r p s = 0) (hr : 0 ≤ r ∧ r ≤ 18446744073709551615) (hs : s ≤ 1099511627776) : (t.add r p s).ok := by
 obtain ⟨e1, e2, e3, e4⟩ := Tr.addE_ok he
 have hk : r ∉ keys t.nodes := lk_none.1 (by unfold Tr.has at e1; cases h : lk t.nodes r with | none => rfl | some x => rw [h] at e1; cases e1)
 have hp := Tr.rngN hok e2
 have hpr := Tr.rngK hok e2
 have hnf : t.first ≠ r := fun e => by have := hok.fst; rw [e, e1] at this; cases this
 have hnp : p ≠ r := fun e => by rw [e, e1] at e2; cases e2
 refine ⟨nodup_put hok.nodup _ _, ?_, ?_, ?_, ?_⟩
 ·rw [Tr.add_has]; show (_ || t.has t.first) = true; rw [hok.fst]; simp
 ·intro x hx
  have hx' : x ∈ put t.nodes r ⟨p, s, (t.nd p).height + 1⟩ := hx
  rw [put_new hk, List.mem_append] at hx'
  rcases hx' with hx' | hx'
  ·exact hok.rng x hx'
  ·simp only [List.mem_singleton] at hx'
   subst hx'
   refine ⟨hr, hpr, ⟨?_, hs⟩, ?_, ?_⟩
   ·show 0 ≤ s; omega
   ·show 0 ≤ (t.nd p).height + 1; omega
   ·show (t.nd p).height + 1 ≤ s; omega
 ·intro x hx hf
  rw [Tr.add_has] at hx
  by_cases hxr : x = r
  ·subst hxr
   rw [Tr.add_nd, if_pos rfl]
   show (t.add x p s).has p = true ∧ ((t.add x p s).nd p).slot < s ∧ (t.nd p).height + 1 = _
   rw [Tr.add_has, e2, Tr.add_nd, if_neg hnp]
   exact ⟨by simp, e3, rfl⟩
  ·have hx2 : t.has x = true := by simpa [hxr] using hx
   obtain ⟨u1, u2, u3⟩ := hok.up x hx2 hf
   have hne : (t.nd x).parent ≠ r := fun e => by rw [e, e1] at u1; cases u1
   rw [Tr.add_nd, if_neg hxr, Tr.add_has, u1, Tr.add_nd, if_neg hne]
   exact ⟨by simp, u2, u3⟩
 ·show (put t.nodes r _).length ≤ 1024
  rw [put_new hk]; simp; omega
theorem Tr.add_at {t : Tr} (hok : t.ok) {r p s : Int} (he : t.addE r p s = 0) (hA : (t.add r p s).ok) (q : Int) : ∀ x, t.has x = true → (t.add r p s).at_ x q = t.at_ x q :=
 Tr.climb hok _ (fun x hx ih => by
  have hne : x ≠ r := fun e => by rw [e, (Tr.addE_ok he).1] at hx; cases hx
  rw [Tr.at_step hA (by rw [Tr.add_has, hx]; simp), Tr.at_step hok hx, Tr.add_nd, if_neg hne]
  show (if x ≠ t.first ∧ q < (t.nd x).slot then _ else _) = _
  by_cases hc : x ≠ t.first ∧ q < (t.nd x).slot
  ·rw [if_pos hc, if_pos hc]; exact ih hc.1
  ·rw [if_neg hc, if_neg hc])
theorem Tr.add_below {t : Tr} (hok : t.ok) {r p s : Int} (he : t.addE r p s = 0) (hA : (t.add r p s).ok) {x on : Int} (hx : t.has x = true) (ho : t.has on = true) : (t.add r p s).below x on = t.below x on := by
 have hne : on ≠ r := fun e => by rw [e, (Tr.addE_ok he).1] at ho; cases ho
 unfold Tr.below
 rw [Tr.add_has, Tr.add_has, Tr.add_nd, if_neg hne, Tr.add_at hok he hA _ x hx, hx, ho]
 simp
theorem Tr.stay_lk {t : Tr} (root k : Int) : lk (t.stay root) k = if t.below k root = true then some { t.nd k with height := (t.nd k).height - (t.nd root).height } else none := by
 unfold Tr.stay
 rw [lk_mapk (fun r => ({ t.nd r with height := (t.nd r).height - (t.nd root).height } : Nd))]
 by_cases h : t.below k root = true
 ·rw [if_pos h, if_pos]
  exact List.mem_filter.2 ⟨Tr.mem_roots.2 (Tr.below_has h).1, h⟩
 ·rw [if_neg h, if_neg]
  exact fun hm => h (List.mem_filter.1 hm).2
theorem Tr.cut_lk {t : Tr} (hok : t.ok) {root : Int} (hr : t.has root = true) (k : Int) : lk (t.cut root).nodes k = if k = root then some ⟨root, (t.nd root).slot, 0⟩ else if t.below k root = true then some { t.nd k with height := (t.nd k).height - (t.nd root).height } else none := by
 show lk (put _ _ _) k = _
 rw [lk_put, Tr.stay_lk, Tr.stay_lk, if_pos (Tr.below_self hok hr)]
 by_cases h : k = root
 ·rw [if_pos h, if_pos h]
  simp
 ·rw [if_neg h, if_neg h]
theorem Tr.cut_has {t : Tr} (hok : t.ok) {root : Int} (hr : t.has root = true) (k : Int) : (t.cut root).has k = t.below k root := by
 unfold Tr.has
 rw [Tr.cut_lk hok hr]
 by_cases h : k = root
 ·rw [if_pos h, h, Tr.below_self hok hr]; rfl
 ·rw [if_neg h]
  cases hb : t.below k root <;> simp
theorem Tr.cut_nd {t : Tr} (hok : t.ok) {root : Int} (hr : t.has root = true) {k : Int} (hb : t.below k root = true) : (t.cut root).nd k = if k = root then ⟨root, (t.nd root).slot, 0⟩ else { t.nd k with height := (t.nd k).height - (t.nd root).height } := by
 unfold Tr.nd
 rw [Tr.cut_lk hok hr]
 by_cases h : k = root
 ·rw [if_pos h, if_pos h]; rfl
 ·rw [if_neg h, if_neg h, if_pos hb]; rfl
theorem Tr.cut_slot {t : Tr} (hok : t.ok) {root : Int} (hr : t.has root = true) {k : Int} (hb : t.below k root = true) : ((t.cut root).nd k).slot = (t.nd k).slot := by
 rw [Tr.cut_nd hok hr hb]
 by_cases h : k = root
 ·rw [if_pos h, h]
 ·rw [if_neg h]
theorem keys_stay (t : Tr) (root : Int) : keys (t.stay root) = t.roots.filter fun r => t.below r root := by
 simp [keys, Tr.stay, List.map_map, Function.comp_def]
theorem Tr.roots_nd {t : Tr} (hok : t.ok) : t.roots.Nodup := (List.mergeSort_perm _ _).nodup_iff.2 hok.nodup
theorem Tr.cut_ok {t : Tr} (hok : t.ok) {root : Int} (hr : t.has root = true) : (t.cut root).ok := by
 have hk : root ∈ keys (t.stay root) := by
  rw [keys_stay]
  exact List.mem_filter.2 ⟨Tr.mem_roots.2 hr, Tr.below_self hok hr⟩
 have hkeys : keys (t.cut root).nodes = keys (t.stay root) := by
  show keys (put _ _ _) = _
  rw [keys_put, if_pos hk]
 have hnd : (keys (t.cut root).nodes).Nodup := by
  rw [hkeys, keys_stay]
  exact (Tr.roots_nd hok).filter _
 refine ⟨hnd, ?_, ?_, ?_, ?_⟩
 ·show (t.cut root).has root = true
  rw [Tr.cut_has hok hr]; exact Tr.below_self hok hr
 ·rintro ⟨k, d⟩ hx
  have hl := lk_of_mem hnd hx
  rw [Tr.cut_lk hok hr] at hl
  have hrk := Tr.rngK hok hr
  have hrn := Tr.rngN hok hr
  by_cases h : k = root
  ·rw [if_pos h] at hl
   injection hl with hl
   subst hl h
   exact ⟨hrk, hrk, hrn.2.1, Int.le_refl _, hrn.2.1.1⟩
  ·rw [if_neg h] at hl
   by_cases hb : t.below k root = true
   ·rw [if_pos hb] at hl
    injection hl with hl
    subst hl
    have h1 := (Tr.below_has hb).1
    have h2 := Tr.rngN hok h1
    have h3 := (Tr.below_le hok hb).2
    refine ⟨Tr.rngK hok h1, h2.1, h2.2.1, ?_, ?_⟩
    ·show 0 ≤ (t.nd k).height - (t.nd root).height; omega
    ·show (t.nd k).height - (t.nd root).height ≤ (t.nd k).slot; omega
   ·rw [if_neg hb] at hl; cases hl
 ·intro k hx hf
  have hf' : k ≠ root := hf
  rw [Tr.cut_has hok hr] at hx
  obtain ⟨h1, h2, h3⟩ := Tr.below_parent hok hx hf'
  obtain ⟨u1, u2, u3⟩ := hok.up k (Tr.below_has hx).1 h1
  have e : ((t.cut root).nd k).parent = (t.nd k).parent := by rw [Tr.cut_nd hok hr hx, if_neg hf']
  have e2 : ((t.cut root).nd k).height = (t.nd k).height - (t.nd root).height := by rw [Tr.cut_nd hok hr hx, if_neg hf']
  rw [e, e2, Tr.cut_slot hok hr hx, Tr.cut_slot hok hr h3, Tr.cut_has hok hr]
  refine ⟨h3, u2, ?_⟩
  rw [Tr.cut_nd hok hr h3]
  split
  ·rename_i e3; rw [e3] at u3; simp only; omega
  ·simp only; omega
 ·have hl : (keys (t.cut root).nodes).length ≤ t.roots.length := by
     rw [hkeys, keys_stay]; exact List.length_filter_le _ _
  have h1 := hok.len
  simp only [keys, List.length_map, Tr.roots, sortI, List.length_mergeSort] at hl
  omega
end Go.Proofs.YtnppimhlfcjghaaGreat
