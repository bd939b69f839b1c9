import Derived.Test.YtnppimhlfcjghaaGreatPBase
import Derived.Deep.RegionHeld
import Derived.KernelRfl
import Derived.KernelRfl
set_option linter.all false
set_option linter.unusedVariables false
set_option linter.unusedSimpArgs false
namespace Go.Proofs.YtnppimhlfcjghaaGreat
open Go.RowKit
section
variable {P : Program} {ops : Array Oper} {Q : Exit → Act → World → Prop} {md : Region.Mode} {S : World → Prop} {k : Nat}
def wpAnyK (P : Program) (md : Region.Mode) (ops : Array Oper) (Q : Exit → Act → World → Prop) (S : World → Prop) (k : Nat) : Nat → Array Bool → Act → World → Prop
 | 0, listed, a, w => Region.ready md ops listed = [] ∧ Q .normal a w
 | fuel + 1, listed, a, w =>
  (Region.ready md ops listed = [] → Q .normal a w) ∧
  ∀ i ∈ Region.ready md ops listed, wpOp P ops Q i (fun a' w' => (i ≠ k → S w') ∧ wpAnyK P md ops Q S k fuel (listed.setIfInBounds i true) a' w') a w
theorem wpAny_of_K : ∀ (fuel : Nat) (listed : Array Bool) (a : Act) (w : World), wpAnyK P md ops Q S k fuel listed a w → wpAny P md ops Q fuel listed a w
 | 0, _, _, _, h => h
 | fuel + 1, _, _, _, h => ⟨h.1, fun i hi => wpOp_mono (fun a' w' h' => wpAny_of_K fuel _ a' w' h'.2) (h.2 i hi)⟩
def okAt (md : Region.Mode) (ops : Array Oper) (listed : Array Bool) (m : Nat) : Prop := ∀ o, ops[m]? = some o → ∀ e ∈ o.after, Region.binds md e = true → listed.getD e.on false = true
def closedL (md : Region.Mode) (ops : Array Oper) (listed : Array Bool) : Prop := ∀ m, listed.getD m false = true → okAt md ops listed m
def ancB (md : Region.Mode) (ops : Array Oper) : Nat → Nat → Nat → Bool
 | 0, _, _ => false
 | n + 1, k, i => ((ops[k]?).map fun o => o.after.any fun e => Region.binds md e && (e.on == i || ancB md ops n e.on i)).getD false
theorem anc_listed {listed : Array Bool} (hc : closedL md ops listed) {i : Nat} : ∀ (n k : Nat), okAt md ops listed k → ancB md ops n k i = true → listed.getD i false = true
 | 0, _, _, h => by simp [ancB] at h
 | n + 1, k, hk, h => by
   unfold ancB at h
   cases ho : ops[k]? with
   | none => simp [ho] at h
   | some o =>
    simp only [ho, Option.map_some, Option.getD_some, Array.any_eq_true'] at h
    obtain ⟨e, he, h⟩ := h
    simp only [Bool.and_eq_true, Bool.or_eq_true, beq_iff_eq] at h
    have hl := hk o ho e he h.1
    rcases h.2 with h2 | h2
    ·rw [← h2]; exact hl
    ·exact anc_listed hc n e.on (hc _ hl) h2
theorem ready_okAt {listed : Array Bool} {j : Nat} (hj : j ∈ Region.ready md ops listed) : okAt md ops listed j := fun o ho e he hb => by
 obtain ⟨_, o', ho', h⟩ := mem_ready.1 hj
 rw [ho] at ho'
 cases ho'
 exact h e he hb
theorem closed_set {listed : Array Bool} {j : Nat} (hc : closedL md ops listed) (hj : j ∈ Region.ready md ops listed) : closedL md ops (listed.setIfInBounds j true) := fun m hm o ho e he hb => by
 refine getD_set_true ?_
 by_cases h : j = m
 ·subst h
  exact ready_okAt hj o ho e he hb
 ·rw [getD_set_ne false h] at hm
  exact hc m hm o ho e he hb
theorem closed_none (n : Nat) : closedL md ops (Array.replicate n false) := fun m hm => by
 simp [Array.getD] at hm
theorem wpAnyK_first {i n : Nat} {oi : Oper} {v : Value} (hi : ops[i]? = some oi) (hik : i ≠ k) (hanc : ancB md ops n k i = true) (hsel : ∀ (j : Nat) (o : Oper) cs b, ops[j]? = some o → o.op ≠ .select cs b)
    (hQ : ∀ c a w, Q (.panic c) (a.put oi.dst v) w → Q (.panic c) a w) :
    ∀ (fuel : Nat) (listed : Array Bool) (a : Act) (w : World), closedL md ops listed →
     (∀ j oj, ops[j]? = some oj → j ≠ i → listed.getD j true = false → (∀ e ∈ oj.after, Region.binds md e = true → e.on ≠ i) → oi.apart ops oj = true) →
     i ∈ Region.ready md ops listed → YieldsIf P ops S oi v a → S w →
     wpAnyK P md ops Q S k fuel (listed.setIfInBounds i true) (a.put oi.dst v) w → wpAnyK P md ops Q S k (fuel + 1) listed a w := by
 intro fuel
 induction fuel with
 | zero =>
  intro listed a w _ _ hr hy hS H
  refine ⟨fun h => (by rw [h] at hr; cases hr), fun j hj => ?_⟩
  by_cases hji : j = i
  ·subst hji; exact hy.wpOp hi hS ⟨fun _ => hS, H⟩
  ·have := ready_mono hj hji
   rw [H.1] at this
   cases this
 | succ fuel ih =>
  intro listed a w hcl hfree hr hy hS H
  refine ⟨fun h => (by rw [h] at hr; cases hr), fun j hj => ?_⟩
  by_cases hji : j = i
  ·subst hji; exact hy.wpOp hi hS ⟨fun _ => hS, H⟩
  ·have hjk : j ≠ k := fun e => by
      subst e
      have h1 := anc_listed hcl n j (ready_okAt hj) hanc
      have h0 := (mem_ready.1 hr).1
      rcases Nat.lt_or_ge i listed.size with h' | h'
      ·simp [h'] at h0 h1; rw [h0] at h1; cases h1
      ·simp [Array.getElem?_eq_none h'] at h1
   have h1 := H.2 j (ready_mono hj hji)
   obtain ⟨hjun, oj, hoj, hall⟩ := mem_ready.1 hj
   have hnot : ∀ e ∈ oj.after, Region.binds md e = true → e.on ≠ i := fun e he hb heq => by
    have h1 := hall e he hb
    have h0 := (mem_ready.1 hr).1
    rw [heq] at h1
    rcases Nat.lt_or_ge i listed.size with h' | h'
    ·simp [h'] at h0 h1; rw [h0] at h1; cases h1
    ·simp [Array.getElem?_eq_none h'] at h1
   have h2 := wpOp_putIf hoj (hfree j oj hoj hji hjun hnot) (fun cs b => hsel i oi cs b hi) (fun cs b => hsel j oj cs b hoj) hQ hy h1
   have hfree' : ∀ m ok, ops[m]? = some ok → m ≠ i → (listed.setIfInBounds j true).getD m true = false →
       (∀ e ∈ ok.after, Region.binds md e = true → e.on ≠ i) → oi.apart ops ok = true := fun m ok hk hki hun hno => by
    refine hfree m ok hk hki ?_ hno
    by_cases hjm : j = m
    ·subst hjm; exact hjun
    ·rw [getD_set_ne true hjm] at hun; exact hun
   refine wpOp_mono (fun a' w' h3 => ⟨fun _ => h3.2.1 hjk, ih (listed.setIfInBounds j true) a' w' (closed_set hcl hj) hfree' (ready_mono hr (Ne.symm hji)) h3.1 (h3.2.1 hjk) ?_⟩) h2
   rw [Array.setIfInBounds_comm _ _ hji]
   exact h3.2.2
def closedB (md : Region.Mode) (ops : Array Oper) (listed : Array Bool) : Bool := (List.range ops.size).all fun m => !listed.getD m false || ((ops[m]?).map fun o => o.after.all fun e => !Region.binds md e || listed.getD e.on false).getD true
theorem closedB_spec {listed : Array Bool} (h : closedB md ops listed = true) : closedL md ops listed := fun m hm o ho e he hb => by
 unfold closedB at h
 rw [List.all_eq_true] at h
 have h1 := h m (List.mem_range.2 (Array.getElem?_eq_some_iff.1 ho).1)
 simp only [hm, ho, Bool.not_true, Bool.false_or, Option.map_some, Option.getD_some, Array.all_eq_true_iff_forall_mem] at h1
 have h2 := h1 e he
 simpa [hb] using h2
theorem takeK {i : Nat} {oi : Oper} {v : Value} {d : Option Tmp} {fuel : Nat} {listed : Array Bool} {a : Act} {w : World} (hi : ops[i]? = some oi) (hd : oi.dst = d) (hik : (i == k) = false) (hanc : ancB md ops ops.size k i = true) (hcl : closedB md ops listed = true)
    (hs : Region.noSelect ops = true) (hf : Region.free md ops listed i = true) (hr : (Region.ready md ops listed).contains i = true)
    (hQ : ∀ c a w, Q (.panic c) (a.put d v) w → Q (.panic c) a w) (hy : YieldsIf P ops S oi v a) (hS : S w)
    (h : wpAnyK P md ops Q S k fuel (listed.setIfInBounds i true) (a.put d v) w) : wpAnyK P md ops Q S k (fuel + 1) listed a w := by
 subst hd
 exact wpAnyK_first hi (by simpa using hik) hanc (Region.noSelect_spec hs) hQ fuel listed a w (closedB_spec hcl) (Region.free_spec hi hf) (by simpa using hr) hy hS h
def AllReadyK (P : Program) (md : Region.Mode) (ops : Array Oper) (Q : Exit → Act → World → Prop) (S : World → Prop) (k : Nat) (fuel : Nat) (listed : Array Bool) (a : Act) (w : World) (rs : List Nat) : Prop :=
 ∀ i ∈ rs, wpOp P ops Q i (fun a' w' => (i ≠ k → S w') ∧ wpAnyK P md ops Q S k fuel (listed.setIfInBounds i true) a' w') a w
theorem AllReadyK.nil {fuel : Nat} {listed : Array Bool} {a : Act} {w : World} : AllReadyK P md ops Q S k fuel listed a w [] := fun _ h => by cases h
theorem AllReadyK.cons {fuel : Nat} {listed : Array Bool} {a : Act} {w : World} {i : Nat} {o : Oper} {rs : List Nat} (ho : ops[i]? = some o)
    (h : ∀ K' : Act → World → Prop, Shut (∀ a w, (i ≠ k → S w) → wpAnyK P md ops Q S k fuel (listed.setIfInBounds i true) a w → K' a w) → if Region.wanted o (yielded ops a.tmps) = true then Oper.wp P o a w K' Q else K' (a.put o.dst undef) w)
    (hs : AllReadyK P md ops Q S k fuel listed a w rs) : AllReadyK P md ops Q S k fuel listed a w (i :: rs) := fun j hj => by
 rcases List.mem_cons.1 hj with rfl | hj
 ·exact wpOp_step ho (fun K' hK => h K' (fun a w hS hW => hK a w ⟨hS, hW⟩))
 ·exact hs j hj
theorem readyK {rs : List Nat} {fuel : Nat} {listed : Array Bool} {a : Act} {w : World} (hr : Region.ready md ops listed = rs) (hne : rs ≠ [])
    (h : AllReadyK P md ops Q S k fuel listed a w rs) : wpAnyK P md ops Q S k (fuel + 1) listed a w := ⟨fun h0 => absurd (hr ▸ h0) hne, hr ▸ h⟩
theorem doneK {listed : Array Bool} {a : Act} {w : World} (hr : Region.ready md ops listed = []) (h : Q .normal a w) : ∀ fuel, wpAnyK P md ops Q S k fuel listed a w
 | 0 => ⟨hr, h⟩
 | _ + 1 => ⟨fun _ => h, by rw [hr]; simp⟩
theorem beginK {id : Nat} {a : Act} {w : World} (S : World → Prop) (k : Nat) (hm : P.follows .mixedOrders = true) (h : wpAnyK P .any ops Q S k ops.size (Array.replicate ops.size false) a w.drew) : (Code.region id ops true).wp P Q a w :=
 wp_region_any hm (wpAny_of_K _ _ _ _ h)
end
end Go.Proofs.YtnppimhlfcjghaaGreat
namespace Go.Proofs.YtnppimhlfcjghaaGreat
open Go.RowKit
section
variable {P : Program} {ops : Array Oper} {Q : Exit → Act → World → Prop} {md : Region.Mode} {Inv : Array Bool → Act → World → Prop}
def StepI (P : Program) (md : Region.Mode) (ops : Array Oper) (Q : Exit → Act → World → Prop) (Inv : Array Bool → Act → World → Prop) (i : Nat) : Prop :=
 ∀ l a w, Inv l a w → l.size = ops.size → l.getD i true = false → okAt md ops l i → wpOp P ops Q i (fun a' w' => Inv (l.setIfInBounds i true) a' w') a w
theorem stepI {i : Nat} {o : Oper} (ho : ops[i]? = some o)
    (h : ∀ (l : Array Bool) (a : Act) (w : World) (K' : Act → World → Prop), Inv l a w → l.size = ops.size → l.getD i true = false → okAt md ops l i → Shut (∀ a w, Inv (l.setIfInBounds i true) a w → K' a w) → if Region.wanted o (yielded ops a.tmps) = true then Oper.wp P o a w K' Q else K' (a.put o.dst undef) w) : StepI P md ops Q Inv i :=
 fun l a w hI hs hl hd => wpOp_step ho (fun K' hK => h l a w K' hI hs hl hd hK)
def backB (md : Region.Mode) (ops : Array Oper) : Bool := (List.range ops.size).all fun i => ((ops[i]?).map fun o => o.after.all fun e => !Region.binds md e || decide (e.on < i)).getD true
theorem backB_spec (h : backB md ops = true) {i : Nat} {o : Oper} (ho : ops[i]? = some o) {e : Edge} (he : e ∈ o.after) (hb : Region.binds md e = true) : e.on < i := by
 unfold backB at h
 rw [List.all_eq_true] at h
 have h1 := h i (List.mem_range.2 (Array.getElem?_eq_some_iff.1 ho).1)
 simp only [ho, Option.map_some, Option.getD_some, Array.all_eq_true_iff_forall_mem] at h1
 have h2 := h1 e he
 simpa [hb] using h2
def lastB (md : Region.Mode) (ops : Array Oper) (m : Nat) : Bool := ((List.range m).all fun i => ancB md ops ops.size m i) && ((List.range ops.size).all fun j => decide (j ≤ m) || ancB md ops ops.size j m)
theorem all_lt_succ {p : Nat → Prop} {n : Nat} (h : ∀ i, i < n → p i) (h0 : p n) : ∀ i, i < n + 1 → p i := fun i hi => by
 rcases Nat.lt_or_ge i n with h1 | h1
 ·exact h i h1
 ·obtain rfl : i = n := by omega
  exact h0
theorem getD_tf {l : Array Bool} {i : Nat} (hi : i < l.size) (h : l.getD i true = false) : l.getD i false = false := by
 simp [hi] at h ⊢; exact h
theorem wpAny_inv {m : Nat} (hm : m ≤ ops.size) (hstep : ∀ i, i < m → StepI P md ops Q Inv i) (hac : backB md ops = true) (hlast : lastB md ops m = true)
    (hend : ∀ l a w, Inv l a w → (∀ i, i < m → l.getD i false = true) → l.size = ops.size → (∀ j, m ≤ j → j < ops.size → l.getD j true = false) → wpAny P md ops Q (ops.size - m) l a w) :
    ∀ (fuel : Nat) (l : Array Bool) (a : Act) (w : World), l.size = ops.size → closedL md ops l → (∀ j, m ≤ j → j < ops.size → l.getD j true = false) → (l.toList.take m).count false + (ops.size - m) = fuel → Inv l a w → wpAny P md ops Q fuel l a w := by
 simp only [lastB, Bool.and_eq_true, List.all_eq_true, List.mem_range, Bool.or_eq_true, decide_eq_true_eq] at hlast
 obtain ⟨ha1, ha2⟩ := hlast
 intro fuel
 induction fuel with
 | zero =>
  intro l a w hs hc hu hf hI
  have h0 : ops.size - m = 0 := by omega
  have h1 : (l.toList.take m).count false = 0 := by omega
  have hall : ∀ i, i < m → l.getD i false = true := fun i hi => by
   have hil : i < l.size := by omega
   have hm' : l[i] ∈ l.toList.take m := by
    rw [List.mem_take_iff_getElem]
    exact ⟨i, by simp; omega, by simp⟩
   have : l[i] ≠ false := fun e => (List.count_eq_zero.1 h1) (e ▸ hm')
   simpa [hil] using this
  have := hend l a w hI hall hs hu
  rwa [h0] at this
 | succ fuel ih =>
  intro l a w hs hc hu hf hI
  by_cases hall : ∀ i, i < m → l.getD i false = true
  ·have h1 : (l.toList.take m).count false = 0 := by
      rw [List.count_eq_zero]
      intro hmem
      obtain ⟨i, hi, he⟩ := List.mem_take_iff_getElem.1 hmem
      have hil : i < l.size := by simp at hi; omega
      have := hall i (by omega)
      simp [hil] at this
      simp [this] at he
   have := hend l a w hI hall hs hu
   rwa [show ops.size - m = fuel + 1 from by omega] at this
  ·have hun : ∃ i, i < m ∧ l.getD i false = false := by
      apply Decidable.by_contra
      intro hn
      refine hall (fun i hi => ?_)
      cases h : l.getD i false with
      | true => rfl
      | false => exact absurd ⟨i, hi, h⟩ hn
   refine ⟨fun hr => ?_, fun i hi => ?_⟩
   ·exfalso
    obtain ⟨i, him, hif⟩ := hun
    have : ∀ i, i < m → l.getD i false = true := by
     intro i
     induction i using Nat.strongRecOn with
     | _ i ihi =>
      intro him
      cases h : l.getD i false with
      | true => rfl
      | false =>
       have hil : i < l.size := by omega
       have hio : i < ops.size := by omega
       have hmem : i ∈ Region.ready md ops l := mem_ready.2 ⟨(by simp [hil] at h ⊢; exact h), ops[i], Array.getElem?_eq_getElem hio, fun e he hb => ihi e.on (backB_spec hac (Array.getElem?_eq_getElem hio) he hb) (by have := backB_spec hac (Array.getElem?_eq_getElem hio) he hb; omega)⟩
       rw [hr] at hmem
       cases hmem
    rw [this i him] at hif
    cases hif
   ·have hok := ready_okAt hi
    have hf0 := (mem_ready.1 hi).1
    have hio : i < ops.size := by
     obtain ⟨_, o, ho, _⟩ := mem_ready.1 hi
     exact (Array.getElem?_eq_some_iff.1 ho).1
    rcases Nat.lt_trichotomy i m with h1 | h1 | h1
    ·refine wpOp_mono (fun a' w' hI' => ?_) (hstep i h1 l a w hI hs hf0 hok)
     refine ih _ a' w' (by simpa using hs) (closed_set hc hi) (fun j hj hjn => ?_) ?_ hI'
     ·rw [getD_set_ne true (by omega)]; exact hu j hj hjn
     ·have hil : i < l.size := by omega
      have hli : l[i] = false := by simpa [hil] using hf0
      have hcnt : ((l.setIfInBounds i true).toList.take m).count false + 1 = (l.toList.take m).count false := by
       rw [Array.toList_setIfInBounds, List.take_set, List.count_set (by simp; omega)]
       have hg : (l.toList.take m)[i]'(by simp; omega) = false := by simp [hli]
       have hpos : 0 < (l.toList.take m).count false := List.count_pos_iff.2 (by rw [← hg]; exact List.getElem_mem _)
       simp [hg]
       omega
      omega
    ·subst h1
     exfalso
     obtain ⟨k, hk, hkf⟩ := hun
     rw [anc_listed hc _ i hok (ha1 k hk)] at hkf
     cases hkf
    ·exfalso
     have hlm := anc_listed hc _ i hok ((ha2 i hio).resolve_left (by omega))
     have := getD_tf (by omega) (hu m (Nat.le_refl _) (by omega))
     rw [this] at hlm
     cases hlm
theorem beginI {id m : Nat} {a : Act} {w : World} (hfo : P.follows .mixedOrders = true) (hm : m ≤ ops.size) (hac : backB md ops = true) (hmd : md = .any) (hlast : lastB md ops m = true) (hI : Inv (Array.replicate ops.size false) a w.drew)
    (hstep : ∀ i, i < m → StepI P md ops Q Inv i)
    (hend : ∀ l a w, Inv l a w → (∀ i, i < m → l.getD i false = true) → l.size = ops.size → (∀ j, m ≤ j → j < ops.size → l.getD j true = false) → wpAny P md ops Q (ops.size - m) l a w) : (Code.region id ops true).wp P Q a w := by
 subst hmd
 refine wp_region_any hfo (wpAny_inv hm hstep hac hlast hend _ _ a w.drew (by simp) (closed_none _) (fun j _ hj => by simp [hj]) ?_ hI)
 simp
 omega
theorem one_ready {i fuel : Nat} {o : Oper} {l : Array Bool} {a : Act} {w : World} (hr : Region.ready md ops l = [i]) (ho : ops[i]? = some o)
    (h : ∀ K' : Act → World → Prop, Shut (∀ a w, wpAny P md ops Q fuel (l.setIfInBounds i true) a w → K' a w) → if Region.wanted o (yielded ops a.tmps) = true then Oper.wp P o a w K' Q else K' (a.put o.dst undef) w) : wpAny P md ops Q (fuel + 1) l a w :=
 ⟨fun h0 => (by rw [hr] at h0; cases h0), fun j hj => by
  rw [hr] at hj
  obtain rfl : j = i := by simpa using hj
  exact wpOp_step ho (fun K' hK => h K' hK)⟩
theorem none_ready {l : Array Bool} {a : Act} {w : World} (hr : Region.ready md ops l = []) (h : Q .normal a w) : wpAny P md ops Q 0 l a w := ⟨hr, h⟩
theorem last_list {i : Nat} {o : Oper} {l : Array Bool} {a : Act} {w : World} (hr : Region.ready md ops l = [i]) (ho : ops[i]? = some o) (hr2 : Region.ready md ops (l.setIfInBounds i true) = []) (h : wpList P ops Q [o] a w) : wpAny P md ops Q 1 l a w :=
 ⟨fun h0 => (by rw [hr] at h0; cases h0), fun j hj => by
  rw [hr] at hj
  obtain rfl : j = i := by simpa using hj
  refine wpOp_mono (K := fun a w => Q .normal a w) (fun a' w' hq => ⟨hr2, hq⟩) ?_
  unfold wpOp
  rw [ho]
  exact h⟩
theorem lits {l : Array Bool} {m n : Nat} (hmn : m ≤ n) (hs : l.size = n) (h1 : ∀ i, i < m → l.getD i false = true) (h2 : ∀ j, m ≤ j → j < n → l.getD j true = false) : l = (List.replicate m true ++ List.replicate (n - m) false).toArray := by
 apply Array.ext
 ·simp; omega
 ·intro i hi1 hi2
  rcases Nat.lt_or_ge i m with h | h
  ·have := h1 i h
   simp [hi1] at this
   simp [this, h]
  ·have := h2 i h (by omega)
   simp [hi1] at this
   simp [this, List.getElem_append, show ¬ i < m from by omega]
theorem frame_list {n : Nat} (a : Act) (h : a.tmps.size = n) (hd : a.defers = []) : ∃ f : Nat → Value, (∀ i, f i = a.tmps.getD i undef) ∧ a = ⟨((List.range n).map f).toArray, []⟩ := by
 refine ⟨fun i => a.tmps.getD i undef, fun _ => rfl, ?_⟩
 obtain ⟨⟨ts⟩, ds⟩ := a
 obtain rfl : ds = [] := hd
 congr 1
 apply Array.ext'
 simp only
 apply List.ext_getElem?
 intro i
 have hs : ts.length = n := by simpa using h
 by_cases hi : i < n
 ·simp [hi, hs]
 ·rw [List.getElem?_eq_none (by omega), List.getElem?_eq_none (by simp; omega)]
structure RI (ops : Array Oper) (m : Nat) (F : Nat → Value → World → Prop) (G : Array Bool → Array Value → World → Prop) (ts0 : Array Value) (l : Array Bool) (a : Act) (w : World) : Prop where
 sz : a.tmps.size = ts0.size
 df : a.defers = []
 old : ∀ t, ((List.range m).all fun i => (ops[i]?).bind (·.dst) != some t) = true → a.tmps.getD t undef = ts0.getD t undef
 fct : ∀ i o d, i < m → ops[i]? = some o → o.dst = some d → l.getD i false = true → F i (a.tmps.getD d undef) w
 glob : G l a.tmps w
theorem RI.start {m : Nat} {F : Nat → Value → World → Prop} {G : Array Bool → Array Value → World → Prop} {ts0 : Array Value} {w : World} (n : Nat) (h : G (Array.replicate n false) ts0 w) : RI ops m F G ts0 (Array.replicate n false) ⟨ts0, []⟩ w :=
 ⟨rfl, rfl, fun _ _ => rfl, fun i o d _ _ _ h => by simp [Array.getD] at h, h⟩
def onceB (ops : Array Oper) (m i : Nat) (d : Tmp) : Bool := (List.range m).all fun j => j == i || (ops[j]?).bind (·.dst) != some d
theorem RI.put {m : Nat} {F : Nat → Value → World → Prop} {G : Array Bool → Array Value → World → Prop} {ts0 : Array Value} {l : Array Bool} {a : Act} {w w' : World} (h : RI ops m F G ts0 l a w) {i d : Nat} {o : Oper} {v : Value} (him : i < m) (ho : ops[i]? = some o) (hd : o.dst = some d) (hdn : d < ts0.size) (honce : onceB ops m i d = true)
    (hv : F i v w') (hmono : ∀ j u, F j u w → F j u w') (hg : G (l.setIfInBounds i true) (a.tmps.setIfInBounds d v) w') : RI ops m F G ts0 (l.setIfInBounds i true) (a.put (some d) v) w' := by
 simp only [onceB, List.all_eq_true, List.mem_range, Bool.or_eq_true, beq_iff_eq, bne_iff_ne] at honce
 have hsz : d < a.tmps.size := by rw [h.sz]; exact hdn
 refine ⟨by simpa [Act.put] using h.sz, h.df, fun t ht => ?_, fun j oj dj hjm hj hdj hl => ?_, hg⟩
 ·have hne : d ≠ t := fun e => by
     simp only [List.all_eq_true, List.mem_range, bne_iff_ne] at ht
     exact ht i him (by rw [ho, Option.bind_some, hd, e])
  show (a.tmps.setIfInBounds d v).getD t undef = _
  rw [← h.old t ht]
  simp only [Array.getD_eq_getD_getElem?, Array.getElem?_setIfInBounds, if_neg hne]
 ·by_cases hij : i = j
  ·subst hij
   rw [ho] at hj
   cases hj
   rw [hd] at hdj
   cases hdj
   show F i ((a.tmps.setIfInBounds d v).getD d undef) w'
   simp only [Array.getD_eq_getD_getElem?, Array.getElem?_setIfInBounds, if_true, hsz, Option.getD_some]
   exact hv
  ·rw [getD_set_ne false hij] at hl
   have hne : d ≠ dj := fun e => by
    rcases honce j hjm with h1 | h1
    ·exact hij h1.symm
    ·exact h1 (by rw [hj, Option.bind_some, hdj, e])
   show F j ((a.tmps.setIfInBounds d v).getD dj undef) w'
   have := hmono j _ (h.fct j oj dj hjm hj hdj hl)
   simpa only [Array.getD_eq_getD_getElem?, Array.getElem?_setIfInBounds, if_neg hne] using this
theorem beginRI {id : Nat} {ts0 : Array Value} {w : World} (m : Nat) (F : Nat → Value → World → Prop) (G : Array Bool → Array Value → World → Prop) (hfo : P.follows .mixedOrders = true) (hm : m ≤ ops.size) (hac : backB .any ops = true) (hlast : lastB .any ops m = true)
    (hG : G (Array.replicate ops.size false) ts0 w.drew) (hstep : ∀ i, i < m → StepI P .any ops Q (RI ops m F G ts0) i)
    (hend : ∀ l a w, RI ops m F G ts0 l a w → (∀ i, i < m → l.getD i false = true) → l.size = ops.size → (∀ j, m ≤ j → j < ops.size → l.getD j true = false) → wpAny P .any ops Q (ops.size - m) l a w) : (Code.region id ops true).wp P Q ⟨ts0, []⟩ w :=
 beginI hfo hm hac rfl hlast (RI.start ops.size hG) hstep hend
theorem RI.skip {m : Nat} {F : Nat → Value → World → Prop} {G : Array Bool → Array Value → World → Prop} {ts0 : Array Value} {l : Array Bool} {a : Act} {w w' : World} (h : RI ops m F G ts0 l a w) {i : Nat} {o : Oper} {v : Value} (ho : ops[i]? = some o) (hd : o.dst = none)
    (hmono : ∀ j o d, j < m → ops[j]? = some o → o.dst = some d → l.getD j false = true → F j (a.tmps.getD d undef) w → F j (a.tmps.getD d undef) w') (hg : G (l.setIfInBounds i true) a.tmps w') : RI ops m F G ts0 (l.setIfInBounds i true) (a.put none v) w' := by
 refine ⟨h.sz, h.df, h.old, fun j oj dj hjm hj hdj hl => ?_, hg⟩
 have hij : i ≠ j := fun e => by
  subst e
  rw [ho] at hj
  cases hj
  rw [hd] at hdj
  cases hdj
 rw [getD_set_ne false hij] at hl
 exact hmono j oj dj hjm hj hdj hl (h.fct j oj dj hjm hj hdj hl)
end
end Go.Proofs.YtnppimhlfcjghaaGreat
namespace Go.Proofs.YtnppimhlfcjghaaGreat
open Go.RowKit
theorem takeAt {P : Program} {ops : Array Oper} {Q : Exit → Act → World → Prop} {md : Region.Mode} {S : World → Prop} {i : Nat} {oi : Oper} {v : Value} {d : Option Tmp} {fuel : Nat} {listed : Array Bool} {a : Act} {w : World} (hi : ops[i]? = some oi) (hd : oi.dst = d)
    (hs : Region.noSelect ops = true) (hf : Region.free md ops listed i = true) (hr : (Region.ready md ops listed).contains i = true)
    (hQ : ∀ c a w, Q (.panic c) (a.put d v) w → Q (.panic c) a w) (hy : YieldsIf P ops S oi v a) (hS : S w)
    (h : wpAnyH P md ops Q S fuel (listed.setIfInBounds i true) (a.put d v) w) : wpAnyH P md ops Q S (fuel + 1) listed a w := by
 subst hd
 exact wpAnyH_take hi hs hf hr hQ hy hS h
end Go.Proofs.YtnppimhlfcjghaaGreat
namespace Go.Proofs.YtnppimhlfcjghaaGreat
open Go.RowKit
section
variable {P : Program} {ops : Array Oper} {Q : Exit → Act → World → Prop} {md : Region.Mode} {S : World → Prop} {k : Nat}
def wpAnyL (P : Program) (md : Region.Mode) (ops : Array Oper) (Q : Exit → Act → World → Prop) (S : World → Prop) (k : Nat) : Nat → Array Bool → Act → World → Prop
 | 0, listed, a, w => Region.ready md ops listed = [] ∧ Q .normal a w
 | fuel + 1, listed, a, w =>
  (Region.ready md ops listed = [] → Q .normal a w) ∧
  ∀ i ∈ Region.ready md ops listed, wpOp P ops Q i (fun a' w' => (i ≠ k → listed.getD k false = false → S w') ∧ wpAnyL P md ops Q S k fuel (listed.setIfInBounds i true) a' w') a w
theorem wpAny_of_L : ∀ (fuel : Nat) (listed : Array Bool) (a : Act) (w : World), wpAnyL P md ops Q S k fuel listed a w → wpAny P md ops Q fuel listed a w
 | 0, _, _, _, h => h
 | fuel + 1, _, _, _, h => ⟨h.1, fun i hi => wpOp_mono (fun a' w' h' => wpAny_of_L fuel _ a' w' h'.2) (h.2 i hi)⟩
theorem wpAnyL_first {i n : Nat} {oi : Oper} {v : Value} (hi : ops[i]? = some oi) (hik : i ≠ k) (hanc : ancB md ops n k i = true) (hsel : ∀ (j : Nat) (o : Oper) cs b, ops[j]? = some o → o.op ≠ .select cs b)
    (hQ : ∀ c a w, Q (.panic c) (a.put oi.dst v) w → Q (.panic c) a w) :
    ∀ (fuel : Nat) (listed : Array Bool) (a : Act) (w : World), closedL md ops listed →
     (∀ j oj, ops[j]? = some oj → j ≠ i → listed.getD j true = false → (∀ e ∈ oj.after, Region.binds md e = true → e.on ≠ i) → oi.apart ops oj = true) →
     i ∈ Region.ready md ops listed → YieldsIf P ops S oi v a → S w →
     wpAnyL P md ops Q S k fuel (listed.setIfInBounds i true) (a.put oi.dst v) w → wpAnyL P md ops Q S k (fuel + 1) listed a w := by
 intro fuel
 induction fuel with
 | zero =>
  intro listed a w _ _ hr hy hS H
  refine ⟨fun h => (by rw [h] at hr; cases hr), fun j hj => ?_⟩
  by_cases hji : j = i
  ·subst hji; exact hy.wpOp hi hS ⟨fun _ _ => hS, H⟩
  ·have := ready_mono hj hji
   rw [H.1] at this
   cases this
 | succ fuel ih =>
  intro listed a w hcl hfree hr hy hS H
  refine ⟨fun h => (by rw [h] at hr; cases hr), fun j hj => ?_⟩
  by_cases hji : j = i
  ·subst hji; exact hy.wpOp hi hS ⟨fun _ _ => hS, H⟩
  ·have hjk : j ≠ k := fun e => by
      subst e
      have h1 := anc_listed hcl n j (ready_okAt hj) hanc
      have h0 := (mem_ready.1 hr).1
      rcases Nat.lt_or_ge i listed.size with h' | h'
      ·simp [h'] at h0 h1; rw [h0] at h1; cases h1
      ·simp [Array.getElem?_eq_none h'] at h1
   have hkun : listed.getD k false = false := by
    cases hv : listed.getD k false with
    | false => rfl
    | true =>
     exfalso
     have h1 := anc_listed hcl n k (hcl k hv) hanc
     have h0 := (mem_ready.1 hr).1
     rcases Nat.lt_or_ge i listed.size with h' | h'
     ·simp [h'] at h0 h1; rw [h0] at h1; cases h1
     ·simp [Array.getElem?_eq_none h'] at h1
   have hkun2 : (listed.setIfInBounds i true).getD k false = false := by rw [getD_set_ne false hik]; exact hkun
   have h1 := H.2 j (ready_mono hj hji)
   obtain ⟨hjun, oj, hoj, hall⟩ := mem_ready.1 hj
   have hnot : ∀ e ∈ oj.after, Region.binds md e = true → e.on ≠ i := fun e he hb heq => by
    have h1 := hall e he hb
    have h0 := (mem_ready.1 hr).1
    rw [heq] at h1
    rcases Nat.lt_or_ge i listed.size with h' | h'
    ·simp [h'] at h0 h1; rw [h0] at h1; cases h1
    ·simp [Array.getElem?_eq_none h'] at h1
   have h2 := wpOp_putIf hoj (hfree j oj hoj hji hjun hnot) (fun cs b => hsel i oi cs b hi) (fun cs b => hsel j oj cs b hoj) hQ hy h1
   have hfree' : ∀ m ok, ops[m]? = some ok → m ≠ i → (listed.setIfInBounds j true).getD m true = false →
       (∀ e ∈ ok.after, Region.binds md e = true → e.on ≠ i) → oi.apart ops ok = true := fun m ok hk hki hun hno => by
    refine hfree m ok hk hki ?_ hno
    by_cases hjm : j = m
    ·subst hjm; exact hjun
    ·rw [getD_set_ne true hjm] at hun; exact hun
   refine wpOp_mono (fun a' w' h3 => ⟨fun _ _ => h3.2.1 hjk hkun2, ih (listed.setIfInBounds j true) a' w' (closed_set hcl hj) hfree' (ready_mono hr (Ne.symm hji)) h3.1 (h3.2.1 hjk hkun2) ?_⟩) h2
   rw [Array.setIfInBounds_comm _ _ hji]
   exact h3.2.2
theorem takeL {i : Nat} {oi : Oper} {v : Value} {d : Option Tmp} {fuel : Nat} {listed : Array Bool} {a : Act} {w : World} (hi : ops[i]? = some oi) (hd : oi.dst = d) (hik : (i == k) = false) (hanc : ancB md ops ops.size k i = true) (hcl : closedB md ops listed = true)
    (hs : Region.noSelect ops = true) (hf : Region.free md ops listed i = true) (hr : (Region.ready md ops listed).contains i = true)
    (hQ : ∀ c a w, Q (.panic c) (a.put d v) w → Q (.panic c) a w) (hy : YieldsIf P ops S oi v a) (hS : S w)
    (h : wpAnyL P md ops Q S k fuel (listed.setIfInBounds i true) (a.put d v) w) : wpAnyL P md ops Q S k (fuel + 1) listed a w := by
 subst hd
 exact wpAnyL_first hi (by simpa using hik) hanc (Region.noSelect_spec hs) hQ fuel listed a w (closedB_spec hcl) (Region.free_spec hi hf) (by simpa using hr) hy hS h
def AllReadyL (P : Program) (md : Region.Mode) (ops : Array Oper) (Q : Exit → Act → World → Prop) (S : World → Prop) (k : Nat) (fuel : Nat) (listed : Array Bool) (a : Act) (w : World) (rs : List Nat) : Prop :=
 ∀ i ∈ rs, wpOp P ops Q i (fun a' w' => (i ≠ k → listed.getD k false = false → S w') ∧ wpAnyL P md ops Q S k fuel (listed.setIfInBounds i true) a' w') a w
theorem AllReadyL.nil {fuel : Nat} {listed : Array Bool} {a : Act} {w : World} : AllReadyL P md ops Q S k fuel listed a w [] := fun _ h => by cases h
theorem AllReadyL.cons {fuel : Nat} {listed : Array Bool} {a : Act} {w : World} {i : Nat} {o : Oper} {rs : List Nat} (ho : ops[i]? = some o)
    (h : ∀ K' : Act → World → Prop, Shut (∀ a w, (i ≠ k → listed.getD k false = false → S w) → wpAnyL P md ops Q S k fuel (listed.setIfInBounds i true) a w → K' a w) → if Region.wanted o (yielded ops a.tmps) = true then Oper.wp P o a w K' Q else K' (a.put o.dst undef) w)
    (hs : AllReadyL P md ops Q S k fuel listed a w rs) : AllReadyL P md ops Q S k fuel listed a w (i :: rs) := fun j hj => by
 rcases List.mem_cons.1 hj with rfl | hj
 ·exact wpOp_step ho (fun K' hK => h K' (fun a w hS hW => hK a w ⟨hS, hW⟩))
 ·exact hs j hj
theorem readyL {rs : List Nat} {fuel : Nat} {listed : Array Bool} {a : Act} {w : World} (hr : Region.ready md ops listed = rs) (hne : rs ≠ [])
    (h : AllReadyL P md ops Q S k fuel listed a w rs) : wpAnyL P md ops Q S k (fuel + 1) listed a w := ⟨fun h0 => absurd (hr ▸ h0) hne, hr ▸ h⟩
theorem doneL {listed : Array Bool} {a : Act} {w : World} (hr : Region.ready md ops listed = []) (h : Q .normal a w) : ∀ fuel, wpAnyL P md ops Q S k fuel listed a w
 | 0 => ⟨hr, h⟩
 | _ + 1 => ⟨fun _ => h, by rw [hr]; simp⟩
theorem beginL {id : Nat} {a : Act} {w : World} (S : World → Prop) (k : Nat) (hm : P.follows .mixedOrders = true) (h : wpAnyL P .any ops Q S k ops.size (Array.replicate ops.size false) a w.drew) : (Code.region id ops true).wp P Q a w :=
 wp_region_any hm (wpAny_of_L _ _ _ _ h)
theorem listed_off {l : Array Bool} {j : Nat} (h : l.getD j false = false) (h2 : l.getD j false = true) : False := by rw [h] at h2; cases h2
end
end Go.Proofs.YtnppimhlfcjghaaGreat
namespace Go.Proofs.YtnppimhlfcjghaaGreat
open Go.RowKit
theorem tW {P : Program} {ops : Array Oper} {Q : Exit → Act → World → Prop} {md : Region.Mode} {S : World → Prop} {oi : Oper} {v : Value} {fuel : Nat} {listed l' : Array Bool} {a a' : Act} {w : World} (i : Nat) (d : Tmp) (hS : S w) (h : wpAnyH P md ops Q S fuel l' a' w)
    (hi : ops[i]? = some oi := by rfl) (hd : oi.dst = some d := by rfl) (hw : Region.wanted oi (yielded ops a.tmps) = true := by kernel_rfl)
    (hy : ∀ w', S w' → (execOp a.eval oi).run P w' = .ok (.value v) w' := by
      (intro w' hSw; first | (clear hSw; go_simp; done) | (clear hSw; go_simp; with_reducible rfl) | ((try dsimp only at hSw); go_split_ands; first | (go_simp; done) | (go_simp; with_reducible rfl))))
    (ha : a.put (some d) v = a' := by ((try simp only [Act.put, List.setIfInBounds_toArray, List.set_cons_zero, List.set_cons_succ]); rfl)) (hl : listed.setIfInBounds i true = l' := by ((try simp only [Act.put, List.setIfInBounds_toArray, List.set_cons_zero, List.set_cons_succ]); rfl))
    (hs : Region.noSelect ops = true := by kernel_rfl) (hf : Region.free md ops listed i = true := by kernel_rfl) (hr : (Region.ready md ops listed).contains i = true := by kernel_rfl)
    (hQ : ∀ c a w, Q (.panic c) (a.put (some d) v) w → Q (.panic c) a w := by exact fun _ _ _ h => h) : wpAnyH P md ops Q S (fuel + 1) listed a w := by
 subst ha; subst hl
 exact takeAt hi hd hs hf hr hQ (Or.inl ⟨hw, hy⟩) hS h
theorem tU {P : Program} {ops : Array Oper} {Q : Exit → Act → World → Prop} {md : Region.Mode} {S : World → Prop} {oi : Oper} {fuel : Nat} {listed l' : Array Bool} {a a' : Act} {w : World} (i : Nat) (d : Tmp) (hS : S w) (h : wpAnyH P md ops Q S fuel l' a' w)
    (hi : ops[i]? = some oi := by rfl) (hd : oi.dst = some d := by rfl) (hw : Region.wanted oi (yielded ops a.tmps) = false := by kernel_rfl)
    (ha : a.put (some d) undef = a' := by ((try simp only [Act.put, List.setIfInBounds_toArray, List.set_cons_zero, List.set_cons_succ]); rfl)) (hl : listed.setIfInBounds i true = l' := by ((try simp only [Act.put, List.setIfInBounds_toArray, List.set_cons_zero, List.set_cons_succ]); rfl))
    (hs : Region.noSelect ops = true := by kernel_rfl) (hf : Region.free md ops listed i = true := by kernel_rfl) (hr : (Region.ready md ops listed).contains i = true := by kernel_rfl)
    (hQ : ∀ c a w, Q (.panic c) (a.put (some d) undef) w → Q (.panic c) a w := by exact fun _ _ _ h => h) : wpAnyH P md ops Q S (fuel + 1) listed a w := by
 subst ha; subst hl
 exact takeAt hi hd hs hf hr hQ (Or.inr ⟨hw, rfl⟩) hS h
theorem kW {P : Program} {ops : Array Oper} {Q : Exit → Act → World → Prop} {md : Region.Mode} {S : World → Prop} {k : Nat} {oi : Oper} {v : Value} {fuel : Nat} {listed l' : Array Bool} {a a' : Act} {w : World} (i : Nat) (d : Tmp) (hS : S w) (h : wpAnyK P md ops Q S k fuel l' a' w)
    (hi : ops[i]? = some oi := by rfl) (hd : oi.dst = some d := by rfl) (hik : (i == k) = false := by rfl) (hanc : ancB md ops ops.size k i = true := by kernel_rfl) (hcl : closedB md ops listed = true := by kernel_rfl) (hw : Region.wanted oi (yielded ops a.tmps) = true := by kernel_rfl)
    (hy : ∀ w', S w' → (execOp a.eval oi).run P w' = .ok (.value v) w' := by
      (intro w' hSw; first | (clear hSw; go_simp; done) | (clear hSw; go_simp; with_reducible rfl) | ((try dsimp only at hSw); go_split_ands; first | (go_simp; done) | (go_simp; with_reducible rfl))))
    (ha : a.put (some d) v = a' := by ((try simp only [Act.put, List.setIfInBounds_toArray, List.set_cons_zero, List.set_cons_succ]); rfl)) (hl : listed.setIfInBounds i true = l' := by ((try simp only [Act.put, List.setIfInBounds_toArray, List.set_cons_zero, List.set_cons_succ]); rfl))
    (hs : Region.noSelect ops = true := by kernel_rfl) (hf : Region.free md ops listed i = true := by kernel_rfl) (hr : (Region.ready md ops listed).contains i = true := by kernel_rfl)
    (hQ : ∀ c a w, Q (.panic c) (a.put (some d) v) w → Q (.panic c) a w := by exact fun _ _ _ h => h) : wpAnyK P md ops Q S k (fuel + 1) listed a w := by
 subst ha; subst hl
 exact takeK hi hd hik hanc hcl hs hf hr hQ (Or.inl ⟨hw, hy⟩) hS h
theorem lW {P : Program} {ops : Array Oper} {Q : Exit → Act → World → Prop} {md : Region.Mode} {S : World → Prop} {k : Nat} {oi : Oper} {v : Value} {fuel : Nat} {listed l' : Array Bool} {a a' : Act} {w : World} (i : Nat) (d : Tmp) (hS : S w) (h : wpAnyL P md ops Q S k fuel l' a' w)
    (hi : ops[i]? = some oi := by rfl) (hd : oi.dst = some d := by rfl) (hik : (i == k) = false := by rfl) (hanc : ancB md ops ops.size k i = true := by kernel_rfl) (hcl : closedB md ops listed = true := by kernel_rfl) (hw : Region.wanted oi (yielded ops a.tmps) = true := by kernel_rfl)
    (hy : ∀ w', S w' → (execOp a.eval oi).run P w' = .ok (.value v) w' := by
      (intro w' hSw; first | (clear hSw; go_simp; done) | (clear hSw; go_simp; with_reducible rfl) | ((try dsimp only at hSw); go_split_ands; first | (go_simp; done) | (go_simp; with_reducible rfl))))
    (ha : a.put (some d) v = a' := by ((try simp only [Act.put, List.setIfInBounds_toArray, List.set_cons_zero, List.set_cons_succ]); rfl)) (hl : listed.setIfInBounds i true = l' := by ((try simp only [Act.put, List.setIfInBounds_toArray, List.set_cons_zero, List.set_cons_succ]); rfl))
    (hs : Region.noSelect ops = true := by kernel_rfl) (hf : Region.free md ops listed i = true := by kernel_rfl) (hr : (Region.ready md ops listed).contains i = true := by kernel_rfl)
    (hQ : ∀ c a w, Q (.panic c) (a.put (some d) v) w → Q (.panic c) a w := by exact fun _ _ _ h => h) : wpAnyL P md ops Q S k (fuel + 1) listed a w := by
 subst ha; subst hl
 exact takeL hi hd hik hanc hcl hs hf hr hQ (Or.inl ⟨hw, hy⟩) hS h
end Go.Proofs.YtnppimhlfcjghaaGreat
namespace Go.Proofs.YtnppimhlfcjghaaGreat
open Go.RowKit
theorem tA {P : Program} {ops : Array Oper} {Q : Exit → Act → World → Prop} {md : Region.Mode} {S : World → Prop} {i : Nat} {oi : Oper} {v : Value} {d : Option Tmp} {fuel : Nat} {listed : Array Bool} {a : Act} {w : World} (hi : ops[i]? = some oi) (hd : oi.dst = d)
 (hy : YieldsIf P ops S oi v a) (hS : S w) (h : wpAnyH P md ops Q S fuel (listed.setIfInBounds i true) (a.put d v) w) (hs : Region.noSelect ops = true := by kernel_rfl) (hf : Region.free md ops listed i = true := by kernel_rfl) (hr : (Region.ready md ops listed).contains i = true := by kernel_rfl)
 (hQ : ∀ c a w, Q (.panic c) (a.put d v) w → Q (.panic c) a w := by exact fun _ _ _ h => h) : wpAnyH P md ops Q S (fuel + 1) listed a w := takeAt hi hd hs hf hr hQ hy hS h
theorem tK {P : Program} {ops : Array Oper} {Q : Exit → Act → World → Prop} {md : Region.Mode} {S : World → Prop} {k : Nat} {i : Nat} {oi : Oper} {v : Value} {d : Option Tmp} {fuel : Nat} {listed : Array Bool} {a : Act} {w : World} (hi : ops[i]? = some oi) (hd : oi.dst = d) (hik : (i == k) = false)
 (hy : YieldsIf P ops S oi v a) (hS : S w) (h : wpAnyK P md ops Q S k fuel (listed.setIfInBounds i true) (a.put d v) w) (hanc : ancB md ops ops.size k i = true := by kernel_rfl) (hcl : closedB md ops listed = true := by kernel_rfl) (hs : Region.noSelect ops = true := by kernel_rfl) (hf : Region.free md ops listed i = true := by kernel_rfl) (hr : (Region.ready md ops listed).contains i = true := by kernel_rfl)
 (hQ : ∀ c a w, Q (.panic c) (a.put d v) w → Q (.panic c) a w := by exact fun _ _ _ h => h) : wpAnyK P md ops Q S k (fuel + 1) listed a w := takeK hi hd hik hanc hcl hs hf hr hQ hy hS h
theorem tL {P : Program} {ops : Array Oper} {Q : Exit → Act → World → Prop} {md : Region.Mode} {S : World → Prop} {k : Nat} {i : Nat} {oi : Oper} {v : Value} {d : Option Tmp} {fuel : Nat} {listed : Array Bool} {a : Act} {w : World} (hi : ops[i]? = some oi) (hd : oi.dst = d) (hik : (i == k) = false)
 (hy : YieldsIf P ops S oi v a) (hS : S w) (h : wpAnyL P md ops Q S k fuel (listed.setIfInBounds i true) (a.put d v) w) (hanc : ancB md ops ops.size k i = true := by kernel_rfl) (hcl : closedB md ops listed = true := by kernel_rfl) (hs : Region.noSelect ops = true := by kernel_rfl) (hf : Region.free md ops listed i = true := by kernel_rfl) (hr : (Region.ready md ops listed).contains i = true := by kernel_rfl)
 (hQ : ∀ c a w, Q (.panic c) (a.put d v) w → Q (.panic c) a w := by exact fun _ _ _ h => h) : wpAnyL P md ops Q S k (fuel + 1) listed a w := takeL hi hd hik hanc hcl hs hf hr hQ hy hS h
end Go.Proofs.YtnppimhlfcjghaaGreat
