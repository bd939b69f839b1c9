/- The plain reader: what it makes of numbers. No program in it. -/
import Derived.Test.YtccficljaomhhaaDoorL04b
namespace Go.Proofs.YtccficljaomhhaaDoor
open Go.RowKit
structure Rd where
  rem : List Int
  bad : Bool
/-- A number that is not above some. -/
def smallR (most : Int) (s : Rd) : Int × Rd :=
  match s.rem, s.bad with
  | n :: r, false => if n ≤ most then (n, ⟨r, false⟩) else (0, ⟨n :: r, true⟩)
  | r, _ => (0, ⟨r, true⟩)
def rootR (s : Rd) : Int × Rd :=
  match s.rem, s.bad with
  | n :: r, false => (n, ⟨r, false⟩)
  | r, _ => (0, ⟨r, true⟩)
def pointR (s : Rd) : Pt × Rd := (⟨(smallR 1099511627776 s).1, (rootR (smallR 1099511627776 s).2).1⟩, (rootR (smallR 1099511627776 s).2).2)
def loopR {α : Type} (f : Rd → α × Rd) : Nat → Rd → List α × Rd
  | 0, s => ([], s)
  | n + 1, s => if s.bad then ([], s) else ((f s).1 :: (loopR f n (f s).2).1, (loopR f n (f s).2).2)
def voteR (s : Rd) : Vt × Rd :=
  let a := smallR 1099511627776 s
  let b := rootR a.2
  let c := pointR b.2
  let d := pointR c.2
  let n := smallR 4096 d.2
  let w := loopR (smallR 4095) n.1.toNat n.2
  (⟨a.1, b.1, c.1, d.1, w.1⟩, w.2)
def proofR (s : Rd) : Pf × Rd := (⟨(voteR s).1, (voteR (voteR s).2).1⟩, (voteR (voteR s).2).2)
def blockR (s : Rd) : Bk × Rd :=
  let a := rootR s
  let b := rootR a.2
  let c := smallR 1099511627776 b.2
  let n := smallR 16 c.2
  let m := smallR 16 n.2
  let v := loopR voteR n.1.toNat m.2
  let p := loopR proofR m.1.toNat v.2
  (⟨a.1, b.1, c.1, v.1, p.1⟩, p.2)
def evR (s : Rd) : Ev × Rd :=
  let k := smallR 3 s
  if k.1 = 0 then (⟨k.1, (smallR 1099511627776 k.2).1, Bk.zero, Vt.zero, Pf.zero⟩, (smallR 1099511627776 k.2).2)
  else if k.1 = 1 then (⟨k.1, 0, (blockR k.2).1, Vt.zero, Pf.zero⟩, (blockR k.2).2)
  else if k.1 = 2 then (⟨k.1, 0, Bk.zero, (voteR k.2).1, Pf.zero⟩, (voteR k.2).2)
  else (⟨k.1, 0, Bk.zero, Vt.zero, (proofR k.2).1⟩, (proofR k.2).2)
/-- The events, and how many numbers are left where what is wrong begins. -/
def decR (tl : Bool) : Nat → List Int → Option (List Ev) × Nat
  | 0, rem => if rem = [] ∧ tl = false then (some [], 0) else (none, rem.length)
  | k + 1, rem => if rem = [] ∧ tl = false then (some [], 0) else
      if (evR ⟨rem, false⟩).2.bad then (none, (evR ⟨rem, false⟩).2.rem.length)
      else ((decR tl k (evR ⟨rem, false⟩).2.rem).1.map ((evR ⟨rem, false⟩).1 :: ·), (decR tl k (evR ⟨rem, false⟩).2.rem).2)
/-- An event with what counts of it alone. -/
def bareE (e : Ev) : Ev :=
  ⟨e.kind, if e.kind = 0 then e.slot else 0, if e.kind = 1 then e.block else Bk.zero, if e.kind = 2 then e.vote else Vt.zero, if e.kind = 3 then e.proof else Pf.zero⟩

/-! ## What is written is read -/
theorem smallR_ok {most n : Int} {r : List Int} (h : n ≤ most) : smallR most ⟨n :: r, false⟩ = (n, ⟨r, false⟩) := by simp [smallR, h]
theorem smallR_bad (most : Int) (r : List Int) : smallR most ⟨r, true⟩ = (0, ⟨r, true⟩) := by simp [smallR]
theorem rootR_ok (n : Int) (r : List Int) : rootR ⟨n :: r, false⟩ = (n, ⟨r, false⟩) := rfl
theorem rootR_bad (r : List Int) : rootR ⟨r, true⟩ = (0, ⟨r, true⟩) := by simp [rootR]
theorem loopR_ok {α : Type} {f : Rd → α × Rd} {enc : α → List Int} (xs : List α) (r : List Int) (h : ∀ x ∈ xs, ∀ r, f ⟨enc x ++ r, false⟩ = (x, ⟨r, false⟩)) : loopR f xs.length ⟨xs.flatMap enc ++ r, false⟩ = (xs, ⟨r, false⟩) := by
  induction xs with
  | nil => rfl
  | cons x xs ih =>
    have h1 := h x (by simp) (xs.flatMap enc ++ r)
    have h2 := ih (fun y hy => h y (by simp [hy]))
    simp only [List.length_cons, loopR, List.flatMap_cons, List.append_assoc, h1, h2]
    simp
theorem whoR_ok {xs : List Int} (h : whoB xs = true) (r : List Int) : loopR (smallR 4095) xs.length ⟨xs.map w64 ++ r, false⟩ = (xs, ⟨r, false⟩) := by
  have e : xs.map w64 = xs.flatMap (fun x => [x]) := by
    rw [List.flatMap_singleton']
    conv => rhs; rw [← List.map_id xs]
    refine List.map_congr_left (fun x hx => ?_)
    have := List.all_eq_true.1 h x hx
    simp only [Bool.and_eq_true, decide_eq_true_eq] at this
    exact w64_id this.1 (by omega)
  rw [e]
  refine loopR_ok xs r (fun x hx r => ?_)
  have := List.all_eq_true.1 h x hx
  simp only [Bool.and_eq_true, decide_eq_true_eq] at this
  exact smallR_ok (by omega)
theorem small3 {a b c : Int} (h : smallB [a, b, c] = true) : (0 ≤ a ∧ a ≤ 1099511627776) ∧ (0 ≤ b ∧ b ≤ 1099511627776) ∧ 0 ≤ c ∧ c ≤ 1099511627776 := by
  rw [smallB_three] at h
  simp only [Bool.and_eq_true, decide_eq_true_eq] at h
  omega
theorem voteR_ok {v : Vt} (h : voteB v = true) (r : List Int) : voteR ⟨voteN v ++ r, false⟩ = (v, ⟨r, false⟩) := by
  simp only [voteB, Bool.and_eq_true, decide_eq_true_eq] at h
  obtain ⟨⟨h1, h2⟩, h3⟩ := h
  obtain ⟨a, b, c⟩ := small3 h1
  have e1 : w64 v.slot = v.slot := w64_id a.1 (by omega)
  have e2 : w64 v.src.e = v.src.e := w64_id b.1 (by omega)
  have e3 : w64 v.tgt.e = v.tgt.e := w64_id c.1 (by omega)
  have e4 : w64 v.who.length = v.who.length := w64_id (by omega) (by omega)
  have hw := whoR_ok h3 r
  have l4 : (v.who.length : Int) ≤ 4096 := by omega
  simp only [voteN, e1, e2, e3, e4, voteR, pointR, List.cons_append, List.nil_append, smallR_ok a.2, smallR_ok b.2, smallR_ok c.2, smallR_ok l4, rootR_ok, Int.toNat_natCast, hw]
theorem proofR_ok {p : Pf} (h : proofB p = true) (r : List Int) : proofR ⟨proofN p ++ r, false⟩ = (p, ⟨r, false⟩) := by
  simp only [proofB, Bool.and_eq_true] at h
  simp only [proofR, proofN, List.append_assoc, voteR_ok h.1, voteR_ok h.2]
theorem blockR_ok {b : Bk} (h : blockB b = true) (r : List Int) : blockR ⟨blockN b ++ r, false⟩ = (b, ⟨r, false⟩) := by
  simp only [blockB, Bool.and_eq_true, decide_eq_true_eq] at h
  obtain ⟨⟨⟨⟨h1, h2⟩, h3⟩, h4⟩, h5⟩ := h
  have e1 : w64 b.slot = b.slot := w64_id h1.1 (by omega)
  have e2 : w64 b.votes.length = b.votes.length := w64_id (by omega) (by omega)
  have e3 : w64 b.proofs.length = b.proofs.length := w64_id (by omega) (by omega)
  have l2 : (b.votes.length : Int) ≤ 16 := by omega
  have l3 : (b.proofs.length : Int) ≤ 16 := by omega
  have v := fun r => loopR_ok (f := voteR) (enc := voteN) b.votes r (fun x hx r => voteR_ok (List.all_eq_true.1 h4 x hx) r)
  have p := fun r => loopR_ok (f := proofR) (enc := proofN) b.proofs r (fun x hx r => proofR_ok (List.all_eq_true.1 h5 x hx) r)
  simp only [blockN, e1, e2, e3, blockR, List.cons_append, List.nil_append, List.append_assoc, smallR_ok h1.2, smallR_ok l2, smallR_ok l3, rootR_ok, Int.toNat_natCast, v, p]
theorem evR_ok {e : Ev} (h : mayB e = true) (r : List Int) : evR ⟨evN e ++ r, false⟩ = (bareE e, ⟨r, false⟩) := by
  by_cases k0 : e.kind = 0
  · have h1 : 0 ≤ e.slot ∧ e.slot ≤ 1099511627776 := by simpa [mayB, k0] using h
    have e1 : w64 e.slot = e.slot := w64_id h1.1 (by omega)
    simp [evN, k0, evR, bareE, e1, smallR_ok h1.2, smallR_ok, show w64 0 = 0 from rfl]
  · by_cases k1 : e.kind = 1
    · have h1 : blockB e.block = true := by simpa [mayB, k1] using h
      simp [evN, k1, evR, bareE, blockR_ok h1, smallR_ok, show w64 1 = 1 from rfl]
    · by_cases k2 : e.kind = 2
      · have h1 : voteB e.vote = true := by simpa [mayB, k2] using h
        simp [evN, k2, evR, bareE, voteR_ok h1, smallR_ok, show w64 2 = 2 from rfl]
      · by_cases k3 : e.kind = 3
        · have h1 : proofB e.proof = true := by simpa [mayB, k3, proofB] using h
          simp [evN, k3, evR, bareE, proofR_ok h1, smallR_ok, show w64 3 = 3 from rfl]
        · simp [mayB, k0, k1, k2, k3] at h
theorem evN_pos (e : Ev) : evN e ≠ [] := by simp [evN]
theorem decR_ok (es : List Ev) (k : Nat) (hk : es.length ≤ k) (h : es.all mayB = true) : decR false k (encN es) = (some (es.map bareE), 0) := by
  induction es generalizing k with
  | nil => cases k <;> simp [decR, encN]
  | cons e es ih =>
    match k, hk with
    | k + 1, hk =>
      simp only [List.all_cons, Bool.and_eq_true] at h
      have h1 := evR_ok h.1 (encN es)
      have h2 := ih k (by simpa using hk) h.2
      have h3 : encN (e :: es) = evN e ++ encN es := by simp [encN]
      rw [decR, h3, h1, if_neg (by simp [evN_pos])]
      simp [h2]
theorem decR_many (es : List Ev) (k : Nat) (hk : k < es.length) (h : es.all mayB = true) : decR false k (encN es) = (none, (encN (es.drop k)).length) := by
  induction es generalizing k with
  | nil => simp at hk
  | cons e es ih =>
    have h3 : encN (e :: es) = evN e ++ encN es := by simp [encN]
    match k, hk with
    | 0, hk => rw [decR, h3, if_neg (by simp [evN_pos])]; simp [h3]
    | k + 1, hk =>
      simp only [List.all_cons, Bool.and_eq_true] at h
      have h1 := evR_ok h.1 (encN es)
      have h2 := ih k (by simpa using hk) h.2
      rw [decR, h3, h1, if_neg (by simp [evN_pos])]
      simp [h2]

/-! ## What is read was written -/
/-- Once bad, always bad, and nothing is taken. -/
def Stuck {α : Type} (f : Rd → α × Rd) : Prop := ∀ r, (f ⟨r, true⟩).2 = ⟨r, true⟩
/-- What is read well was written so. -/
def Inv {α : Type} (f : Rd → α × Rd) (enc : α → List Int) (ok : α → Bool) : Prop :=
  ∀ s, (∀ n ∈ s.rem, 0 ≤ n) → (f s).2.bad = false → s.bad = false ∧ s.rem = enc (f s).1 ++ (f s).2.rem ∧ ok (f s).1 = true
theorem small_stuck (m : Int) : Stuck (smallR m) := fun r => by rw [smallR_bad]
theorem root_stuck : Stuck rootR := fun r => by rw [rootR_bad]
theorem small_inv {m : Int} (hm : m ≤ 9223372036854775807) : Inv (smallR m) (fun x => [w64 x]) (fun x => decide (0 ≤ x) && decide (x ≤ m)) := by
  rintro ⟨r, b⟩ hp hb
  cases b
  · cases r with
    | nil => simp [smallR] at hb
    | cons n r =>
      by_cases h : n ≤ m
      · have h0 := hp n (by simp)
        simp [smallR, h, h0, w64_id h0 (by omega)]
      · simp [smallR, h] at hb
  · simp [smallR] at hb
theorem root_inv : Inv rootR (fun x => [x]) (fun _ => true) := by
  rintro ⟨r, b⟩ hp hb
  cases b
  · cases r with
    | nil => simp [rootR] at hb
    | cons n r => simp [rootR]
  · simp [rootR] at hb
theorem Inv.rest {α : Type} {f : Rd → α × Rd} {enc : α → List Int} {ok : α → Bool} (h : Inv f enc ok) {s : Rd} (hp : ∀ n ∈ s.rem, 0 ≤ n) (hb : (f s).2.bad = false) : ∀ n ∈ (f s).2.rem, 0 ≤ n := fun n hn => hp n (by rw [(h s hp hb).2.1]; simp [hn])
theorem bad_of_stuck {α : Type} {f : Rd → α × Rd} (h : Stuck f) {s : Rd} (hb : (f s).2.bad = false) : s.bad = false := by
  obtain ⟨r, b⟩ := s
  cases b
  · rfl
  · rw [h r] at hb; exact hb
theorem loop_stuck {α : Type} (f : Rd → α × Rd) (n : Nat) : Stuck (loopR f n) := fun r => by cases n <;> simp [loopR]
theorem loop_inv {α : Type} {f : Rd → α × Rd} {enc : α → List Int} {ok : α → Bool} (h : Inv f enc ok) (n : Nat) : ∀ s, s.bad = false → (∀ n ∈ s.rem, 0 ≤ n) → (loopR f n s).2.bad = false → s.rem = (loopR f n s).1.flatMap enc ++ (loopR f n s).2.rem ∧ (loopR f n s).1.length = n ∧ (loopR f n s).1.all ok = true := by
  induction n with
  | zero => intro s _ _ _; simp [loopR]
  | succ n ih =>
    intro s hs hp hb
    simp only [loopR, hs, Bool.false_eq_true, if_false] at hb ⊢
    have h1 : (f s).2.bad = false := bad_of_stuck (loop_stuck f n) hb
    obtain ⟨_, e1, o1⟩ := h s hp h1
    obtain ⟨e2, l2, o2⟩ := ih _ h1 (h.rest hp h1) hb
    refine ⟨?_, by simp [l2], by simp [o1, o2]⟩
    rw [e1]
    simp only [List.flatMap_cons, List.append_assoc]
    rw [← e2]
end Go.Proofs.YtccficljaomhhaaDoor
