/- What is read was written so: the plain reader turned round. No program in it. -/
import Derived.Test.YtccficljaomhhaaDoorDecT
namespace Go.Proofs.YtccficljaomhhaaDoor
open Go.RowKit
/-- What is read well, and the numbers that were taken for it. -/
def InvP {α : Type} (f : Rd → α × Rd) (R : α → List Int → Prop) : Prop :=
  ∀ s, (∀ n ∈ s.rem, 0 ≤ n) → (f s).2.bad = false → s.bad = false ∧ ∃ l, s.rem = l ++ (f s).2.rem ∧ R (f s).1 l
section
variable {α β : Type} {f : Rd → α × Rd} {g : α → Rd → β × Rd} {R : α → List Int → Prop} {R2 : α → β → List Int → Prop}
theorem InvP.mono {R' : α → List Int → Prop} (h : InvP f R) (k : ∀ a l, R a l → R' a l) : InvP f R' := fun s hp hb => by
  obtain ⟨h1, l, h2, h3⟩ := h s hp hb
  exact ⟨h1, l, h2, k _ _ h3⟩
theorem inv_bind (hf : InvP f R) (hg : ∀ a, InvP (g a) (R2 a)) (sg : ∀ a, Stuck (g a)) : InvP (bindR f g) (fun b l => ∃ a l1 l2, l = l1 ++ l2 ∧ R a l1 ∧ R2 a b l2) := fun s hp hb => by
  have hfb : (f s).2.bad = false := bad_of_stuck (sg _) hb
  obtain ⟨h1, l1, e1, r1⟩ := hf s hp hfb
  obtain ⟨_, l2, e2, r2⟩ := hg (f s).1 (f s).2 (fun n hn => hp n (by rw [e1]; simp [hn])) hb
  exact ⟨h1, l1 ++ l2, by rw [e1, List.append_assoc]; congr 1, _, l1, l2, rfl, r1, r2⟩
theorem invP_pure (a : α) : InvP (pureR a) (fun b l => b = a ∧ l = []) := fun s _ hb => ⟨hb, [], rfl, rfl, rfl⟩
theorem invP_small (m : Int) : InvP (smallR m) (fun x l => l = [x] ∧ 0 ≤ x ∧ x ≤ m) := by
  rintro ⟨r, b⟩ hp hb
  cases b
  · cases r with
    | nil => simp [smallR] at hb
    | cons n r =>
      by_cases h : n ≤ m
      · have h0 := hp n (by simp)
        rw [smallR_ok h]
        exact ⟨rfl, [n], rfl, rfl, h0, h⟩
      · simp [smallR, h] at hb
  · simp [smallR] at hb
theorem invP_root : InvP rootR (fun x l => l = [x]) := by
  rintro ⟨r, b⟩ hp hb
  cases b
  · cases r with
    | nil => simp [rootR] at hb
    | cons n r => exact ⟨rfl, [n], rfl, rfl⟩
  · simp [rootR] at hb
theorem loopR_end' {k : Nat} {s : Rd} (hb : s.bad = true) : loopR f k s = ([], s) := by cases k <;> simp [loopR, hb]
theorem invP_loop {enc : α → List Int} {ok : α → Bool} (h : InvP f (fun x l => l = enc x ∧ ok x = true)) : ∀ n, InvP (loopR f n) (fun xs l => xs.length = n ∧ l = xs.flatMap enc ∧ xs.all ok = true)
  | 0 => fun s _ hb => ⟨hb, [], rfl, rfl, rfl, rfl⟩
  | n + 1 => fun s hp hb => by
    cases hs : s.bad with
    | true => rw [loopR_end' hs] at hb; rw [hs] at hb; cases hb
    | false =>
      rw [loopR, hs] at hb ⊢
      simp only [Bool.false_eq_true, if_false] at hb ⊢
      have hfb : (f s).2.bad = false := bad_of_stuck (loop_stuck f n) hb
      obtain ⟨_, l1, e1, r1, o1⟩ := h s hp hfb
      obtain ⟨_, l2, e2, n2, r2, o2⟩ := invP_loop h n (f s).2 (fun n hn => hp n (by rw [e1]; simp [hn])) hb
      exact ⟨trivial, l1 ++ l2, by rw [e1, List.append_assoc]; congr 1, by simp [n2], by rw [List.flatMap_cons, r1, r2], by simp [o1, o2]⟩
end
theorem w64_small {x m : Int} (h : 0 ≤ x ∧ x ≤ m) (hm : m ≤ 9223372036854775807) : w64 x = x := w64_id h.1 (by omega)
theorem invP_point : InvP pointR (fun p l => l = [p.e, p.r] ∧ 0 ≤ p.e ∧ p.e ≤ 1099511627776) := by
  rw [pointR_eq]
  refine (inv_bind (invP_small _) (fun _ => inv_bind invP_root (fun _ => invP_pure _) (fun _ => stuck_pure _)) (fun _ => stuck_bind root_stuck (fun _ => stuck_pure _))).mono ?_
  rintro p l ⟨a, l1, l2, rfl, ⟨rfl, h1⟩, r, l3, l4, rfl, rfl, rfl, rfl⟩
  exact ⟨rfl, h1⟩
theorem invP_vote : InvP voteR (fun v l => l = voteN v ∧ voteB v = true) := by
  rw [voteR_eq]
  have who : InvP (smallR 4095) (fun x l => l = [x] ∧ (decide (0 ≤ x) && decide (x < 4096)) = true) := (invP_small 4095).mono (fun x l ⟨h1, h2, h3⟩ => ⟨h1, by simp [h2]; omega⟩)
  refine (inv_bind (invP_small _) (fun _ => inv_bind invP_root (fun _ => inv_bind invP_point (fun _ => inv_bind invP_point (fun _ => inv_bind (invP_small _) (fun n => inv_bind (invP_loop who n.toNat) (fun _ => invP_pure _) (fun _ => stuck_pure _)) (fun _ => stuck_bind (loop_stuck _ _) (fun _ => stuck_pure _)))
    (fun _ => stuck_bind (small_stuck _) (fun _ => stuck_bind (loop_stuck _ _) (fun _ => stuck_pure _)))) (fun _ => stuck_bind point_stuck (fun _ => stuck_bind (small_stuck _) (fun _ => stuck_bind (loop_stuck _ _) (fun _ => stuck_pure _)))))
    (fun _ => stuck_bind point_stuck (fun _ => stuck_bind point_stuck (fun _ => stuck_bind (small_stuck _) (fun _ => stuck_bind (loop_stuck _ _) (fun _ => stuck_pure _))))))
    (fun _ => stuck_bind root_stuck (fun _ => stuck_bind point_stuck (fun _ => stuck_bind point_stuck (fun _ => stuck_bind (small_stuck _) (fun _ => stuck_bind (loop_stuck _ _) (fun _ => stuck_pure _))))))).mono ?_
  rintro v l ⟨a, _, _, rfl, ⟨rfl, ha⟩, b, _, _, rfl, rfl, c, _, _, rfl, ⟨rfl, hc⟩, d, _, _, rfl, ⟨rfl, hd⟩, n, _, _, rfl, ⟨rfl, hn⟩, w, _, _, rfl, ⟨hwl, rfl, hw⟩, rfl, rfl⟩
  have hnl : (w.length : Int) = n := by omega
  have e1 : w64 a = a := w64_small ha (by decide)
  have e2 : w64 c.e = c.e := w64_small hc (by decide)
  have e3 : w64 d.e = d.e := w64_small hd (by decide)
  have e4 : w64 n = n := w64_small hn (by decide)
  have hwB : whoB w = true := hw
  have e5 : w.map w64 = w.flatMap (fun x => [x]) := by
    rw [List.flatMap_singleton']
    conv => rhs; rw [← List.map_id w]
    refine List.map_congr_left (fun x hx => ?_)
    have := List.all_eq_true.1 hw x hx
    simp only [Bool.and_eq_true, decide_eq_true_eq] at this
    exact w64_id this.1 (by omega)
  refine ⟨?_, ?_⟩
  · simp [voteN, e1, e2, e3, hnl, e4, e5]
  · rw [voteB, smallB_three, hwB]
    simp [ha, hc, hd]
    omega
theorem invP_proof : InvP proofR (fun p l => l = proofN p ∧ proofB p = true) := by
  rw [proofR_eq]
  refine (inv_bind invP_vote (fun _ => inv_bind invP_vote (fun _ => invP_pure _) (fun _ => stuck_pure _)) (fun _ => stuck_bind vote_stuck (fun _ => stuck_pure _))).mono ?_
  rintro p l ⟨a, _, _, rfl, ⟨rfl, ha⟩, b, _, _, rfl, ⟨rfl, hb⟩, rfl, rfl⟩
  exact ⟨by simp [proofN], by simp [proofB, ha, hb]⟩
theorem invP_block : InvP blockR (fun b l => l = blockN b ∧ blockB b = true) := by
  rw [blockR_eq]
  have s7 : ∀ (a b c : Int) (m : Int) (v : List Vt), Stuck (bindR (loopR proofR m.toNat) (fun p => pureR (⟨a, b, c, v, p⟩ : Bk))) := fun _ _ _ _ _ => stuck_bind (loop_stuck _ _) (fun _ => stuck_pure _)
  have s6 : ∀ (a b c : Int) (n m : Int), Stuck (bindR (loopR voteR n.toNat) (fun v => bindR (loopR proofR m.toNat) (fun p => pureR (⟨a, b, c, v, p⟩ : Bk)))) := fun a b c n m => stuck_bind (loop_stuck _ _) (fun v => s7 a b c m v)
  have s5 : ∀ (a b c : Int) (n : Int), Stuck (bindR (smallR 16) (fun m => bindR (loopR voteR n.toNat) (fun v => bindR (loopR proofR m.toNat) (fun p => pureR (⟨a, b, c, v, p⟩ : Bk))))) := fun a b c n => stuck_bind (small_stuck _) (fun m => s6 a b c n m)
  have s4 : ∀ (a b c : Int), Stuck (bindR (smallR 16) (fun n => bindR (smallR 16) (fun m => bindR (loopR voteR n.toNat) (fun v => bindR (loopR proofR m.toNat) (fun p => pureR (⟨a, b, c, v, p⟩ : Bk)))))) := fun a b c => stuck_bind (small_stuck _) (fun n => s5 a b c n)
  have s3 : ∀ (a b : Int), Stuck (bindR (smallR 1099511627776) (fun c => bindR (smallR 16) (fun n => bindR (smallR 16) (fun m => bindR (loopR voteR n.toNat) (fun v => bindR (loopR proofR m.toNat) (fun p => pureR (⟨a, b, c, v, p⟩ : Bk))))))) := fun a b => stuck_bind (small_stuck _) (fun c => s4 a b c)
  refine (inv_bind invP_root (fun a => inv_bind invP_root (fun b => inv_bind (invP_small _) (fun c => inv_bind (invP_small _) (fun n => inv_bind (invP_small _) (fun m => inv_bind (invP_loop invP_vote n.toNat) (fun v => inv_bind (invP_loop invP_proof m.toNat) (fun _ => invP_pure _) (fun _ => stuck_pure _)) (fun v => s7 a b c m v)) (fun m => s6 a b c n m)) (fun n => s5 a b c n)) (fun c => s4 a b c)) (fun b => s3 a b)) (fun a => stuck_bind root_stuck (fun b => s3 a b))).mono ?_
  rintro x l ⟨a, _, _, rfl, rfl, b, _, _, rfl, rfl, c, _, _, rfl, ⟨rfl, hc⟩, n, _, _, rfl, ⟨rfl, hn⟩, m, _, _, rfl, ⟨rfl, hm⟩, v, _, _, rfl, ⟨hvl, rfl, hv⟩, p, _, _, rfl, ⟨hpl, rfl, hp⟩, rfl, rfl⟩
  have e1 : w64 c = c := w64_small hc (by decide)
  have e2 : (v.length : Int) = n := by omega
  have e3 : (p.length : Int) = m := by omega
  have e4 : w64 n = n := w64_small hn (by decide)
  have e5 : w64 m = m := w64_small hm (by decide)
  refine ⟨by simp [blockN, e1, e2, e3, e4, e5], ?_⟩
  simp only [blockB, Bool.and_eq_true, decide_eq_true_eq]
  exact ⟨⟨⟨⟨hc, by omega⟩, by omega⟩, hv⟩, hp⟩
theorem invP_ev : InvP evR (fun e l => l = evN e ∧ mayB e = true) := by
  rw [evR_eq]
  have body : ∀ k : Int, 0 ≤ k ∧ k ≤ 3 → InvP (bodyR k) (fun e l => [k] ++ l = evN e ∧ mayB e = true) := by
    intro k hk
    have e0 : w64 k = k := w64_small hk (by decide)
    unfold bodyR
    by_cases k0 : k = 0
    · subst k0
      rw [if_pos rfl]
      refine (inv_bind (invP_small _) (fun _ => invP_pure _) (fun _ => stuck_pure _)).mono ?_
      rintro e l ⟨x, _, _, rfl, ⟨rfl, hx⟩, rfl, rfl⟩
      have e1 : w64 x = x := w64_small hx (by decide)
      exact ⟨by simp [evN, e0, e1], by simp [mayB, hx]⟩
    · rw [if_neg k0]
      by_cases k1 : k = 1
      · subst k1
        rw [if_pos rfl]
        refine (inv_bind invP_block (fun _ => invP_pure _) (fun _ => stuck_pure _)).mono ?_
        rintro e l ⟨x, _, _, rfl, ⟨rfl, hx⟩, rfl, rfl⟩
        exact ⟨by simp [evN, e0], by simp [mayB, hx]⟩
      · rw [if_neg k1]
        by_cases k2 : k = 2
        · subst k2
          rw [if_pos rfl]
          refine (inv_bind invP_vote (fun _ => invP_pure _) (fun _ => stuck_pure _)).mono ?_
          rintro e l ⟨x, _, _, rfl, ⟨rfl, hx⟩, rfl, rfl⟩
          exact ⟨by simp [evN, e0], by simp [mayB, hx]⟩
        · rw [if_neg k2]
          have k3 : k = 3 := by omega
          subst k3
          refine (inv_bind invP_proof (fun _ => invP_pure _) (fun _ => stuck_pure _)).mono ?_
          rintro e l ⟨x, _, _, rfl, ⟨rfl, hx⟩, rfl, rfl⟩
          exact ⟨by simp [evN, e0], by simpa [mayB, proofB] using hx⟩
  intro s hp hb
  have hfb : (smallR 3 s).2.bad = false := bad_of_stuck (body_stuck _) hb
  obtain ⟨h1, l1, e1, rfl, hk⟩ := invP_small 3 s hp hfb
  obtain ⟨_, l2, e2, r2, o2⟩ := body (smallR 3 s).1 hk (smallR 3 s).2 (fun n hn => hp n (by rw [e1]; simp [hn])) hb
  exact ⟨h1, [(smallR 3 s).1] ++ l2, by rw [e1, List.append_assoc]; congr 1, r2, o2⟩
theorem decR_inv (tl : Bool) (xs : List Ev) : ∀ (k : Nat) (rem : List Int), (∀ n ∈ rem, 0 ≤ n) → (decR tl k rem).1 = some xs → rem = encN xs ∧ tl = false ∧ xs.all mayB = true ∧ xs.length ≤ k := by
  induction xs with
  | nil =>
    intro k rem hp h
    cases k with
    | zero =>
      rw [decR] at h
      split at h
      · next h0 => exact ⟨by rw [h0.1]; rfl, h0.2, rfl, Nat.le_refl _⟩
      · cases h
    | succ k =>
      rw [decR] at h
      split at h
      · next h0 => exact ⟨by rw [h0.1]; rfl, h0.2, rfl, Nat.zero_le _⟩
      · split at h
        · cases h
        · obtain ⟨ys, _, hy⟩ := Option.map_eq_some_iff.1 h
          cases hy
  | cons x xs ih =>
    intro k rem hp h
    cases k with
    | zero =>
      rw [decR] at h
      split at h
      · cases h
      · cases h
    | succ k =>
      rw [decR] at h
      split at h
      · cases h
      · split at h
        · cases h
        · next hb =>
          have hb' : (evR ⟨rem, false⟩).2.bad = false := by simpa using hb
          obtain ⟨ys, hys, hy⟩ := Option.map_eq_some_iff.1 h
          injection hy with h1 h2
          subst h1 h2
          obtain ⟨_, l, e1, rfl, o1⟩ := invP_ev ⟨rem, false⟩ hp hb'
          have e1' : rem = evN (evR ⟨rem, false⟩).1 ++ (evR ⟨rem, false⟩).2.rem := e1
          obtain ⟨e2, t2, a2, l2⟩ := ih k _ (fun n hn => hp n (by rw [e1']; simp [hn])) hys
          refine ⟨?_, t2, by simp [o1, a2], by simpa using l2⟩
          conv => lhs; rw [e1', e2]
          simp [encN]
end Go.Proofs.YtccficljaomhhaaDoor
