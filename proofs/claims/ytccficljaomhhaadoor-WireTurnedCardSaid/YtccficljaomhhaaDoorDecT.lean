/- The plain reader over numbers of which the last ones are missing. No program in it. -/
import Derived.Test.YtccficljaomhhaaDoorDecL
namespace Go.Proofs.YtccficljaomhhaaDoor
open Go.RowKit
/-- What is read of a part of the numbers: the same, or nothing more is there. -/
def Tr {α : Type} (f : Rd → α × Rd) : Prop := ∀ l t, t ≠ [] → (f ⟨l ++ t, false⟩).2.bad = false →
  (∃ r, (f ⟨l ++ t, false⟩).2 = ⟨r ++ t, false⟩ ∧ f ⟨l, false⟩ = ((f ⟨l ++ t, false⟩).1, ⟨r, false⟩)) ∨ (f ⟨l, false⟩).2 = ⟨[], true⟩
def bindR {α β : Type} (f : Rd → α × Rd) (g : α → Rd → β × Rd) (s : Rd) : β × Rd := g (f s).1 (f s).2
def pureR {α : Type} (a : α) (s : Rd) : α × Rd := (a, s)
section
variable {α β : Type} {f : Rd → α × Rd} {g : α → Rd → β × Rd}
theorem stuck_bind (hf : Stuck f) (hg : ∀ a, Stuck (g a)) : Stuck (bindR f g) := fun r => by
  rw [bindR, hf r]; exact hg _ r
theorem tr_bind (hf : Tr f) (hg : ∀ a, Tr (g a)) (sg : ∀ a, Stuck (g a)) : Tr (bindR f g) := fun l t ht hb => by
  have hfb : (f ⟨l ++ t, false⟩).2.bad = false := bad_of_stuck (sg _) hb
  rcases hf l t ht hfb with ⟨r, h1, h2⟩ | h
  · simp only [bindR] at hb ⊢
    rw [h1] at hb ⊢
    rw [h2]
    exact hg _ r t ht hb
  · right
    rw [bindR, h]
    exact sg _ []
theorem stuck_pure (a : α) : Stuck (pureR a) := fun _ => rfl
theorem tr_pure (a : α) : Tr (pureR a) := fun l t _ _ => .inl ⟨l, rfl, rfl⟩
theorem tr_small (m : Int) : Tr (smallR m) := fun l t ht hb => by
  cases l with
  | nil => exact .inr rfl
  | cons n l =>
    left
    by_cases h : n ≤ m
    · exact ⟨l, by rw [List.cons_append, smallR_ok h], by rw [List.cons_append, smallR_ok h, smallR_ok h]⟩
    · simp [smallR, h] at hb
theorem tr_root : Tr rootR := fun l t ht hb => by
  cases l with
  | nil => exact .inr rfl
  | cons n l => exact .inl ⟨l, rfl, rfl⟩
theorem loopR_bind (f : Rd → α × Rd) (n : Nat) (s : Rd) (hs : s.bad = false) : loopR f (n + 1) s = bindR f (fun a => bindR (loopR f n) (fun rs => pureR (a :: rs))) s := by
  simp [loopR, hs, bindR, pureR]
theorem tr_loop (hf : Tr f) (sf : Stuck f) : ∀ n, Tr (loopR f n)
  | 0 => fun l t _ _ => .inl ⟨l, rfl, rfl⟩
  | n + 1 => fun l t ht hb => by
    rw [loopR_bind f n ⟨l ++ t, false⟩ rfl] at hb
    rw [loopR_bind f n ⟨l ++ t, false⟩ rfl, loopR_bind f n ⟨l, false⟩ rfl]
    exact tr_bind hf (fun a => tr_bind (tr_loop hf sf n) (fun _ => tr_pure _) (fun _ => stuck_pure _)) (fun a => stuck_bind (loop_stuck f n) (fun _ => stuck_pure _)) l t ht hb
end
theorem pointR_eq : pointR = bindR (smallR 1099511627776) (fun e => bindR rootR (fun r => pureR ⟨e, r⟩)) := rfl
theorem point_stuck : Stuck pointR := by rw [pointR_eq]; exact stuck_bind (small_stuck _) (fun _ => stuck_bind root_stuck (fun _ => stuck_pure _))
theorem tr_point : Tr pointR := by rw [pointR_eq]; exact tr_bind (tr_small _) (fun _ => tr_bind tr_root (fun _ => tr_pure _) (fun _ => stuck_pure _)) (fun _ => stuck_bind root_stuck (fun _ => stuck_pure _))
theorem voteR_eq : voteR = bindR (smallR 1099511627776) (fun a => bindR rootR (fun b => bindR pointR (fun c => bindR pointR (fun d => bindR (smallR 4096) (fun n => bindR (loopR (smallR 4095) n.toNat) (fun w => pureR ⟨a, b, c, d, w⟩)))))) := rfl
theorem vote_stuck : Stuck voteR := by
  rw [voteR_eq]
  exact stuck_bind (small_stuck _) (fun _ => stuck_bind root_stuck (fun _ => stuck_bind point_stuck (fun _ => stuck_bind point_stuck (fun _ => stuck_bind (small_stuck _) (fun _ => stuck_bind (loop_stuck _ _) (fun _ => stuck_pure _))))))
theorem tr_vote : Tr voteR := by
  rw [voteR_eq]
  exact tr_bind (tr_small _) (fun _ => tr_bind tr_root (fun _ => tr_bind tr_point (fun _ => tr_bind tr_point (fun _ => tr_bind (tr_small _) (fun _ => tr_bind (tr_loop (tr_small _) (small_stuck _) _) (fun _ => tr_pure _) (fun _ => stuck_pure _)) (fun _ => stuck_bind (loop_stuck _ _) (fun _ => stuck_pure _)))
    (fun _ => stuck_bind (small_stuck _) (fun _ => stuck_bind (loop_stuck _ _) (fun _ => stuck_pure _)))) (fun _ => stuck_bind point_stuck (fun _ => stuck_bind (small_stuck _) (fun _ => stuck_bind (loop_stuck _ _) (fun _ => stuck_pure _)))))
    (fun _ => stuck_bind point_stuck (fun _ => stuck_bind point_stuck (fun _ => stuck_bind (small_stuck _) (fun _ => stuck_bind (loop_stuck _ _) (fun _ => stuck_pure _))))))
    (fun _ => stuck_bind root_stuck (fun _ => stuck_bind point_stuck (fun _ => stuck_bind point_stuck (fun _ => stuck_bind (small_stuck _) (fun _ => stuck_bind (loop_stuck _ _) (fun _ => stuck_pure _))))))
theorem proofR_eq : proofR = bindR voteR (fun a => bindR voteR (fun b => pureR ⟨a, b⟩)) := rfl
theorem proof_stuck : Stuck proofR := by rw [proofR_eq]; exact stuck_bind vote_stuck (fun _ => stuck_bind vote_stuck (fun _ => stuck_pure _))
theorem tr_proof : Tr proofR := by rw [proofR_eq]; exact tr_bind tr_vote (fun _ => tr_bind tr_vote (fun _ => tr_pure _) (fun _ => stuck_pure _)) (fun _ => stuck_bind vote_stuck (fun _ => stuck_pure _))
theorem blockR_eq : blockR = bindR rootR (fun a => bindR rootR (fun b => bindR (smallR 1099511627776) (fun c => bindR (smallR 16) (fun n => bindR (smallR 16) (fun m => bindR (loopR voteR n.toNat) (fun v => bindR (loopR proofR m.toNat) (fun p => pureR ⟨a, b, c, v, p⟩))))))) := rfl
theorem block_stuck : Stuck blockR := by
  rw [blockR_eq]
  exact stuck_bind root_stuck (fun _ => stuck_bind root_stuck (fun _ => stuck_bind (small_stuck _) (fun _ => stuck_bind (small_stuck _) (fun _ => stuck_bind (small_stuck _) (fun _ => stuck_bind (loop_stuck _ _) (fun _ => stuck_bind (loop_stuck _ _) (fun _ => stuck_pure _)))))))
theorem tr_block : Tr blockR := by
  rw [blockR_eq]
  have s7 : ∀ (a b c : Int) (m : Int) (v : List Vt), Stuck (bindR (loopR proofR m.toNat) (fun p => pureR (⟨a, b, c, v, p⟩ : Bk))) := fun _ _ _ _ _ => stuck_bind (loop_stuck _ _) (fun _ => stuck_pure _)
  have s6 : ∀ (a b c : Int) (n m : Int), Stuck (bindR (loopR voteR n.toNat) (fun v => bindR (loopR proofR m.toNat) (fun p => pureR (⟨a, b, c, v, p⟩ : Bk)))) := fun a b c n m => stuck_bind (loop_stuck _ _) (fun v => s7 a b c m v)
  have s5 : ∀ (a b c : Int) (n : Int), Stuck (bindR (smallR 16) (fun m => bindR (loopR voteR n.toNat) (fun v => bindR (loopR proofR m.toNat) (fun p => pureR (⟨a, b, c, v, p⟩ : Bk))))) := fun a b c n => stuck_bind (small_stuck _) (fun m => s6 a b c n m)
  have s4 : ∀ (a b c : Int), Stuck (bindR (smallR 16) (fun n => bindR (smallR 16) (fun m => bindR (loopR voteR n.toNat) (fun v => bindR (loopR proofR m.toNat) (fun p => pureR (⟨a, b, c, v, p⟩ : Bk)))))) := fun a b c => stuck_bind (small_stuck _) (fun n => s5 a b c n)
  have s3 : ∀ (a b : Int), Stuck (bindR (smallR 1099511627776) (fun c => bindR (smallR 16) (fun n => bindR (smallR 16) (fun m => bindR (loopR voteR n.toNat) (fun v => bindR (loopR proofR m.toNat) (fun p => pureR (⟨a, b, c, v, p⟩ : Bk))))))) := fun a b => stuck_bind (small_stuck _) (fun c => s4 a b c)
  exact tr_bind tr_root (fun a => tr_bind tr_root (fun b => tr_bind (tr_small _) (fun c => tr_bind (tr_small _) (fun n => tr_bind (tr_small _) (fun m => tr_bind (tr_loop tr_vote vote_stuck _) (fun v => tr_bind (tr_loop tr_proof proof_stuck _) (fun _ => tr_pure _) (fun _ => stuck_pure _)) (fun v => s7 a b c m v)) (fun m => s6 a b c n m)) (fun n => s5 a b c n)) (fun c => s4 a b c)) (fun b => s3 a b)) (fun a => stuck_bind root_stuck (fun b => s3 a b))
/-- What follows an event's kind. -/
def bodyR (k : Int) : Rd → Ev × Rd :=
  if k = 0 then bindR (smallR 1099511627776) (fun x => pureR ⟨k, x, Bk.zero, Vt.zero, Pf.zero⟩)
  else if k = 1 then bindR blockR (fun b => pureR ⟨k, 0, b, Vt.zero, Pf.zero⟩)
  else if k = 2 then bindR voteR (fun v => pureR ⟨k, 0, Bk.zero, v, Pf.zero⟩)
  else bindR proofR (fun p => pureR ⟨k, 0, Bk.zero, Vt.zero, p⟩)
theorem evR_eq : evR = bindR (smallR 3) bodyR := by
  funext s
  simp only [evR, bindR, bodyR]
  split
  · rfl
  · split
    · rfl
    · split <;> rfl
theorem body_stuck (k : Int) : Stuck (bodyR k) := by
  unfold bodyR
  split
  · exact stuck_bind (small_stuck _) (fun _ => stuck_pure _)
  · split
    · exact stuck_bind block_stuck (fun _ => stuck_pure _)
    · split
      · exact stuck_bind vote_stuck (fun _ => stuck_pure _)
      · exact stuck_bind proof_stuck (fun _ => stuck_pure _)
theorem tr_body (k : Int) : Tr (bodyR k) := by
  unfold bodyR
  split
  · exact tr_bind (tr_small _) (fun _ => tr_pure _) (fun _ => stuck_pure _)
  · split
    · exact tr_bind tr_block (fun _ => tr_pure _) (fun _ => stuck_pure _)
    · split
      · exact tr_bind tr_vote (fun _ => tr_pure _) (fun _ => stuck_pure _)
      · exact tr_bind tr_proof (fun _ => tr_pure _) (fun _ => stuck_pure _)
theorem tr_ev : Tr evR := by rw [evR_eq]; exact tr_bind (tr_small _) tr_body body_stuck
theorem evR_cut {e : Ev} (h : mayB e = true) : (evR ⟨(evN e).dropLast, false⟩).2 = ⟨[], true⟩ := by
  have hne := evN_pos e
  have h1 := evR_ok h []
  rw [List.append_nil] at h1
  have h2 := List.dropLast_concat_getLast hne
  rcases tr_ev (evN e).dropLast [(evN e).getLast hne] (by simp) (by rw [h2, h1]) with ⟨r, hr, _⟩ | hb
  · rw [h2, h1] at hr
    injection hr with hr
    simp at hr
  · exact hb
theorem encN_pos (e : Ev) (es : List Ev) : encN (e :: es) ≠ [] := by simp [encN, evN]
theorem decR_cut (es : List Ev) (k : Nat) (hk : es.length ≤ k) (h : es.all mayB = true) (hne : es ≠ []) : decR true k (encN es).dropLast = (none, 0) := by
  induction es generalizing k with
  | nil => exact absurd rfl hne
  | cons e es ih =>
    match k, hk with
    | k + 1, hk =>
      simp only [List.all_cons, Bool.and_eq_true] at h
      have h3 : encN (e :: es) = evN e ++ encN es := by simp [encN]
      cases es with
      | nil =>
        have h4 : encN [e] = evN e := by simp [encN]
        rw [h4, decR, evR_cut h.1]
        simp
      | cons e' es =>
        have h5 : (evN e ++ encN (e' :: es)).dropLast = evN e ++ (encN (e' :: es)).dropLast := List.dropLast_append_of_ne_nil (encN_pos e' es)
        rw [h3, h5, decR, evR_ok h.1, ih k (by simpa using hk) h.2 (by simp)]
        simp
theorem valK_take {bs : List Int} {m o k : Nat} (h : o + k ≤ m) : valK (bs.take m) o k = valK bs o k := by
  induction k with
  | zero => rfl
  | succ k ih => rw [valK, valK, ih (by omega), List.getElem?_take_of_lt (by omega)]
theorem groups_take (bs : List Int) (m : Nat) (hm : m ≤ bs.length) : groups (bs.take m) = (groups bs).take (m / 8) := by
  apply List.ext_getElem?
  intro p
  have hl : (bs.take m).length = m := by rw [List.length_take]; omega
  rcases Nat.lt_or_ge p (m / 8) with hp | hp
  · rw [groups_get _ _ (by rw [hl]; omega), List.getElem?_take_of_lt hp, groups_get _ _ (by omega), valK_take (by omega)]
  · rw [List.getElem?_eq_none (by rw [groups_length, hl]; exact hp), List.getElem?_eq_none (by rw [List.length_take]; omega)]
end Go.Proofs.YtccficljaomhhaaDoor
