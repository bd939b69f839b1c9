import Derived.Test.YtnppimhlfcjghaaGreatPPmTicks
set_option linter.all false
set_option linter.unusedVariables false
set_option linter.unusedSimpArgs false
namespace Go.Proofs.YtnppimhlfcjghaaGreat
open Go.RowKit
theorem takes_ge {v : List En} {k e : Int} (h : takes v k e = true) : 0 ≤ k := by
 unfold takes at h
 unfold entry at h
 by_cases hk : 0 ≤ k
 ·exact hk
 ·rw [if_neg hk] at h; cases h
theorem bans_ge {v : List En} {k : Int} (h : bans v k = true) : 0 ≤ k := by
 unfold bans at h
 unfold entry at h
 by_cases hk : 0 ≤ k
 ·exact hk
 ·rw [if_neg hk] at h; cases h
theorem entry_take {v : List En} {k k' e r : Int} (h : k ≠ k') : entry (takeV v k e r) k' = entry v k' := by
 unfold takeV
 split
 ·rename_i ht
  have h0 := takes_ge ht
  unfold entry
  by_cases hk : 0 ≤ k'
  ·rw [if_pos hk, if_pos hk, List.getElem?_set_ne (by omega)]
  ·rw [if_neg hk, if_neg hk]
 ·rfl
theorem entry_ban {v : List En} {k k' : Int} (h : k ≠ k') : entry (banV v k) k' = entry v k' := by
 unfold banV
 split
 ·rename_i ht
  have h0 := bans_ge ht
  unfold entry
  by_cases hk : 0 ≤ k'
  ·rw [if_pos hk, if_pos hk]
   have hne : k.toNat ≠ k'.toNat := by omega
   simp [List.getElem?_modify, hne]
  ·rw [if_neg hk, if_neg hk]
 ·rfl
theorem takes_entry {v v' : List En} {k : Int} (h : entry v k = entry v' k) (e : Int) : takes v k e = takes v' k e := by unfold takes; rw [h]
theorem bans_entry {v v' : List En} {k : Int} (h : entry v k = entry v' k) : bans v k = bans v' k := by unfold bans; rw [h]
theorem getV_entry {v v' : List En} {k : Int} (h : entry v k = entry v' k) : getV v k = getV v' k := by unfold getV; rw [h]
def movedC (v : List En) (r k : Int) : Chg := ⟨1, r, 0, k, (getV v k).1, (getV v k).2⟩
def bannedC (v : List En) (k : Int) : Chg := ⟨2, 0, 0, k, (getV v k).1, (getV v k).2⟩
theorem entry_move (e r : Int) (x : SC) {k k' : Int} (h : k ≠ k') : entry (moveOne e r x k).1.votes k' = entry x.1.votes k' := by
 unfold moveOne
 split
 ·exact entry_take h
 ·rfl
theorem entry_banOne (x : SC) {k k' : Int} (h : k ≠ k') : entry (banOne x k).1.votes k' = entry x.1.votes k' := by
 unfold banOne
 split
 ·exact entry_ban h
 ·rfl
theorem moves_eq (e r : Int) : ∀ (who : List Int) (x : SC), who.Nodup → (who.foldl (moveOne e r) x).2 = x.2 ++ (who.filter fun k => takes x.1.votes k e).map (movedC x.1.votes r) := by
 intro who
 induction who with
 | nil => intro x _; simp
 | cons a l ih =>
  intro x hn
  obtain ⟨h1, h2⟩ := List.nodup_cons.1 hn
  rw [List.foldl_cons, ih _ h2]
  have hl : ∀ k ∈ l, entry (moveOne e r x a).1.votes k = entry x.1.votes k := fun k hk => entry_move e r x (fun ea => h1 (ea ▸ hk))
  have e1 : (l.filter fun k => takes (moveOne e r x a).1.votes k e) = l.filter fun k => takes x.1.votes k e := List.filter_congr (fun k hk => takes_entry (hl k hk) e)
  have e2 : (l.filter fun k => takes x.1.votes k e).map (movedC (moveOne e r x a).1.votes r) = (l.filter fun k => takes x.1.votes k e).map (movedC x.1.votes r) := List.map_congr_left (fun k hk => by
   unfold movedC
   rw [getV_entry (hl k (List.mem_filter.1 hk).1)])
  rw [e1, e2]
  by_cases ht : takes x.1.votes a e = true
  ·have e3 : (moveOne e r x a).2 = x.2 ++ [movedC x.1.votes r a] := by unfold moveOne; rw [if_pos ht]; rfl
   rw [e3, List.filter_cons, if_pos ht, List.map_cons, List.append_assoc]
   rfl
  ·have e3 : (moveOne e r x a).2 = x.2 := by unfold moveOne; rw [if_neg ht]
   rw [e3, List.filter_cons, if_neg ht]
theorem bans_eq : ∀ (who : List Int) (x : SC), who.Nodup → (who.foldl banOne x).2 = x.2 ++ (who.filter fun k => bans x.1.votes k).map (bannedC x.1.votes) := by
 intro who
 induction who with
 | nil => intro x _; simp
 | cons a l ih =>
  intro x hn
  obtain ⟨h1, h2⟩ := List.nodup_cons.1 hn
  rw [List.foldl_cons, ih _ h2]
  have hl : ∀ k ∈ l, entry (banOne x a).1.votes k = entry x.1.votes k := fun k hk => entry_banOne x (fun ea => h1 (ea ▸ hk))
  have e1 : (l.filter fun k => bans (banOne x a).1.votes k) = l.filter fun k => bans x.1.votes k := List.filter_congr (fun k hk => bans_entry (hl k hk))
  have e2 : (l.filter fun k => bans x.1.votes k).map (bannedC (banOne x a).1.votes) = (l.filter fun k => bans x.1.votes k).map (bannedC x.1.votes) := List.map_congr_left (fun k hk => by
   unfold bannedC
   rw [getV_entry (hl k (List.mem_filter.1 hk).1)])
  rw [e1, e2]
  by_cases ht : bans x.1.votes a = true
  ·have e3 : (banOne x a).2 = x.2 ++ [bannedC x.1.votes a] := by unfold banOne; rw [if_pos ht]; rfl
   rw [e3, List.filter_cons, if_pos ht, List.map_cons, List.append_assoc]
   rfl
  ·have e3 : (banOne x a).2 = x.2 := by unfold banOne; rw [if_neg ht]
   rw [e3, List.filter_cons, if_neg ht]
theorem whoOk_nodup {n : Int} {who : List Int} (h : whoOk n who = true) : who.Nodup := by
 have hs : ∀ (i j : Nat), i < j → j < who.length → who.getD i 0 < who.getD j 0 := by
  intro i j hij
  induction j with
  | zero => omega
  | succ j ih =>
   intro hj
   have hk : ¬ whoBad n who (j + 1) = true := by
    unfold whoOk at h
    rw [List.all_eq_true] at h
    have := h (j + 1) (List.mem_range.2 hj)
    simpa using this
   unfold whoBad at hk
   simp only [Bool.or_eq_true, Bool.and_eq_true, decide_eq_true_eq, not_or, not_and, Int.not_le, Nat.add_sub_cancel] at hk
   have h1 := hk.2 (by omega)
   rcases Nat.lt_or_ge i j with h2 | h2
   ·have := ih h2 (by omega)
    omega
   ·have : i = j := by omega
    subst this
    exact h1
 rw [List.nodup_iff_pairwise_ne, List.pairwise_iff_getElem]
 intro i j hi hj hij e
 have := hs i j hij hj
 rw [List.getD_eq_getElem?_getD, List.getElem?_eq_getElem hi, List.getD_eq_getElem?_getD, List.getElem?_eq_getElem hj] at this
 simp only [Option.getD_some] at this
 omega
def whoOf (s : St) (e : Ev) : List Int := if e.kind = 2 then e.vote.who else slashWho s.c e.proof
theorem slashWho_nodup (c : Cf) (p : Pf) : (slashWho c p).Nodup := by
 unfold slashWho
 split
 ·rename_i h
  simp only [Bool.and_eq_true] at h
  exact (whoOk_nodup (rightB_epoch h.1.1).2.2.2.2.2).filter _
 ·exact List.nodup_nil
theorem votes_moved {s : St} {e : Ev} (hk : e.kind = 2) (he : (applyS s e).2 = 0) : (applyS s e).1.2 = (e.vote.who.filter fun k => takes s.votes k e.vote.tgt.e).map (movedC s.votes e.vote.head) ∧ whoOk s.c.bal.length e.vote.who = true := by
 unfold applyS at he ⊢
 rw [if_neg (by omega), if_neg (by omega), if_pos hk] at he ⊢
 have ha : attestE s e.vote false = 0 := he
 have hr := (rightB_epoch (attestE_right ha).1).2.2.2.2.2
 refine ⟨?_, hr⟩
 show (attestS (s, []) e.vote false).2 = _
 rw [attestS, if_pos ha, moves_eq _ _ _ _ (whoOk_nodup hr)]
 rfl
theorem votes_banned {s : St} {e : Ev} (hk : e.kind = 3) : (applyS s e).1.2 = ((slashWho s.c e.proof).filter fun k => bans s.votes k).map (bannedC s.votes) := by
 unfold applyS
 rw [if_neg (by omega), if_neg (by omega), if_neg (by omega), if_pos hk]
 show (slashS (s, []) e.proof).2 = _
 unfold slashS
 rw [bans_eq _ _ (slashWho_nodup _ _)]
 rfl
end Go.Proofs.YtnppimhlfcjghaaGreat
