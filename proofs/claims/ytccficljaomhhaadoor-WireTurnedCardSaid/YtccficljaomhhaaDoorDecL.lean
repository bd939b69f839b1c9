/- What is written is read: the bytes' numbers. No program in it. -/
import Derived.Test.YtccficljaomhhaaDoorDecP
import Derived.Test.YtccficljaomhhaaDoorDec1
namespace Go.Proofs.YtccficljaomhhaaDoor
open Go.RowKit
theorem bes_get : ∀ (ns : List Int) (p i : Nat) (x : Int), ns[p]? = some x → i < 8 → (bes ns)[8 * p + i]? = some (x / 2 ^ (56 - 8 * i) % 256)
  | [], p, i, x, h, _ => by simp at h
  | n :: ns, 0, i, x, h, hi => by
    obtain rfl : n = x := by simpa using h
    rw [bes, List.flatMap_cons, Nat.mul_zero, Nat.zero_add, List.getElem?_append_left (by rw [be8_length]; exact hi), be8_getElem n i hi]
  | n :: ns, p + 1, i, x, h, hi => by
    have h' : ns[p]? = some x := by simpa using h
    rw [bes, List.flatMap_cons, List.getElem?_append_right (by rw [be8_length]; omega), be8_length, show 8 * (p + 1) + i - 8 = 8 * p + i from by omega]
    exact bes_get ns p i x h' hi
theorem valK_bes {ns : List Int} {p : Nat} {x : Int} (h : ns[p]? = some x) (h0 : 0 ≤ x) (h1 : x ≤ 18446744073709551615) : valK (bes ns) (8 * p) 8 = x := by
  have g := fun i hi => bes_get ns p i x h hi
  have e0 := g 0 (by decide)
  have e1 := g 1 (by decide)
  have e2 := g 2 (by decide)
  have e3 := g 3 (by decide)
  have e4 := g 4 (by decide)
  have e5 := g 5 (by decide)
  have e6 := g 6 (by decide)
  have e7 := g 7 (by decide)
  simp only [valK, e0, e1, e2, e3, e4, e5, e6, e7, Option.getD_some]
  simp only [Nat.reduceMul, Nat.reduceSub, Int.reducePow]
  omega
theorem groups_bes {ns : List Int} (h : ∀ x ∈ ns, 0 ≤ x ∧ x ≤ 18446744073709551615) : groups (bes ns) = ns := by
  apply List.ext_getElem?
  intro p
  have hl : (bes ns).length = 8 * ns.length := bes_length ns
  rcases Nat.lt_or_ge p ns.length with hp | hp
  · rw [groups_get _ _ (by omega)]
    have hx := List.getElem?_eq_getElem hp
    have := h _ (List.getElem_mem hp)
    rw [valK_bes hx this.1 this.2, hx]
  · rw [List.getElem?_eq_none hp, List.getElem?_eq_none (by rw [groups_length]; omega)]
theorem bytesW_bes (ns : List Int) : bytesW (bes ns) := by
  intro x hx
  obtain ⟨n, _, hn⟩ := List.mem_flatMap.1 hx
  obtain ⟨k, _, rfl⟩ := List.mem_map.1 hn
  exact ⟨Int.emod_nonneg _ (by decide), Int.emod_lt_of_pos _ (by decide)⟩
theorem w64_U (x : Int) : 0 ≤ w64 x ∧ w64 x ≤ 18446744073709551615 := by
  unfold w64
  simp [IntKind.wrap, IntKind.signed, IntKind.bits]
  omega
def allU (ns : List Int) : Prop := ∀ x ∈ ns, 0 ≤ x ∧ x ≤ 18446744073709551615
theorem allU.app {a b : List Int} (ha : allU a) (hb : allU b) : allU (a ++ b) := fun x hx => (List.mem_append.1 hx).elim (ha x) (hb x)
theorem allU.flat {α : Type} {f : α → List Int} {xs : List α} (h : ∀ x ∈ xs, allU (f x)) : allU (xs.flatMap f) := fun y hy => by
  obtain ⟨x, hx, hy⟩ := List.mem_flatMap.1 hy
  exact h x hx y hy
theorem voteN_U {v : Vt} (h : v.wf) : allU (voteN v) := by
  obtain ⟨h1, h2, h3, h4, h5⟩ := h
  refine allU.app (fun x hx => ?_) (fun x hx => ?_)
  · simp only [List.mem_cons, List.not_mem_nil, or_false] at hx
    rcases hx with rfl | rfl | rfl | rfl | rfl | rfl | rfl
    · exact w64_U _
    · exact h2
    · exact w64_U _
    · exact h3.2
    · exact w64_U _
    · exact h4.2
    · exact w64_U _
  · obtain ⟨y, _, rfl⟩ := List.mem_map.1 hx
    exact w64_U _
theorem proofN_U {p : Pf} (h : p.wf) : allU (proofN p) := (voteN_U h.1).app (voteN_U h.2)
theorem blockN_U {b : Bk} (h : b.wf) : allU (blockN b) := by
  obtain ⟨h1, h2, h3, h4, h5⟩ := h
  have h0 : allU [b.root, b.parent, w64 b.slot, w64 b.votes.length, w64 b.proofs.length] := fun x hx => by
    simp only [List.mem_cons, List.not_mem_nil, or_false] at hx
    rcases hx with rfl | rfl | rfl | rfl | rfl
    · exact h1
    · exact h2
    · exact w64_U _
    · exact w64_U _
    · exact w64_U _
  exact (h0.app (allU.flat (fun v hv => voteN_U (h4 v hv)))).app (allU.flat (fun v hv => proofN_U (h5 v hv)))
theorem evN_U {e : Ev} (h : e.wf) : allU (evN e) := by
  obtain ⟨h1, h2, h3, h4, h5⟩ := h
  intro x hx
  rcases List.mem_cons.1 hx with rfl | hx
  · exact w64_U _
  · split at hx
    · obtain rfl := List.mem_singleton.1 hx; exact w64_U _
    · split at hx
      · exact blockN_U h3 x hx
      · split at hx
        · exact voteN_U h4 x hx
        · exact proofN_U h5 x hx
theorem encN_U {es : List Ev} (h : ∀ e ∈ es, e.wf) : allU (encN es) := allU.flat (fun e he => evN_U (h e he))
end Go.Proofs.YtccficljaomhhaaDoor
