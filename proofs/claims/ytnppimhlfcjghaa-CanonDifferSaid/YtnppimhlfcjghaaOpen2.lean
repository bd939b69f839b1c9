/- Arguments that read as data: slices of small numbers; one event. -/
import Derived.Test.YtnppimhlfcjghaaOpen
namespace Go.Proofs.Ytnppimhlfcjghaa
open Go.RowKit Go.Deep
section
variable {H : Type} {enc : TypeId × Value → H} {w : World} {base : Nat} {spare : Nat → Bool} {held : Bool} {fuel : Nat} {cs : List Value} {x : DataW H × List MemPlace}
theorem cellsU8' : Try.prog.cellsOf 5 = 1 := by kernel_rfl
theorem trod_u8s (h : DataW.trod enc Try.prog w base spare held fuel 22 cs = some x) : ∃ A n c xs, cs = [.slice A n c] ∧ xs.length = n ∧ Fits n c ∧ Ints anyB .u8 w A xs ∧ ∀ x ∈ xs, 0 ≤ x ∧ x < 256 :=
  trod_lie Try.underlying22 h (one (Value.int .u8)) (fun x => 0 ≤ x ∧ x < 256) 1 cellsU8' (by decide) (fun _ _ _ hy => by
    obtain ⟨n, rfl, _, hw⟩ := DataW.trod_int Try.underlying5 hy
    refine ⟨n, rfl, ?_⟩
    simp [Lit.wf, IntKind.min, IntKind.max, IntKind.bits, IntKind.signed] at hw
    omega)
theorem trod_sl_len {t e : TypeId} {d : DataW H} {p : List MemPlace} (ht : Try.prog.underlying t = some (.slice e)) (h : DataW.trod enc Try.prog w base spare held fuel t cs = some (d, p)) : ∃ A n c, cs = [.slice A n c] ∧ (n = 0 ∨ ∃ el sp, d = .slice el sp ∧ el.length = n) := by
  rcases open_slice ht h with ⟨rfl, _⟩ | ⟨a, len, cap, m, n, D, Pl, rfl, _, _, _, _, hx, _⟩
  · exact ⟨none, 0, 0, rfl, .inl rfl⟩
  · injection hx with hx _
    exact ⟨some a, len, cap, rfl, .inr ⟨_, _, hx, by simp⟩⟩
end
end Go.Proofs.Ytnppimhlfcjghaa
