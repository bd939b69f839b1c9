/- Arguments that read as data: slices of small numbers; one event. -/
import Derived.Test.YtccficljaomhhaaDoorOpen
namespace Go.Proofs.YtccficljaomhhaaDoor
open Go.RowKit Go.Deep
section
variable {H : Type} {enc : TypeId × Value → H} {w : World} {base : Nat} {spare : Nat → Bool} {held : Bool} {fuel : Nat} {cs : List Value} {x : DataW H × List MemPlace}
theorem cellsU8' : Tryd.prog.cellsOf 5 = 1 := by kernel_rfl
theorem trod_u8s (h : DataW.trod enc Tryd.prog w base spare held fuel 24 cs = some x) : ∃ A n c xs, cs = [.slice A n c] ∧ xs.length = n ∧ Fits n c ∧ Ints anyB .u8 w A xs ∧ ∀ x ∈ xs, 0 ≤ x ∧ x < 256 :=
  trod_lie Tryd.underlying24 h (one (Value.int .u8)) (fun x => 0 ≤ x ∧ x < 256) 1 cellsU8' (by decide) (fun _ _ _ hy => by
    obtain ⟨n, rfl, _, hw⟩ := DataW.trod_int Tryd.underlying5 hy
    refine ⟨n, rfl, ?_⟩
    simp [Lit.wf, IntKind.min, IntKind.max, IntKind.bits, IntKind.signed] at hw
    omega)
end
end Go.Proofs.YtccficljaomhhaaDoor
