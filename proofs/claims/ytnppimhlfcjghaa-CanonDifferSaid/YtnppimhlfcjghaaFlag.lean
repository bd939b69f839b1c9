/- canon.flag. -/
import Derived.Test.YtnppimhlfcjghaaLeaf
namespace Go.Proofs.Ytnppimhlfcjghaa
open Go.RowKit
theorem flag_calls (w : World) (b : Bool) : Calls Try.prog 57 #[.bool b] w fun e w' => e = .returned (.int .u64 (if b then 1 else 0)) ∧ w = w' := by
  cases b
  · go_enter Try.func57, Try.ntmps57
    go_wp2
    go_ret
    exact ⟨rfl, rfl⟩
  · go_enter Try.func57, Try.ntmps57
    go_wp2
    go_ret
    exact ⟨rfl, rfl⟩
end Go.Proofs.Ytnppimhlfcjghaa
