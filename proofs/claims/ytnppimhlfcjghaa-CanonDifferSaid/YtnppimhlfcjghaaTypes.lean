/- What the program's table says of the types. -/
import Derived.Test.YtnppimhlfcjghaaProg
import Derived.KernelRfl
import Derived.Test.YtnppimhlfcjghaaOps
namespace Go.Proofs.Ytnppimhlfcjghaa
theorem zEv (W : World) : (zeroValue 66).run Try.prog W = .ok (.agg #[.int .i64 0, .int .i64 0, .int .u64 0, .int .u64 0, .int .i64 0, .slice none 0 0, .slice none 0 0, .int .i64 0, .int .u64 0, .int .i64 0, .int .u64 0, .int .i64 0, .int .u64 0, .slice none 0 0, .int .i64 0, .int .u64 0, .int .i64 0, .int .u64 0, .int .i64 0, .int .u64 0, .slice none 0 0, .int .i64 0, .int .u64 0, .int .i64 0, .int .u64 0, .int .i64 0, .int .u64 0, .slice none 0 0]) W := by kernel_rfl
theorem infoEv : (Try.prog.info? 66).map (fun i => (i.zero, i.size, i.bytes)) = some (some (.agg #[.int .i64 0, .int .i64 0, .int .u64 0, .int .u64 0, .int .i64 0, .slice none 0 0, .slice none 0 0, .int .i64 0, .int .u64 0, .int .i64 0, .int .u64 0, .int .i64 0, .int .u64 0, .slice none 0 0, .int .i64 0, .int .u64 0, .int .i64 0, .int .u64 0, .int .i64 0, .int .u64 0, .slice none 0 0, .int .i64 0, .int .u64 0, .int .i64 0, .int .u64 0, .int .i64 0, .int .u64 0, .slice none 0 0]), 28, 304) := by kernel_rfl
theorem iEv : (Try.prog.info? 66).map (·.size) = some 28 := by kernel_rfl
theorem zPf (W : World) : (zeroValue 64).run Try.prog W = .ok (.agg #[.int .i64 0, .int .u64 0, .int .i64 0, .int .u64 0, .int .i64 0, .int .u64 0, .slice none 0 0, .int .i64 0, .int .u64 0, .int .i64 0, .int .u64 0, .int .i64 0, .int .u64 0, .slice none 0 0]) W := by kernel_rfl
theorem iPf : (Try.prog.info? 64).map (·.size) = some 14 := by kernel_rfl
theorem zVt (W : World) : (zeroValue 62).run Try.prog W = .ok (.agg #[.int .i64 0, .int .u64 0, .int .i64 0, .int .u64 0, .int .i64 0, .int .u64 0, .slice none 0 0]) W := by kernel_rfl
theorem iVt : (Try.prog.info? 62).map (·.size) = some 7 := by kernel_rfl
end Go.Proofs.Ytnppimhlfcjghaa
