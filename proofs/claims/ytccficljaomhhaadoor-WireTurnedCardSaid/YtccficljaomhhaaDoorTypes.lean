/- What the program's table says of the types. -/
import Derived.Test.YtccficljaomhhaaDoorProg
import Derived.KernelRfl
import Derived.Test.YtccficljaomhhaaDoorOps
namespace Go.Proofs.YtccficljaomhhaaDoor
theorem zEv (W : World) : (zeroValue 40).run Tryd.prog W = .ok (.agg #[.int .i64 0, .int .i64 0, .int .u64 0, .int .u64 0, .int .i64 0, .slice none 0 0, .slice none 0 0, .int .i64 0, .int .u64 0, .int .i64 0, .int .u64 0, .int .i64 0, .int .u64 0, .slice none 0 0, .int .i64 0, .int .u64 0, .int .i64 0, .int .u64 0, .int .i64 0, .int .u64 0, .slice none 0 0, .int .i64 0, .int .u64 0, .int .i64 0, .int .u64 0, .int .i64 0, .int .u64 0, .slice none 0 0]) W := by kernel_rfl
theorem infoEv : (Tryd.prog.info? 40).map (fun i => (i.zero, i.size, i.bytes)) = some (some (.agg #[.int .i64 0, .int .i64 0, .int .u64 0, .int .u64 0, .int .i64 0, .slice none 0 0, .slice none 0 0, .int .i64 0, .int .u64 0, .int .i64 0, .int .u64 0, .int .i64 0, .int .u64 0, .slice none 0 0, .int .i64 0, .int .u64 0, .int .i64 0, .int .u64 0, .int .i64 0, .int .u64 0, .slice none 0 0, .int .i64 0, .int .u64 0, .int .i64 0, .int .u64 0, .int .i64 0, .int .u64 0, .slice none 0 0]), 28, 304) := by kernel_rfl
theorem iEv : (Tryd.prog.info? 40).map (·.size) = some 28 := by kernel_rfl
theorem zPf (W : World) : (zeroValue 38).run Tryd.prog W = .ok (.agg #[.int .i64 0, .int .u64 0, .int .i64 0, .int .u64 0, .int .i64 0, .int .u64 0, .slice none 0 0, .int .i64 0, .int .u64 0, .int .i64 0, .int .u64 0, .int .i64 0, .int .u64 0, .slice none 0 0]) W := by kernel_rfl
theorem iPf : (Tryd.prog.info? 38).map (·.size) = some 14 := by kernel_rfl
theorem zVt (W : World) : (zeroValue 36).run Tryd.prog W = .ok (.agg #[.int .i64 0, .int .u64 0, .int .i64 0, .int .u64 0, .int .i64 0, .int .u64 0, .slice none 0 0]) W := by kernel_rfl
theorem iVt : (Tryd.prog.info? 36).map (·.size) = some 7 := by kernel_rfl
end Go.Proofs.YtccficljaomhhaaDoor
