/-
  Rows of the program's table of types.
-/
import Derived.Test.YtdginfjlelpkmaaProg
import Derived.KernelRfl
namespace Go.Proofs.Ytdginfjlelpkmaa
theorem Try.infoU8 : (Try.prog.info? 5).map (fun i => (i.zero, i.size, i.bytes)) = some (some (.int .u8 0), 1, 1) := by kernel_rfl
theorem Try.infoInt : (Try.prog.info? 3).map (fun i => (i.zero, i.size, i.bytes)) = some (some (.int .i64 0), 1, 8) := by kernel_rfl
end Go.Proofs.Ytdginfjlelpkmaa
