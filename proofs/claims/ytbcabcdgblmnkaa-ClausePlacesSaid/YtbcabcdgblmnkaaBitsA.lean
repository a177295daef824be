/- Contracts of package bits (layer 1) and its reference, first part: no memory. -/
import Derived.Test.YtbcabcdgblmnkaaRows
import Derived.Test.YtbcabcdgblmnkaaMem
import Derived.Test.YtbcabcdgblmnkaaBitMath3
import Derived.BigQuiet
import Derived.Deep.QuietTactic
namespace Go.Proofs.Ytbcabcdgblmnkaa
open Go.RowKit

theorem zig_any (x : Int) (w : World) (h1 : -9223372036854775808 ≤ x) (h2 : x ≤ 9223372036854775807) :
    Calls Try.prog 49 #[.int .i64 x] w fun e w' => e = .returned (.int .u64 (zig x)) ∧ w = w' := by
  go_enter Try.func49, Try.ntmps49
  go_wp2
  go_ret
  exact ⟨congrArg (fun z => Ending.returned (Value.int .u64 z)) (zig_bits x h1 h2), rfl⟩
theorem rzig_any (x : Int) (w : World) (h1 : -9223372036854775808 ≤ x) (h2 : x ≤ 9223372036854775807) :
    Calls Try.prog 29 #[.int .i64 x] w fun e w' => e = .returned (.int .u64 (zig x)) ∧ w = w' := by
  by_cases h : 0 ≤ x
  all_goals
    go_enter Try.func29, Try.ntmps29
    go_wp2
    go_ret
    refine ⟨congrArg (fun z => Ending.returned (Value.int .u64 z)) ?_, rfl⟩
    show _ = zig x
    unfold zig
    split <;> omega

end Go.Proofs.Ytbcabcdgblmnkaa
