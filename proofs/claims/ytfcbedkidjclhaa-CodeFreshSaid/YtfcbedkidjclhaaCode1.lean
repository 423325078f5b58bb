/-
  The contracts of package code's small functions: registers, what is written, second operands, sizes, tables.
  No condition.
-/
import Derived.Test.YtfcbedkidjclhaaCopy
import Derived.Test.YtfcbedkidjclhaaCodeM
namespace Go.Proofs.Ytfcbedkidjclhaa
open Go.RowKit
set_option maxRecDepth 100000
set_option linter.unusedSimpArgs false
set_option linter.unusedVariables false

theorem isReg_any (n : Int) (b : Bool) (w : World) : Calls Try.prog 123 #[.int .i64 n, .bool b] w fun e w' => e = .returned (.bool (Cd.isReg n b)) ∧ w = w' := by
  go_enter Try.func123, Try.ntmps123
  go_wp2
  all_goals go_ret
  all_goals exact ⟨ret_bool (by grind [Cd.isReg]), rfl⟩
theorem writesDst_any (n : Int) (w : World) : Calls Try.prog 124 #[.int .i64 n] w fun e w' => e = .returned (.bool (Cd.writesDst n)) ∧ w = w' := by
  go_enter Try.func124, Try.ntmps124
  go_wp2
  all_goals go_ret
  all_goals exact ⟨ret_bool (by grind [Cd.writesDst]), rfl⟩
theorem wide_any (n : Int) (w : World) : Calls Try.prog 96 #[.int .i64 n] w fun e w' => e = .returned (.bool (Cd.wide n)) ∧ w = w' := by
  go_enter Try.func96, Try.ntmps96
  go_wp2
  all_goals go_ret
  all_goals exact ⟨ret_bool (by grind [Cd.wide]), rfl⟩
theorem second_any (n : Int) (w : World) : Calls Try.prog 148 #[.int .i64 n] w fun e w' => e = .returned (.bool (Cd.second n)) ∧ w = w' := by
  go_enter Try.func148, Try.ntmps148
  go_wp2
  all_goals go_ret
  all_goals exact ⟨ret_bool (by grind [Cd.second]), rfl⟩
theorem writesSrc_any (n m : Int) (w : World) : Calls Try.prog 125 #[.int .i64 n, .int .i64 m] w fun e w' => e = .returned (.bool (Cd.writesSrc n m)) ∧ w = w' := by
  go_enter Try.func125, Try.ntmps125
  go_wp2
  all_goals go_ret
  all_goals exact ⟨ret_bool (by grind [Cd.writesSrc, Cd.fetches]), rfl⟩
theorem atomic_any (m : Int) (w : World) : Calls Try.prog 149 #[.int .i64 m] w fun e w' => e = .returned (.bool (Cd.atomic m)) ∧ w = w' := by
  go_enter Try.func149, Try.ntmps149
  go_wp2_with (go_at_call 125; (with_reducible refine (writesSrc_any _ _ _).mono ?_); rintro e v ⟨rfl, rfl⟩)
  all_goals go_ret
  all_goals exact ⟨ret_bool (by grind [Cd.atomic, Cd.writesSrc, Cd.fetches]), rfl⟩

end Go.Proofs.Ytfcbedkidjclhaa
