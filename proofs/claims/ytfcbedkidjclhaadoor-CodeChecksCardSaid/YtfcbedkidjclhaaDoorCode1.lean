/-
  The contracts of package code's small functions: registers, what is written, second operands, sizes, tables.
  No condition.
-/
import Derived.Test.YtfcbedkidjclhaaDoorCopy
import Derived.Test.YtfcbedkidjclhaaDoorCodeM
namespace Go.Proofs.YtfcbedkidjclhaaDoor
open Go.RowKit
set_option maxRecDepth 100000
set_option linter.unusedSimpArgs false
set_option linter.unusedVariables false

theorem isReg_any (n : Int) (b : Bool) (w : World) : Calls Tryd.prog 42 #[.int .i64 n, .bool b] w fun e w' => e = .returned (.bool (Cd.isReg n b)) ∧ w = w' := by
  go_enter Tryd.func42, Tryd.ntmps42
  go_wp2
  all_goals go_ret
  all_goals exact ⟨ret_bool (by grind [Cd.isReg]), rfl⟩
theorem writesDst_any (n : Int) (w : World) : Calls Tryd.prog 43 #[.int .i64 n] w fun e w' => e = .returned (.bool (Cd.writesDst n)) ∧ w = w' := by
  go_enter Tryd.func43, Tryd.ntmps43
  go_wp2
  all_goals go_ret
  all_goals exact ⟨ret_bool (by grind [Cd.writesDst]), rfl⟩
theorem wide_any (n : Int) (w : World) : Calls Tryd.prog 21 #[.int .i64 n] w fun e w' => e = .returned (.bool (Cd.wide n)) ∧ w = w' := by
  go_enter Tryd.func21, Tryd.ntmps21
  go_wp2
  all_goals go_ret
  all_goals exact ⟨ret_bool (by grind [Cd.wide]), rfl⟩
theorem second_any (n : Int) (w : World) : Calls Tryd.prog 54 #[.int .i64 n] w fun e w' => e = .returned (.bool (Cd.second n)) ∧ w = w' := by
  go_enter Tryd.func54, Tryd.ntmps54
  go_wp2
  all_goals go_ret
  all_goals exact ⟨ret_bool (by grind [Cd.second]), rfl⟩
theorem writesSrc_any (n m : Int) (w : World) : Calls Tryd.prog 44 #[.int .i64 n, .int .i64 m] w fun e w' => e = .returned (.bool (Cd.writesSrc n m)) ∧ w = w' := by
  go_enter Tryd.func44, Tryd.ntmps44
  go_wp2
  all_goals go_ret
  all_goals exact ⟨ret_bool (by grind [Cd.writesSrc, Cd.fetches]), rfl⟩
theorem atomic_any (m : Int) (w : World) : Calls Tryd.prog 55 #[.int .i64 m] w fun e w' => e = .returned (.bool (Cd.atomic m)) ∧ w = w' := by
  go_enter Tryd.func55, Tryd.ntmps55
  go_wp2_with (go_at_call 44; (with_reducible refine (writesSrc_any _ _ _).mono ?_); rintro e v ⟨rfl, rfl⟩)
  all_goals go_ret
  all_goals exact ⟨ret_bool (by grind [Cd.atomic, Cd.writesSrc, Cd.fetches]), rfl⟩

end Go.Proofs.YtfcbedkidjclhaaDoor
