/-
  The contracts of the statements' own copies and comparisons (warrantlaw00): CopyBytes, CopyTables, CopyPack, SameBytes, SameTables, SamePack.
  Conditions: each slice reads as a list and takes no more than 2^47 bytes.
-/
import Derived.Test.YtfcbedkidjclhaaDoorBase
namespace Go.Proofs.YtfcbedkidjclhaaDoor
open Go.RowKit
theorem info5 : (Tryd.prog.info? 5).map (fun i => (i.zero, i.size, i.bytes)) = some (some (.int .u8 0), 1, 1) := by kernel_rfl
set_option maxHeartbeats 400000 in
theorem SameBytes_any (A B : Option Addr) (n m c d : Nat) (xs ys : List UInt8) (w : World) (h : Rd w 1 A n (bv xs)) (h' : Rd w 1 B m (bv ys)) :
    Calls Tryd.prog 25 #[.slice A n c, .slice B m d] w fun e w' => e = .returned (.bool (xs == ys)) ∧ w = w' := by
  have k1 := run_str (P := Tryd.prog) w 25 9 5 A n c xs Tryd.underlying25 Tryd.underlying5 Tryd.underlying9 h
  have k2 := run_str (P := Tryd.prog) w 25 9 5 B m d ys Tryd.underlying25 Tryd.underlying5 Tryd.underlying9 h'
  go_enter Tryd.func25, Tryd.ntmps25
  go_wp2
  go_ret
  exact ⟨rfl, rfl⟩

/-- a search for the first place where two lists of one length part -/
theorem beq_step {α : Type} [BEq α] [LawfulBEq α] {xs ys : List α} {k : Nat} (hx : k < xs.length) (hy : k < ys.length) (h : xs.take k = ys.take k) (e : xs[k] = ys[k]) : xs.take (k + 1) = ys.take (k + 1) := by
  rw [List.take_succ_eq_append_getElem hx, List.take_succ_eq_append_getElem hy, h, e]
theorem beq_end {α : Type} [BEq α] [LawfulBEq α] {xs ys : List α} {k : Nat} (hx : xs.length = k) (hy : ys.length = k) (h : xs.take k = ys.take k) : (xs == ys) = true := by
  rw [List.take_of_length_le (by omega), List.take_of_length_le (by omega)] at h
  simp [h]
theorem beq_stop {α : Type} [BEq α] [LawfulBEq α] {xs ys : List α} {k : Nat} (hx : k < xs.length) (hy : k < ys.length) (e : xs[k] ≠ ys[k]) : (xs == ys) = false := by
  rw [Bool.eq_false_iff]
  intro h
  simp at h
  subst h
  exact e rfl
theorem beq_len {α : Type} [BEq α] [LawfulBEq α] {xs ys : List α} (e : xs.length ≠ ys.length) : (xs == ys) = false := by
  rw [Bool.eq_false_iff]
  intro h
  simp at h
  subst h
  exact e rfl
theorem ret_bool {a b : Bool} (h : a = b) : Ending.returned (.bool a) = .returned (.bool b) := by rw [h]

def samePackB (lo hi : Int) (d : List UInt8) (t : List (Int × Int)) (c : List UInt8) (lo' hi' : Int) (d' : List UInt8) (t' : List (Int × Int)) (c' : List UInt8) : Bool :=
  lo == lo' && hi == hi' && d == d' && t == t' && c == c'

end Go.Proofs.YtfcbedkidjclhaaDoor
