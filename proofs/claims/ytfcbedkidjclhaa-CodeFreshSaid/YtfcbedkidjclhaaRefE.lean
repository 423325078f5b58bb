/-
  The document's bytes of an instruction that is right are the code's. No program in sight.
  No condition: definitions on lists and numbers.
-/
import Derived.Test.YtfcbedkidjclhaaRefM
import Derived.Test.YtfcbedkidjclhaaCodeL3
namespace Go.Proofs.Ytfcbedkidjclhaa.Rf
set_option maxRecDepth 100000
set_option linter.unusedSimpArgs false
set_option linter.unusedVariables false

/-- a field: the row's, or the instruction's own -/
def fld (r x : Int) : Int := if r = -1 then x else r
/-- the bytes of an instruction by its row -/
def bytes (y : Row) (x : Cd.Ins) : List UInt8 :=
  [Pk.byte y.code, Pk.byte (16 * fld y.src x.src + fld y.dst x.dst)] ++ Pk.low 2 (fld y.off x.off) ++ Pk.low 4 (fld y.imm x.imm) ++
    (if x.op = 20 then [0, 0, 0, 0] ++ Pk.low 4 (x.imm / 4294967296) else if x.op = 21 then [0, 0, 0, 0] ++ Pk.low 4 x.imm else [])

def rowOk (y : Row) : Prop := ∀ d s o m : Int, Cd.opcode ⟨y.op, y.narrow, y.reg, y.size, d, if y.src = -1 then s else 0, if y.off = -1 then o else 0, if y.imm = -1 ∨ y.second = -1 then m else 0⟩ = (y.code, fld y.src s, fld y.off o, fld y.imm m)
def allOk : List Row → Prop
  | [] => True
  | y :: l => rowOk y ∧ allOk l
theorem allOk_mem : ∀ {l : List Row}, allOk l → ∀ y ∈ l, rowOk y
  | [], _, _, h => by cases h
  | z :: l, h, y, hm => by
    rcases List.mem_cons.mp hm with rfl | hm
    · exact h.1
    · exact allOk_mem h.2 y hm
theorem rows_ok : allOk rows := by
  repeat (first | exact trivial | refine ⟨fun _ _ _ _ => rfl, ?_⟩)
theorem rows_dst : rows.all (fun y => decide (y.dst = -1) || decide (y.dst = 0)) = true := by decide +kernel

theorem low_zero : Pk.low 4 0 = [0, 0, 0, 0] := by decide +kernel

/-- a right instruction's fields, by its row -/
theorem row_fields {x : Cd.Ins} {y : Row} (hf : find x = some y) (h : Cd.right x = 0) : Cd.opcode x = (y.code, fld y.src x.src, fld y.off x.off, fld y.imm x.imm) ∧ fld y.dst x.dst = x.dst := by
  rw [← right_eq] at h
  unfold right at h
  rw [hf] at h
  dsimp only at h
  have h1 : ¬ regs y x.dst x.src x.imm = false := by intro e; rw [if_pos e] at h; cases h
  rw [if_neg h1] at h
  have h2 : ¬ ((y.dst ≠ -1 ∧ x.dst ≠ 0) ∨ (y.src ≠ -1 ∧ x.src ≠ 0) ∨ (y.off ≠ -1 ∧ x.off ≠ 0) ∨ x.off < -32768 ∨ 32767 < x.off) := by intro e; rw [if_pos e] at h; cases h
  rw [if_neg h2] at h
  have h3 : ¬ (y.imm ≠ -1 ∧ y.second ≠ -1 ∧ x.imm ≠ 0) := by intro e; rw [if_pos e] at h; cases h
  have hm := List.mem_of_find?_eq_some hf
  have hq := List.find?_some hf
  have hok := allOk_mem rows_ok y hm x.dst x.src x.off x.imm
  have hds := List.all_eq_true.mp rows_dst y hm
  clear h h1
  simp only [fitsRow, Bool.and_eq_true, decide_eq_true_eq, beq_iff_eq] at hq
  obtain ⟨⟨⟨q1, q2⟩, q3⟩, q4⟩ := hq
  rw [q1, q2, q3, q4] at hok
  obtain ⟨op, n, r, z, d, s, o, m⟩ := x
  simp only at q1 q2 q3 q4 hok h2 h3
  have e1 : (if y.src = -1 then s else 0) = s := by split <;> omega
  have e2 : (if y.off = -1 then o else 0) = o := by split <;> omega
  have e3 : (if y.imm = -1 ∨ y.second = -1 then m else 0) = m := by split <;> omega
  rw [e1, e2, e3] at hok
  refine ⟨hok, ?_⟩
  simp only [Bool.or_eq_true, decide_eq_true_eq] at hds
  unfold fld
  simp only
  split <;> omega

theorem bytes_eq {x : Cd.Ins} {y : Row} (hf : find x = some y) (h : Cd.right x = 0) : bytes y x = Cd.bytes x := by
  obtain ⟨hok, e4⟩ := row_fields hf h
  unfold bytes Cd.bytes
  rw [hok, e4]
  simp only
  rw [Int.mul_comm 16]
  congr 1
  unfold Cd.wide Cd.high
  by_cases h20 : x.op = 20
  · simp [h20, low_zero]
  · by_cases h21 : x.op = 21
    · simp [h21, low_zero]
    · simp [h20, h21]

/-- what is right has a row -/
theorem find_right {x : Cd.Ins} (h : Cd.right x = 0) : ∃ y, find x = some y := by
  rw [← right_eq] at h
  unfold right at h
  cases hf : find x with
  | none => rw [hf] at h; simp at h
  | some y => exact ⟨y, rfl⟩

end Go.Proofs.Ytfcbedkidjclhaa.Rf
