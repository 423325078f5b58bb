/-
  Plain laws of package code, one instruction: what is written is read back; what is read is right and is written as just these bytes. No program in sight.
  No condition beyond those each statement names.
-/
import Derived.Test.YtfcbedkidjclhaaPackL
import Derived.Test.YtfcbedkidjclhaaCodeM
namespace Go.Proofs.Ytfcbedkidjclhaa.Cd
open Pk
set_option linter.unusedSimpArgs false
set_option linter.unusedVariables false

theorem val_low2 (v : Int) : (val (low 2 v) : Int) = v % 65536 := by
  have h1 := byte_toNat v
  have h2 := byte_toNat (v / 256)
  have e : val (low 2 v) = (byte v).toNat + 256 * ((byte (v / 256)).toNat + 256 * 0) := rfl
  omega
theorem val_low4 (v : Int) : (val (low 4 v) : Int) = v % 4294967296 := by
  have h1 := byte_toNat v
  have h2 := byte_toNat (v / 256)
  have h3 := byte_toNat (v / 256 / 256)
  have h4 := byte_toNat (v / 256 / 256 / 256)
  have e : val (low 4 v) = (byte v).toNat + 256 * ((byte (v / 256)).toNat + 256 * ((byte (v / 256 / 256)).toNat + 256 * ((byte (v / 256 / 256 / 256)).toNat + 256 * 0))) := rfl
  omega
theorem sgn_low2 {v : Int} (h1 : -32768 ≤ v) (h2 : v < 32768) : sgn 32768 (val (low 2 v)) = v := by
  have := val_low2 v
  unfold sgn
  rw [this]
  split <;> omega
theorem sgn_low4 {v : Int} (h1 : -2147483648 ≤ v) (h2 : v < 2147483648) : sgn 2147483648 (val (low 4 v)) = v := by
  have := val_low4 v
  unfold sgn
  rw [this]
  split <;> omega
theorem sgn_low4_mod (v : Int) : sgn 2147483648 (val (low 4 v)) % 4294967296 = v % 4294967296 := by
  have := val_low4 v
  unfold sgn
  rw [this]
  split <;> omega
theorem low_sgn2 {l : List UInt8} (h : l.length = 2) : low 2 (sgn 32768 (val l)) = l := by
  apply val_inj _ _ (by rw [low_length, h])
  have h1 := val_low2 (sgn 32768 (val l))
  have h2 := val_lt l
  rw [h] at h2
  unfold sgn at *
  split at h1 <;> rename_i hh <;> (first | rw [if_pos hh] | rw [if_neg hh]) <;> omega
theorem low_sgn4 {l : List UInt8} (h : l.length = 4) : low 4 (sgn 2147483648 (val l)) = l := by
  apply val_inj _ _ (by rw [low_length, h])
  have h1 := val_low4 (sgn 2147483648 (val l))
  have h2 := val_lt l
  rw [h] at h2
  unfold sgn at *
  split at h1 <;> rename_i hh <;> (first | rw [if_pos hh] | rw [if_neg hh]) <;> omega
theorem sgn4_range {l : List UInt8} (h : l.length = 4) : -2147483648 ≤ sgn 2147483648 (val l) ∧ sgn 2147483648 (val l) < 2147483648 := by
  have h2 := val_lt l
  rw [h] at h2
  unfold sgn
  split <;> omega
theorem sgn2_range {l : List UInt8} (h : l.length = 2) : -32768 ≤ sgn 32768 (val l) ∧ sgn 32768 (val l) < 32768 := by
  have h2 := val_lt l
  rw [h] at h2
  unfold sgn
  split <;> omega

/-! ### a unit's bytes -/
theorem two (l : List UInt8) (h : l.length = 2) : ∃ a b, l = [a, b] := by
  match l, h with
  | [a, b], _ => exact ⟨a, b, rfl⟩
theorem four (l : List UInt8) (h : l.length = 4) : ∃ a b c d, l = [a, b, c, d] := by
  match l, h with
  | [a, b, c, d], _ => exact ⟨a, b, c, d, rfl⟩
theorem fields_mk (a b : UInt8) (o m r : List UInt8) (ho : o.length = 2) (hm : m.length = 4) :
    fields (a :: b :: (o ++ (m ++ r))) = ⟨a.toNat, b.toNat % 16, b.toNat / 16, sgn 32768 (val o), sgn 2147483648 (val m)⟩ := by
  obtain ⟨x, y, rfl⟩ := two o ho
  obtain ⟨s, t, p, q, rfl⟩ := four m hm
  rfl
theorem unit_split (u : List UInt8) (h : 8 ≤ u.length) : ∃ a b o m r, u = a :: b :: (o ++ (m ++ r)) ∧ o.length = 2 ∧ m.length = 4 ∧ r = u.drop 8 := by
  match u, h with
  | a :: b :: c :: d :: e :: f :: g :: k :: r, _ => exact ⟨a, b, [c, d], [e, f, g, k], r, rfl, rfl, rfl, rfl⟩

/-! ### the tables -/
def eqI (a b : Ins) : Bool := decide (a.op = b.op) && (a.narrow == b.narrow) && (a.reg == b.reg) && decide (a.size = b.size) && decide (a.dst = b.dst) && decide (a.src = b.src) && decide (a.off = b.off) && decide (a.imm = b.imm)
theorem eqI_iff {a b : Ins} : eqI a b = true ↔ a = b := by
  cases a; cases b
  simp [eqI, and_assoc]
/-- the instruction without its fields, as its opcode tells it -/
def base (i : Ins) : Ins :=
  if i.op = 6 then ⟨4, i.narrow, i.reg, i.size, 0, 0, 0, 0⟩
  else if i.op = 7 then ⟨5, i.narrow, i.reg, i.size, 0, 0, 0, 0⟩
  else if i.op = 16 then ⟨15, i.narrow, i.reg, 0, 0, 0, 0, 0⟩
  else if 17 ≤ i.op ∧ i.op ≤ 19 then ⟨i.op, i.narrow, i.reg, 0, 0, 0, 0, 0⟩
  else ⟨i.op, i.narrow, i.reg, i.size, 0, 0, 0, 0⟩
def kind (op : Int) (n r : Bool) (s : Int) : Ins := ⟨op, n, r, s, 0, 0, 0, 0⟩
def sizesOf : List Int := [0, 1, 2, 4, 8, 16, 32, 64]
def tabA (i : Ins) : Bool :=
  !formed i || (decide (0 ≤ (opcode i).1) && decide ((opcode i).1 < 256) && (operation (opcode i).1.toNat).2 &&
    (if wide i.op = true then decide ((opcode i).1 = 24) && decide ((operation (opcode i).1.toNat).1.op = 20) else eqI (operation (opcode i).1.toNat).1 (base i)))
theorem tabA_all : ∀ k, k < 40 → [false, true].all (fun n => [false, true].all fun r => sizesOf.all fun s => tabA (kind (k : Nat) n r s)) = true := by decide +kernel

def tabB (c : Nat) : Bool :=
  !(operation c).2 || (if (operation c).1.op = 20 then decide (c = 24) else
    decide (1 ≤ (operation c).1.op) && decide ((operation c).1.op ≤ 39) && eqI (kind (operation c).1.op (operation c).1.narrow (operation c).1.reg (operation c).1.size) (operation c).1 &&
    decide ((opcode (operation c).1).1 = c) && decide ((operation c).1.op ≠ 6) && decide ((operation c).1.op ≠ 7) && decide ((operation c).1.op ≠ 16) && decide ((operation c).1.op ≠ 21) &&
    (decide ((operation c).1.op ≠ 15) || decide ((operation c).1.size = 0)))
theorem tabB_all : ∀ c, c < 256 → tabB c = true := by decide +kernel

theorem formed_size {i : Ins} (h : formed i = true) : i.size ∈ sizesOf := by
  unfold formed fsize at h
  simp only [sizesOf, List.mem_cons, List.not_mem_nil, or_false]
  grind
theorem formed_op {i : Ins} (h : formed i = true) : 1 ≤ i.op ∧ i.op ≤ 39 := by
  unfold formed at h
  grind
theorem formed_kind (i : Ins) : formed (kind i.op i.narrow i.reg i.size) = formed i := rfl
theorem opcode_kind (i : Ins) : (opcode (kind i.op i.narrow i.reg i.size)).1 = (opcode i).1 := by
  unfold opcode kind
  simp only [apply_ite Prod.fst]
theorem base_kind (i : Ins) : base (kind i.op i.narrow i.reg i.size) = base i := rfl
theorem tabA_at {i : Ins} (h : formed i = true) : 0 ≤ (opcode i).1 ∧ (opcode i).1 < 256 ∧ (operation (opcode i).1.toNat).2 = true ∧
    (wide i.op = true → (opcode i).1 = 24 ∧ (operation (opcode i).1.toNat).1.op = 20) ∧ (wide i.op = false → (operation (opcode i).1.toNat).1 = base i) := by
  have ho := formed_op h
  have hs := formed_size h
  have h1 := tabA_all i.op.toNat (by omega)
  rw [List.all_eq_true] at h1
  have h2 := h1 i.narrow (by cases i.narrow <;> simp)
  rw [List.all_eq_true] at h2
  have h3 := h2 i.reg (by cases i.reg <;> simp)
  rw [List.all_eq_true] at h3
  have h4 := h3 i.size hs
  rw [show ((i.op.toNat : Nat) : Int) = i.op by omega] at h4
  unfold tabA at h4
  rw [formed_kind, h, opcode_kind, base_kind] at h4
  simp only [Bool.not_true, Bool.false_or, Bool.and_eq_true, decide_eq_true_eq] at h4
  refine ⟨h4.1.1.1, h4.1.1.2, h4.1.2, ?_, ?_⟩
  · intro hw
    have h5 := h4.2
    rw [if_pos (show wide (kind i.op i.narrow i.reg i.size).op = true from hw)] at h5
    simpa using h5
  · intro hw
    have h5 := h4.2
    rw [if_neg (show ¬ wide (kind i.op i.narrow i.reg i.size).op = true by show ¬ wide i.op = true; rw [hw]; decide)] at h5
    exact eqI_iff.mp h5

/-! ### the reading of one unit -/
def srcUsed (i : Ins) : Bool := usesSrc i || (decide (i.op = 15) && i.reg)
/-- what next does with an opcode's instruction of one unit -/
def tail (i : Ins) (f : F) : Except Int (Ins × Nat) :=
  if (usesDst i && !isReg f.dst (writesDst i.op)) || (srcUsed i && !isReg f.src (writesSrc i.op f.imm)) then .error 22
  else if (usesDst i = false ∧ f.dst ≠ 0) ∨ (srcUsed i = false ∧ f.src ≠ 0) then .error 23
  else match (if usesOff i = true then some i else chosen i f.off) with
    | none => .error 23
    | some j =>
      if (usesImm i = false ∧ (filled j f (usesOff i)).imm ≠ 0) ∨ (usesImm i = true ∧ immFits (filled j f (usesOff i)) = false) ∨ formed (filled j f (usesOff i)) = false then .error 24
      else .ok (filled j f (usesOff i), 1)
theorem next_eq (u : List UInt8) : next u = if u.length / 8 < 1 then .error 20 else if (operation (fields u).op).2 = false then .error 21 else if (operation (fields u).op).1.op = 20 then nextWide (fields u) u else tail (operation (fields u).op).1 (fields u) := rfl

structure Fits (i : Ins) (f : F) (j k : Ins) : Prop where
  dst : usesDst i = true → isReg f.dst (writesDst i.op) = true
  src : srcUsed i = true → isReg f.src (writesSrc i.op f.imm) = true
  dst0 : usesDst i = false → f.dst = 0
  src0 : srcUsed i = false → f.src = 0
  off : (if usesOff i = true then some i else chosen i f.off) = some j
  fil : filled j f (usesOff i) = k
  imm0 : usesImm i = false → k.imm = 0
  imm : usesImm i = true → immFits k = true
  form : formed k = true
theorem tail_ok {i : Ins} {f : F} {j k : Ins} (h : Fits i f j k) : tail i f = .ok (k, 1) := by
  obtain ⟨h1, h2, h3, h4, h5, h6, h7, h8, h9⟩ := h
  subst h6
  unfold tail
  rw [if_neg, if_neg, h5]
  · dsimp only
    rw [if_neg]
    grind
  · grind
  · grind
theorem tail_inv {i : Ins} {f : F} {x : Ins} {n : Nat} (h : tail i f = .ok (x, n)) : n = 1 ∧ ∃ j, Fits i f j x := by
  unfold tail at h
  split at h
  · cases h
  · rename_i g1
    split at h
    · cases h
    · rename_i g2
      cases hj : (if usesOff i = true then some i else chosen i f.off) with
      | none => rw [hj] at h; cases h
      | some j =>
        rw [hj] at h
        dsimp only at h
        split at h
        · cases h
        · rename_i g3
          cases h
          refine ⟨rfl, j, ?_, ?_, ?_, ?_, hj, rfl, ?_, ?_, ?_⟩ <;> grind
theorem tail_error {i : Ins} {f : F} {e : Int} (h : tail i f = .error e) : e = 22 ∨ e = 23 ∨ e = 24 := by
  unfold tail at h
  split at h
  · cases h; omega
  · split at h
    · cases h; omega
    · cases hj : (if usesOff i = true then some i else chosen i f.off) with
      | none => rw [hj] at h; cases h; omega
      | some j =>
        rw [hj] at h
        dsimp only at h
        split at h
        · cases h; omega
        · cases h
theorem wide_error {f : F} {u : List UInt8} {e : Int} (h : nextWide f u = .error e) : e = 20 ∨ e = 22 ∨ e = 23 ∨ e = 24 := by
  unfold nextWide at h
  grind
theorem next_error {u : List UInt8} {e : Int} (h : next u = .error e) : 20 ≤ e ∧ e ≤ 24 := by
  rw [next_eq] at h
  split at h
  · cases h; omega
  · split at h
    · cases h; omega
    · split at h
      · have := wide_error h; omega
      · have := tail_error h; omega

/-! ### what is right -/
structure Good (x : Ins) : Prop where
  form : formed x = true
  dst : usesDst x = true → isReg x.dst (writesDst x.op) = true
  src : usesSrc x = true → isReg x.src (writesSrc x.op x.imm) = true
  dst0 : usesDst x = false → x.dst = 0
  src0 : usesSrc x = false → x.src = 0
  off0 : usesOff x = false → x.off = 0
  offl : -32768 ≤ x.off
  offh : x.off < 32768
  imm0 : usesImm x = false → x.imm = 0
  imm : usesImm x = true → immFits x = true
theorem right_iff {x : Ins} : right x = 0 ↔ Good x := by
  constructor
  · intro h
    unfold right at h
    refine ⟨?_, ?_, ?_, ?_, ?_, ?_, ?_, ?_, ?_, ?_⟩ <;> grind
  · rintro ⟨h1, h2, h3, h4, h5, h6, h7, h8, h9, h10⟩
    unfold right
    rw [if_neg (by grind), if_neg (by grind), if_neg (by grind), if_neg (by grind)]
theorem isReg_range {n : Int} {b : Bool} (h : isReg n b = true) : 0 ≤ n ∧ n ≤ 10 := by
  unfold isReg at h
  simp at h
  omega
theorem Good.dstR {x : Ins} (h : Good x) : 0 ≤ x.dst ∧ x.dst ≤ 10 := by
  cases hu : usesDst x with
  | true => exact isReg_range (h.dst hu)
  | false => have := h.dst0 hu; omega
theorem Good.srcR {x : Ins} (h : Good x) : 0 ≤ x.src ∧ x.src ≤ 10 := by
  cases hu : usesSrc x with
  | true => exact isReg_range (h.src hu)
  | false => have := h.src0 hu; omega
theorem immFits_range {x : Ins} (h : immFits x = true) (h20 : x.op ≠ 20) : -2147483648 ≤ x.imm ∧ x.imm < 2147483648 := by
  unfold immFits at h
  grind
theorem Good.immR {x : Ins} (h : Good x) (h20 : x.op ≠ 20) : -2147483648 ≤ x.imm ∧ x.imm < 2147483648 := by
  cases hu : usesImm x with
  | true => exact immFits_range (h.imm hu) h20
  | false => have := h.imm0 hu; omega

/-- the numbers in the fields src, off, imm -/
theorem opcode_snd (x : Ins) : (opcode x).2 =
    if x.op = 6 ∨ x.op = 7 then (x.src, 1, x.imm) else if x.op = 16 then (x.src, x.size, x.imm) else if 17 ≤ x.op ∧ x.op ≤ 19 then (x.src, x.off, x.size)
    else if x.op = 20 then (0, 0, x.imm) else if x.op = 21 then (6, 0, 0) else (x.src, x.off, x.imm) := by
  unfold opcode
  simp only [apply_ite Prod.snd, ite_self]
  grind (splits := 20)

theorem byte_small {v : Int} (h0 : 0 ≤ v) (h1 : v < 256) : (byte v).toNat = v.toNat := by
  have := byte_toNat v
  omega

theorem fields_bytes (x : Ins) (r : List UInt8) {c d s o m : Int} (hc : opcode x = (c, s, o, m)) (hd : x.dst = d) (c0 : 0 ≤ c) (c1 : c < 256) (d0 : 0 ≤ d) (d1 : d < 16) (s0 : 0 ≤ s) (s1 : s < 16)
    (o0 : -32768 ≤ o) (o1 : o < 32768) (m0 : -2147483648 ≤ m) (m1 : m < 2147483648) : fields (bytes x ++ r) = ⟨c.toNat, d.toNat, s.toNat, o, m⟩ := by
  have e : bytes x ++ r = byte c :: byte (s * 16 + d) :: (low 2 o ++ (low 4 m ++ ((if wide x.op = true then low 4 0 ++ low 4 (high x) else []) ++ r))) := by
    unfold bytes
    rw [hc, hd]
    simp
  rw [e, fields_mk _ _ _ _ _ (low_length 2 o) (low_length 4 m), sgn_low2 o0 o1, sgn_low4 m0 m1, byte_small c0 c1, byte_small (by omega) (by omega)]
  congr 1
  · omega
  · omega
theorem bytes_length (x : Ins) : (bytes x).length = 8 * width x := by
  unfold bytes width
  simp only [List.length_append, List.length_cons, List.length_nil, low_length]
  split <;> simp [low_length]

theorem nat_of {v : Int} (h : 0 ≤ v) : ((v.toNat : Nat) : Int) = v := by omega

theorem next_narrow (x : Ins) (r : List UInt8) (h : Good x) (hw : wide x.op = false) : next (bytes x ++ r) = .ok (x, 1) := by
  obtain ⟨t1, t2, t3, -, t5⟩ := tabA_at h.form
  have t6 := t5 hw
  obtain ⟨d0, d1⟩ := h.dstR
  obtain ⟨s0, s1⟩ := h.srcR
  have h20 : x.op ≠ 20 := by intro e; rw [e] at hw; cases hw
  have h21 : x.op ≠ 21 := by intro e; rw [e] at hw; cases hw
  obtain ⟨m0, m1⟩ := h.immR h20
  have hsz := formed_size h.form
  have hs2 : 0 ≤ x.size ∧ x.size ≤ 64 := by
    simp only [sizesOf, List.mem_cons, List.not_mem_nil, or_false] at hsz
    omega
  have hop := formed_op h.form
  have hl := bytes_length x
  have hlen : ¬ (bytes x ++ r).length / 8 < 1 := by
    rw [List.length_append, hl]
    unfold width
    split <;> omega
  have hsnd := opcode_snd x
  have ho := h.offl
  have ho2 := h.offh
  by_cases a1 : x.op = 6 ∨ x.op = 7
  · rw [if_pos a1] at hsnd
    have hf := fields_bytes x r (c := (opcode x).1) (s := x.src) (o := 1) (m := x.imm) (by rw [← hsnd]) rfl t1 t2 d0 (by omega) s0 (by omega) (by omega) (by omega) m0 m1
    rw [next_eq, if_neg hlen, hf]
    dsimp only
    rw [t3, t6]
    have hb : base x = ⟨if x.op = 6 then 4 else 5, x.narrow, x.reg, x.size, 0, 0, 0, 0⟩ := by unfold base; grind
    rw [hb, if_neg (by simp), if_neg (by dsimp only; split <;> omega)]
    obtain ⟨g1, g2, g3, g4, g5, g6, g7, g8, g9, g10⟩ := h
    apply tail_ok (j := ⟨x.op, x.narrow, x.reg, x.size, 0, 0, 0, 0⟩)
    obtain ⟨op, n, rg, sz, d, s, o, m⟩ := x
    dsimp only at *
    have hoff : o = 0 := g6 (by rcases a1 with rfl | rfl <;> rfl)
    subst hoff
    refine ⟨?_, ?_, ?_, ?_, ?_, ?_, ?_, ?_, g1⟩ <;> (try dsimp only) <;> rcases a1 with rfl | rfl <;> simp [usesDst, usesSrc, srcUsed, second, usesOff, memory, jump, usesImm, writesDst, writesSrc, chosen, filled, nat_of d0, nat_of s0] at * <;> grind
  · rw [if_neg a1] at hsnd
    by_cases a2 : x.op = 16
    · rw [if_pos a2] at hsnd
      have hf := fields_bytes x r (c := (opcode x).1) (s := x.src) (o := x.size) (m := x.imm) (by rw [← hsnd]) rfl t1 t2 d0 (by omega) s0 (by omega) (by omega) (by omega) m0 m1
      rw [next_eq, if_neg hlen, hf]
      dsimp only
      rw [t3, t6]
      have hb : base x = ⟨15, x.narrow, x.reg, 0, 0, 0, 0, 0⟩ := by unfold base; grind
      rw [hb, if_neg (by simp), if_neg (by dsimp only; omega)]
      obtain ⟨g1, g2, g3, g4, g5, g6, g7, g8, g9, g10⟩ := h
      apply tail_ok (j := ⟨16, x.narrow, x.reg, x.size, 0, 0, 0, 0⟩)
      obtain ⟨op, n, rg, sz, d, s, o, m⟩ := x
      dsimp only at *
      subst a2
      have hoff : o = 0 := g6 rfl
      subst hoff
      have hreg : rg = true := by unfold formed at g1; simp at g1; exact g1.1
      subst hreg
      have hsz3 : sz = 8 ∨ sz = 16 ∨ (sz = 32 ∧ n = false) := by unfold formed at g1; simp at g1; cases n <;> simp at g1 <;> simp <;> omega
      refine ⟨?_, ?_, ?_, ?_, ?_, ?_, ?_, ?_, g1⟩ <;> (try dsimp only) <;> simp [usesDst, usesSrc, srcUsed, second, usesOff, memory, jump, usesImm, writesDst, writesSrc, chosen, filled, nat_of d0, nat_of s0] at * <;> grind
    · rw [if_neg a2] at hsnd
      by_cases a3 : 17 ≤ x.op ∧ x.op ≤ 19
      · rw [if_pos a3] at hsnd
        have hf := fields_bytes x r (c := (opcode x).1) (s := x.src) (o := x.off) (m := x.size) (by rw [← hsnd]) rfl t1 t2 d0 (by omega) s0 (by omega) (by omega) (by omega) (by omega) (by omega)
        rw [next_eq, if_neg hlen, hf]
        dsimp only
        rw [t3, t6]
        have hb : base x = ⟨x.op, x.narrow, x.reg, 0, 0, 0, 0, 0⟩ := by unfold base; grind
        rw [hb, if_neg (by simp), if_neg (by dsimp only; omega)]
        obtain ⟨g1, g2, g3, g4, g5, g6, g7, g8, g9, g10⟩ := h
        apply tail_ok (j := ⟨x.op, x.narrow, x.reg, 0, 0, 0, 0, 0⟩)
        obtain ⟨op, n, rg, sz, d, s, o, m⟩ := x
        dsimp only at *
        have hop3 : op = 17 ∨ op = 18 ∨ op = 19 := by omega
        refine ⟨?_, ?_, ?_, ?_, ?_, ?_, ?_, ?_, g1⟩ <;> (try dsimp only) <;> rcases hop3 with rfl | rfl | rfl <;> simp [usesDst, usesSrc, srcUsed, second, usesOff, memory, jump, usesImm, writesDst, writesSrc, chosen, filled, nat_of d0, nat_of s0] at * <;> grind
      · rw [if_neg a3, if_neg h20, if_neg h21] at hsnd
        have hf := fields_bytes x r (c := (opcode x).1) (s := x.src) (o := x.off) (m := x.imm) (by rw [← hsnd]) rfl t1 t2 d0 (by omega) s0 (by omega) ho ho2 m0 m1
        rw [next_eq, if_neg hlen, hf]
        dsimp only
        rw [t3, t6]
        have hb : base x = ⟨x.op, x.narrow, x.reg, x.size, 0, 0, 0, 0⟩ := by unfold base; grind
        rw [hb, if_neg (by simp), if_neg (by dsimp only; omega)]
        obtain ⟨g1, g2, g3, g4, g5, g6, g7, g8, g9, g10⟩ := h
        apply tail_ok (j := ⟨x.op, x.narrow, x.reg, x.size, 0, 0, 0, 0⟩)
        obtain ⟨op, n, rg, sz, d, s, o, m⟩ := x
        dsimp only at *
        have hsrc : srcUsed ⟨op, n, rg, sz, 0, 0, 0, 0⟩ = usesSrc ⟨op, n, rg, sz, d, s, o, m⟩ := by unfold srcUsed usesSrc second; dsimp only; grind
        refine ⟨?_, ?_, ?_, ?_, ?_, ?_, ?_, ?_, g1⟩
        · intro hu; rw [nat_of d0]; exact g2 hu
        · intro hu; rw [nat_of s0]; rw [hsrc] at hu; exact g3 hu
        · intro hu; have := g4 hu; dsimp only; omega
        · intro hu; rw [hsrc] at hu; have := g5 hu; dsimp only; omega
        · by_cases hu : usesOff ⟨op, n, rg, sz, 0, 0, 0, 0⟩ = true
          · rw [if_pos hu]
          · rw [if_neg hu]; have h0 : o = 0 := g6 (Bool.eq_false_iff.mpr hu); unfold chosen; dsimp only; rw [if_pos h0]
        · unfold filled
          dsimp only
          rw [if_neg a3, nat_of d0, nat_of s0]
          congr 1
          split
          · rfl
          · rename_i hu; exact (g6 (Bool.eq_false_iff.mpr hu)).symm
        · intro hu; exact g9 hu
        · intro hu; exact g10 hu

end Go.Proofs.Ytfcbedkidjclhaa.Cd
