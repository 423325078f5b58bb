/-
  Plain laws of package code, one instruction: instructions of two units; what is read is right and is written as just these bytes. No program in sight.
  No condition beyond those each statement names.
-/
import Derived.Test.YtfcbedkidjclhaaCodeL
namespace Go.Proofs.Ytfcbedkidjclhaa.Cd
open Pk
set_option maxRecDepth 100000
set_option linter.unusedSimpArgs false
set_option linter.unusedVariables false

/-- a number of 64 bits -/
def InR (x : Ins) : Prop := -9223372036854775808 ≤ x.imm ∧ x.imm < 9223372036854775808

theorem sgn_zero2 : sgn 32768 (val [0, 0]) = 0 := by
  unfold sgn
  rw [show val [0, 0] = 0 by decide, if_pos (by decide)]
  decide
theorem fields_second (h : Int) (r : List UInt8) {G : Int} (hG : sgn 2147483648 (val (low 4 h)) = G) : fields (low 4 0 ++ low 4 h ++ r) = ⟨0, 0, 0, 0, G⟩ := by
  have e : low 4 0 ++ low 4 h ++ r = (0 : UInt8) :: (0 : UInt8) :: ([0, 0] ++ (low 4 h ++ r)) := by
    rw [show low 4 0 = [0, 0, 0, 0] by decide]
    simp
  rw [e, fields_mk _ _ _ _ _ rfl (low_length 4 h), hG, sgn_zero2]
  rfl

theorem drop_wide (x : Ins) (r : List UInt8) (hw : wide x.op = true) : (bytes x ++ r).drop 8 = low 4 0 ++ low 4 (high x) ++ r := by
  unfold bytes
  rw [if_pos hw]
  have h2 : low 2 (opcode x).2.2.1 = [byte (opcode x).2.2.1, byte ((opcode x).2.2.1 / 256)] := rfl
  have h4 : low 4 (opcode x).2.2.2 = [byte (opcode x).2.2.2, byte ((opcode x).2.2.2 / 256), byte ((opcode x).2.2.2 / 256 / 256), byte ((opcode x).2.2.2 / 256 / 256 / 256)] := rfl
  rw [h2, h4]
  simp

theorem fields_wide (x : Ins) (r : List UInt8) {s m : Int} (hc : opcode x = (24, s, 0, m)) (d0 : 0 ≤ x.dst) (d1 : x.dst < 16) (s0 : 0 ≤ s) (s1 : s < 16) {G : Int} (hG : sgn 2147483648 (val (low 4 m)) = G) : fields (bytes x ++ r) = ⟨24, x.dst.toNat, s.toNat, 0, G⟩ := by
  have e : bytes x ++ r = byte 24 :: byte (s * 16 + x.dst) :: (low 2 0 ++ (low 4 m ++ ((if wide x.op = true then low 4 0 ++ low 4 (high x) else []) ++ r))) := by
    unfold bytes
    rw [hc]
    simp
  rw [e, fields_mk _ _ _ _ _ (low_length 2 0) (low_length 4 m), hG, byte_small (by omega) (by omega), sgn_low2 (by omega) (by omega), byte_small (by omega) (by omega)]
  have e1 : (s * 16 + x.dst).toNat % 16 = x.dst.toNat := by omega
  have e2 : (s * 16 + x.dst).toNat / 16 = s.toNat := by omega
  rw [e1, e2, show (24 : Int).toNat = 24 from rfl]

theorem next_wide (x : Ins) (r : List UInt8) (h : Good x) (hi : InR x) (hw : wide x.op = true) : next (bytes x ++ r) = .ok (x, 2) := by
  have hl := bytes_length x
  have hwd : width x = 2 := by unfold width; rw [if_pos hw]
  have hlen : ¬ (bytes x ++ r).length / 8 < 1 := by
    rw [List.length_append, hl, hwd]
    omega
  have hlen2 : ¬ (bytes x ++ r).length / 8 < 2 := by
    rw [List.length_append, hl, hwd]
    omega
  have hdr := drop_wide x r hw
  obtain ⟨d0, d1⟩ := h.dstR
  have hfo := h.form
  obtain ⟨i0, i1⟩ := hi
  have ho24 : operation 24 = ({ I0 with op := 20 }, true) := by rfl
  have hop : x.op = 20 ∨ x.op = 21 := by unfold wide at hw; simpa using hw
  obtain ⟨g1, g2, g3, g4, g5, g6, g7, g8, g9, g10⟩ := h
  obtain ⟨op, n, rg, sz, d, s, o, m⟩ := x
  dsimp only at *
  rcases hop with rfl | rfl
  · have hn : n = false ∧ rg = false ∧ sz = 0 := by
      unfold formed fsize fnarrow second at g1
      simp at g1
      grind
    obtain ⟨rfl, rfl, rfl⟩ := hn
    have hs0 : s = 0 := g5 rfl
    have ho0 : o = 0 := g6 rfl
    subst hs0 ho0
    have e2 := sgn_low4_mod m
    have e1 := sgn_low4 (v := m / 4294967296) (by omega) (by omega)
    obtain ⟨G, hG⟩ : ∃ G, sgn 2147483648 (val (low 4 m)) = G := ⟨_, rfl⟩
    rw [hG] at e2
    have hf := fields_wide ⟨20, false, false, 0, d, 0, 0, m⟩ r (s := 0) (m := m) rfl d0 (by (try dsimp only); omega) (by omega) (by omega) hG
    have hg := fields_second (m / 4294967296) r e1
    rw [show high ⟨20, false, false, 0, d, 0, 0, m⟩ = m / 4294967296 from rfl, ] at hdr
    rw [next_eq, if_neg hlen, hf]
    dsimp only
    rw [ho24, if_neg (by decide), if_pos rfl]
    unfold nextWide
    rw [if_neg hlen2, hdr, hg]
    dsimp only
    rw [nat_of d0, if_neg (by rw [show isReg d true = true from g2 rfl]; decide), if_neg (by simp), if_neg (by decide)]
    have : m / 4294967296 * 4294967296 + G % 4294967296 = m := by omega
    rw [this]
    rfl
  · have hn : n = false ∧ rg = false ∧ sz = 0 := by
      unfold formed fsize fnarrow second at g1
      simp at g1
      grind
    obtain ⟨rfl, rfl, rfl⟩ := hn
    have hs0 : s = 0 := g5 rfl
    have ho0 : o = 0 := g6 rfl
    subst hs0 ho0
    have hf := fields_wide ⟨21, false, false, 0, d, 0, 0, m⟩ r (s := 6) (m := 0) rfl d0 (by (try dsimp only); omega) (by omega) (by omega) (sgn_low4 (by omega) (by omega))
    rw [next_eq, if_neg hlen, hf]
    dsimp only
    rw [ho24, if_neg (by decide), if_pos rfl]
    unfold nextWide
    have hm := g10 rfl
    have hm2 : 0 ≤ m ∧ m < 2147483648 := by
      unfold immFits at hm
      simp at hm
      grind
    have e1 := sgn_low4 (v := m) (by omega) (by omega)
    have hg := fields_second m r e1
    rw [show high ⟨21, false, false, 0, d, 0, 0, m⟩ = m from rfl] at hdr
    rw [if_neg hlen2, hdr, hg]
    dsimp only
    rw [nat_of d0, if_neg (by rw [show isReg d true = true from g2 rfl]; decide), if_neg (by simp), if_pos (by decide), if_neg]
    · rfl
    · rintro (h | h)
      · exact h rfl
      · omega

/-- what is written is read back -/
theorem next_bytes (x : Ins) (r : List UInt8) (h : right x = 0) (hi : InR x) : next (bytes x ++ r) = .ok (x, width x) := by
  have hg := right_iff.mp h
  unfold width
  cases hw : wide x.op with
  | true => exact next_wide x r hg hi hw
  | false => exact next_narrow x r hg hw

/-! ### the other way -/
theorem bytes_narrow (x : Ins) (a b : UInt8) (o m : List UInt8) (ho : o.length = 2) (hm : m.length = 4) (hw : wide x.op = false)
    {P G : Int} (hP : low 2 P = o) (hG : low 4 G = m) (hc : opcode x = ((a.toNat : Int), ((b.toNat / 16 : Nat) : Int), P, G)) (hd : x.dst = ((b.toNat % 16 : Nat) : Int)) : bytes x = a :: b :: (o ++ m) := by
  unfold bytes
  rw [hc, hd, hw]
  dsimp only
  rw [hP, hG]
  have ha := a.toNat_lt
  have hb := b.toNat_lt
  have e1 : byte (a.toNat : Int) = a := UInt8.toNat_inj.mp (by rw [byte_nat]; omega)
  have e2 : byte (((b.toNat / 16 : Nat) : Int) * 16 + ((b.toNat % 16 : Nat) : Int)) = b := UInt8.toNat_inj.mp (by
    rw [show ((b.toNat / 16 : Nat) : Int) * 16 + ((b.toNat % 16 : Nat) : Int) = ((b.toNat / 16 * 16 + b.toNat % 16 : Nat) : Int) by omega, byte_nat]; omega)
  rw [e1, e2]
  simp

theorem opcode_fst_swap {x : Ins} (h : 17 ≤ x.op ∧ x.op ≤ 19) (s : Int) : (opcode x).1 = (opcode { x with size := s }).1 := by
  unfold opcode
  dsimp only
  have : x.op = 17 ∨ x.op = 18 ∨ x.op = 19 := by omega
  rcases this with e | e | e <;> rw [e] <;> rfl
theorem opcode_fst6 {n r : Bool} {s s' d1 d2 s1 s2 o1 o2 m1 m2 : Int} : (opcode ⟨6, n, r, s, d1, s1, o1, m1⟩).1 = (opcode ⟨4, n, r, s', d2, s2, o2, m2⟩).1 := rfl
theorem opcode_fst7 {n r : Bool} {s s' d1 d2 s1 s2 o1 o2 m1 m2 : Int} : (opcode ⟨7, n, r, s, d1, s1, o1, m1⟩).1 = (opcode ⟨5, n, r, s', d2, s2, o2, m2⟩).1 := rfl
theorem opcode_fst16 {n r : Bool} {s s' d1 d2 s1 s2 o1 o2 m1 m2 : Int} : (opcode ⟨16, n, r, s, d1, s1, o1, m1⟩).1 = (opcode ⟨15, n, r, s', d2, s2, o2, m2⟩).1 := rfl

structure Base (c : Nat) (i : Ins) : Prop where
  op1 : 1 ≤ i.op
  op2 : i.op ≤ 39
  kind : kind i.op i.narrow i.reg i.size = i
  code : (opcode i).1 = c
  n6 : i.op ≠ 6
  n7 : i.op ≠ 7
  n16 : i.op ≠ 16
  n21 : i.op ≠ 21
theorem tabB_at {c : Nat} (hc : c < 256) (h : (operation c).2 = true) (h20 : (operation c).1.op ≠ 20) : Base c (operation c).1 := by
  have h1 := tabB_all c hc
  unfold tabB at h1
  rw [h, if_neg h20] at h1
  simp only [Bool.not_true, Bool.false_or, Bool.and_eq_true, decide_eq_true_eq, eqI_iff] at h1
  obtain ⟨⟨⟨⟨⟨⟨⟨⟨a1, a2⟩, a3⟩, a4⟩, a5⟩, a6⟩, a7⟩, a8⟩, a9⟩ := h1
  exact ⟨a1, a2, a3, a4, a5, a6, a7, a8⟩
theorem tabB_20 {c : Nat} (hc : c < 256) (h : (operation c).2 = true) (h20 : (operation c).1.op = 20) : c = 24 := by
  have h1 := tabB_all c hc
  unfold tabB at h1
  rw [h, if_pos h20] at h1
  simpa using h1

theorem chosen_inv {i j : Ins} {off : Int} (h : chosen i off = some j) : (off = 0 ∧ j = i) ∨ (off = 1 ∧ i.op = 4 ∧ j = { i with op := 6 }) ∨ (off = 1 ∧ i.op = 5 ∧ j = { i with op := 7 }) ∨
    (i.op = 15 ∧ i.reg = true ∧ j = { i with op := 16, size := off }) := by
  unfold chosen at h
  split at h
  · rename_i h0
    exact .inl ⟨h0, by cases h; rfl⟩
  · split at h
    · rename_i h0
      exact .inr (.inl ⟨h0.1, h0.2, by cases h; rfl⟩)
    · split at h
      · rename_i h0
        exact .inr (.inr (.inl ⟨h0.1, h0.2, by cases h; rfl⟩))
      · split at h
        · rename_i h0
          exact .inr (.inr (.inr ⟨h0.1, h0.2.1, by cases h; rfl⟩))
        · cases h

/-- what one unit tells is right, and is written as just this unit -/
theorem tail_law {c : Nat} {i x j : Ins} {f : F} (hb : Base c i) (h20 : i.op ≠ 20) (hf : Fits i f j x) (o1 : -32768 ≤ f.off) (o2 : f.off < 32768) :
    Good x ∧ wide x.op = false ∧ opcode x = ((c : Int), (f.src : Int), f.off, f.imm) ∧ x.dst = f.dst ∧ (x.imm = f.imm ∨ x.imm = 0) := by
  obtain ⟨b1, b2, b3, b4, b5, b6, b7, b8⟩ := hb
  obtain ⟨f1, f2, f3, f4, f5, f6, f7, f8, f9⟩ := hf
  obtain ⟨op, n, rg, sz, d, s, o, m⟩ := i
  unfold kind at b3
  dsimp only at *
  injection b3 with _ _ _ _ e1 e2 e3 e4
  subst e1 e2 e3 e4
  have hj : (usesOff ⟨op, n, rg, sz, 0, 0, 0, 0⟩ = true ∧ j = ⟨op, n, rg, sz, 0, 0, 0, 0⟩) ∨ (usesOff ⟨op, n, rg, sz, 0, 0, 0, 0⟩ = false ∧ chosen ⟨op, n, rg, sz, 0, 0, 0, 0⟩ f.off = some j) := by
    cases hu : usesOff ⟨op, n, rg, sz, 0, 0, 0, 0⟩ with
    | true => rw [hu] at f5; exact .inl ⟨rfl, by simpa using f5.symm⟩
    | false => rw [hu] at f5; exact .inr ⟨rfl, by simpa using f5⟩
  by_cases hs : 17 ≤ op ∧ op ≤ 19
  · have hu : usesOff ⟨op, n, rg, sz, 0, 0, 0, 0⟩ = false := by unfold usesOff jump memory; (try dsimp only); grind
    have hj0 : f.off = 0 ∧ j = ⟨op, n, rg, sz, 0, 0, 0, 0⟩ := by
      rcases hj with ⟨h1, h2⟩ | ⟨h1, h2⟩
      · rw [hu] at h1; cases h1
      · rcases chosen_inv h2 with h | h | h | h <;> (try dsimp only at h)
        · exact h
        · omega
        · omega
        · omega
    obtain ⟨z, rfl⟩ := hj0
    rw [hu] at f6
    unfold filled at f6
    dsimp only at f6
    rw [if_pos hs, if_neg (by decide)] at f6
    subst f6
    dsimp only at *
    have hss : srcUsed ⟨op, n, rg, sz, 0, 0, 0, 0⟩ = false := by unfold srcUsed usesSrc second memory; (try dsimp only); grind
    have hsu : usesSrc ⟨op, n, rg, f.imm, f.dst, f.src, 0, 0⟩ = false := by unfold usesSrc second memory; (try dsimp only); grind
    have hfs := f4 hss
    refine ⟨⟨f9, f1, ?_, ?_, ?_, ?_, by (try dsimp only); omega, by (try dsimp only); omega, ?_, ?_⟩, ?_, ?_, rfl, .inr rfl⟩
    · intro h; rw [hsu] at h; cases h
    · intro h; (try dsimp only); have := f3 h; omega
    · intro h; (try dsimp only); omega
    · intro h; rfl
    · intro h; rfl
    · intro h; exact f8 h
    · unfold wide; (try dsimp only); grind
    · apply Prod.ext
      · rw [opcode_fst_swap hs sz]
        exact (opcode_kind _).symm.trans b4
      · rw [opcode_snd]
        dsimp only
        rw [if_neg (by omega), if_neg (by omega), if_pos hs, z]
  · have hfil : x = { j with dst := f.dst, src := f.src, off := if usesOff ⟨op, n, rg, sz, 0, 0, 0, 0⟩ = true then f.off else j.off, imm := f.imm } := by
      have hjop : ¬ (17 ≤ j.op ∧ j.op ≤ 19) := by
        rcases hj with ⟨h1, rfl⟩ | ⟨h1, h2⟩
        · exact hs
        · rcases chosen_inv h2 with h | h | h | h <;> (try dsimp only at h)
          · rw [h.2]; exact hs
          · rw [h.2.2]; (try dsimp only); omega
          · rw [h.2.2]; (try dsimp only); omega
          · rw [h.2.2]; (try dsimp only); omega
      rw [← f6]
      unfold filled
      dsimp only
      rw [if_neg hjop]
    rcases hj with ⟨hu, rfl⟩ | ⟨hu, h2⟩
    · rw [hu] at hfil
      simp only [if_true] at hfil
      subst hfil
      have hsu : srcUsed ⟨op, n, rg, sz, 0, 0, 0, 0⟩ = usesSrc ⟨op, n, rg, sz, 0, 0, 0, 0⟩ := by unfold srcUsed usesSrc second; (try dsimp only); grind
      rw [hsu] at f2 f4
      refine ⟨⟨f9, f1, f2, ?_, ?_, ?_, o1, o2, f7, f8⟩, ?_, ?_, rfl, .inl rfl⟩
      · intro h; (try dsimp only); have := f3 h; omega
      · intro h; (try dsimp only); have := f4 h; omega
      · intro h; exfalso; rw [show usesOff (⟨op, n, rg, sz, f.dst, f.src, f.off, f.imm⟩ : Ins) = true from hu] at h; cases h
      · unfold wide; (try dsimp only); simp; omega
      · apply Prod.ext
        · exact (opcode_kind _).symm.trans b4
        · rw [opcode_snd]
          dsimp only
          rw [if_neg (by omega), if_neg (by omega), if_neg hs, if_neg (by omega), if_neg (by omega)]
    · rw [hu] at hfil
      simp only [Bool.false_eq_true, if_false] at hfil
      rcases chosen_inv h2 with h | h | h | h <;> (try dsimp only at h)
      · obtain ⟨z, rfl⟩ := h
        dsimp only at hfil
        subst hfil
        have hsu : srcUsed ⟨op, n, rg, sz, 0, 0, 0, 0⟩ = usesSrc ⟨op, n, rg, sz, 0, 0, 0, 0⟩ := by unfold srcUsed usesSrc second; (try dsimp only); grind
        rw [hsu] at f2 f4
        refine ⟨⟨f9, f1, f2, ?_, ?_, ?_, by (try dsimp only); omega, by (try dsimp only); omega, f7, f8⟩, ?_, ?_, rfl, .inl rfl⟩
        · intro h; (try dsimp only); have := f3 h; omega
        · intro h; (try dsimp only); have := f4 h; omega
        · intro h; rfl
        · unfold wide; (try dsimp only); simp; omega
        · apply Prod.ext
          · exact (opcode_kind _).symm.trans b4
          · rw [opcode_snd]
            dsimp only
            rw [if_neg (by omega), if_neg (by omega), if_neg hs, if_neg (by omega), if_neg (by omega), z]
      · obtain ⟨z, rfl, rfl⟩ := h
        dsimp only at hfil
        subst hfil
        refine ⟨⟨f9, f1, ?_, ?_, ?_, ?_, by (try dsimp only); omega, by (try dsimp only); omega, f7, f8⟩, rfl, ?_, rfl, .inl rfl⟩
        · intro h; refine f2 ?_; revert h; simp [usesSrc, srcUsed, second, memory]
        · intro h; cases h
        · intro h; have := f4 (by revert h; simp [usesSrc, srcUsed, second, memory]); (try dsimp only); omega
        · intro h; rfl
        · exact Prod.ext b4 (by rw [z]; rfl)
      · obtain ⟨z, rfl, rfl⟩ := h
        dsimp only at hfil
        subst hfil
        refine ⟨⟨f9, f1, ?_, ?_, ?_, ?_, by (try dsimp only); omega, by (try dsimp only); omega, f7, f8⟩, rfl, ?_, rfl, .inl rfl⟩
        · intro h; refine f2 ?_; revert h; simp [usesSrc, srcUsed, second, memory]
        · intro h; cases h
        · intro h; have := f4 (by revert h; simp [usesSrc, srcUsed, second, memory]); (try dsimp only); omega
        · intro h; rfl
        · exact Prod.ext b4 (by rw [z]; rfl)
      · obtain ⟨rfl, rfl, rfl⟩ := h
        dsimp only at hfil
        subst hfil
        refine ⟨⟨f9, f1, ?_, ?_, ?_, ?_, by (try dsimp only); omega, by (try dsimp only); omega, f7, ?_⟩, rfl, ?_, rfl, .inl rfl⟩
        · intro h; exact f2 rfl
        · intro h; cases h
        · intro h; cases h
        · intro h; rfl
        · intro h; cases h
        · exact Prod.ext b4 rfl

theorem wide_law {f : F} {u : List UInt8} {x : Ins} {k : Nat} (h : nextWide f u = .ok (x, k)) : 2 ≤ u.length / 8 ∧ k = 2 ∧ isReg f.dst true = true ∧ f.off = 0 ∧ (fields (u.drop 8)).op = 0 ∧ (fields (u.drop 8)).dst = 0 ∧ (fields (u.drop 8)).src = 0 ∧ (fields (u.drop 8)).off = 0 ∧
    ((f.src = 6 ∧ f.imm = 0 ∧ 0 ≤ (fields (u.drop 8)).imm ∧ x = ⟨21, false, false, 0, f.dst, 0, 0, (fields (u.drop 8)).imm⟩) ∨ (f.src = 0 ∧ x = ⟨20, false, false, 0, f.dst, 0, 0, (fields (u.drop 8)).imm * 4294967296 + f.imm % 4294967296⟩)) := by
  unfold nextWide at h
  split at h
  · cases h
  · rename_i g1
    dsimp only at h
    split at h
    · cases h
    · rename_i g2
      split at h
      · cases h
      · rename_i g3
        split at h
        · rename_i g4
          split at h
          · cases h
          · rename_i g5
            cases h
            refine ⟨by omega, rfl, by simpa using g2, by omega, by omega, by omega, by omega, by omega, .inl ⟨g4, by omega, by omega, rfl⟩⟩
        · rename_i g4
          cases h
          refine ⟨by omega, rfl, by simpa using g2, by omega, by omega, by omega, by omega, by omega, .inr ⟨by omega, rfl⟩⟩

/-- what is read is right, and is written as just these bytes -/
theorem next_law {u : List UInt8} {x : Ins} {k : Nat} (h : next u = .ok (x, k)) : right x = 0 ∧ InR x ∧ k = width x ∧ 8 * k ≤ u.length ∧ bytes x = u.take (8 * k) := by
  rw [next_eq] at h
  split at h
  · cases h
  · rename_i g1
    obtain ⟨a, b, o, m, r, hu, ho, hm, hr⟩ := unit_split u (by omega)
    have hf : fields u = ⟨a.toNat, b.toNat % 16, b.toNat / 16, sgn 32768 (val o), sgn 2147483648 (val m)⟩ := by rw [hu]; exact fields_mk a b o m r ho hm
    obtain ⟨so1, so2⟩ := sgn2_range ho
    obtain ⟨sm1, sm2⟩ := sgn4_range hm
    have lo := low_sgn2 ho
    have lm := low_sgn4 hm
    obtain ⟨P, hP⟩ : ∃ P, sgn 32768 (val o) = P := ⟨_, rfl⟩
    obtain ⟨G, hG⟩ : ∃ G, sgn 2147483648 (val m) = G := ⟨_, rfl⟩
    rw [hP] at so1 so2 lo
    rw [hG] at sm1 sm2 lm
    rw [hP, hG] at hf
    clear hP hG
    split at h
    · cases h
    · rename_i g2
      rw [hf] at h g2
      dsimp only at h g2
      have hok : (operation a.toNat).2 = true := by simpa using g2
      have ha := a.toNat_lt
      have hb := b.toNat_lt
      split at h
      · rename_i g3
        have hc := tabB_20 (by omega) hok g3
        obtain ⟨w1, rfl, w2, w3, w4, w5, w6, w7, w8⟩ := wide_law h
        obtain ⟨a', b', o', m', r', hu', ho', hm', hr'⟩ := unit_split (u.drop 8) (by rw [List.length_drop]; omega)
        have hf' : fields (u.drop 8) = ⟨a'.toNat, b'.toNat % 16, b'.toNat / 16, sgn 32768 (val o'), sgn 2147483648 (val m')⟩ := by rw [hu']; exact fields_mk a' b' o' m' r' ho' hm'
        obtain ⟨sn1, sn2⟩ := sgn4_range hm'
        have lo' := low_sgn2 ho'
        have lm' := low_sgn4 hm'
        obtain ⟨P', hP'⟩ : ∃ P, sgn 32768 (val o') = P := ⟨_, rfl⟩
        obtain ⟨G', hG'⟩ : ∃ G, sgn 2147483648 (val m') = G := ⟨_, rfl⟩
        rw [hP'] at lo'
        rw [hG'] at sn1 sn2 lm'
        rw [hP', hG'] at hf'
        clear hP' hG'
        rw [hf'] at w4 w5 w6 w7 w8
        dsimp only at w2 w3 w4 w5 w6 w7 w8
        have ha' := a'.toNat_lt
        have hb' := b'.toNat_lt
        have zo : o = [0, 0] := by rw [← lo, w3]; decide
        have zo' : o' = [0, 0] := by rw [← lo', w7]; decide
        have za' : a' = 0 := UInt8.toNat_inj.mp (by simpa using w4)
        have zb' : b' = 0 := UInt8.toNat_inj.mp (by simp; omega)
        have za : a = 24 := UInt8.toNat_inj.mp (by simpa using hc)
        have htk : u.take (8 * 2) = a :: b :: (o ++ m) ++ (a' :: b' :: (o' ++ m')) := by
          obtain ⟨x1, x2, rfl⟩ := two o ho
          obtain ⟨y1, y2, y3, y4, rfl⟩ := four m hm
          obtain ⟨x1', x2', rfl⟩ := two o' ho'
          obtain ⟨y1', y2', y3', y4', rfl⟩ := four m' hm'
          rw [hu, hr, hu']
          rfl
        rcases w8 with ⟨w8, w9, w10, rfl⟩ | ⟨w8, rfl⟩
        · refine ⟨right_iff.mpr ⟨rfl, fun _ => w2, fun h => (by cases h), fun h => (by cases h), fun _ => rfl, fun _ => rfl, by (try dsimp only); omega, by (try dsimp only); omega, fun h => (by cases h), fun _ => ?_⟩, ⟨by (try dsimp only); omega, by (try dsimp only); omega⟩, rfl, by omega, ?_⟩
          · have w11 : G' ≤ 2147483647 := by omega
            unfold immFits
            dsimp only
            rw [if_neg (by decide), if_neg (by omega), if_neg (by decide), if_neg (by decide), if_neg (by decide), if_pos rfl]
            exact decide_eq_true w10
          · rw [htk, za, za', zb', zo, zo']
            have em : m = low 4 0 := by rw [← lm, w9]
            have eb : byte (6 * 16 + ((b.toNat % 16 : Nat) : Int)) = b := UInt8.toNat_inj.mp (by
              rw [show (6 : Int) * 16 + ((b.toNat % 16 : Nat) : Int) = ((96 + b.toNat % 16 : Nat) : Int) by omega, byte_nat]; omega)
            show [byte 24, byte (6 * 16 + ((b.toNat % 16 : Nat) : Int))] ++ low 2 0 ++ low 4 0 ++ (low 4 0 ++ low 4 G') = _
            rw [eb, lm', em, show byte 24 = 24 by decide, show low 2 0 = [0, 0] by decide, show low 4 0 = [0, 0, 0, 0] by decide]
            simp
        · have eb : byte (0 * 16 + ((b.toNat % 16 : Nat) : Int)) = b := UInt8.toNat_inj.mp (by
            rw [show (0 : Int) * 16 + ((b.toNat % 16 : Nat) : Int) = ((b.toNat % 16 : Nat) : Int) by omega, byte_nat]; omega)
          have e1 : (G' * 4294967296 + G % 4294967296) / 4294967296 = G' := by omega
          have e2 : low 4 (G' * 4294967296 + G % 4294967296) = m := by
            apply val_inj _ _ (by rw [low_length, hm])
            have h1 := val_low4 (G' * 4294967296 + G % 4294967296)
            have h3 := val_low4 G
            rw [lm] at h3
            omega
          obtain ⟨V, hV⟩ : ∃ V, G' * 4294967296 + G % 4294967296 = V := ⟨_, rfl⟩
          have hVr : -9223372036854775808 ≤ V ∧ V < 9223372036854775808 := by omega
          rw [hV] at e1 e2 ⊢
          refine ⟨right_iff.mpr ⟨rfl, fun _ => w2, fun h => (by cases h), fun h => (by cases h), fun _ => rfl, fun _ => rfl, by (try dsimp only); omega, by (try dsimp only); omega, fun h => (by cases h), fun _ => rfl⟩, hVr, rfl, by omega, ?_⟩
          rw [htk, za, za', zb', zo, zo']
          show [byte 24, byte (0 * 16 + ((b.toNat % 16 : Nat) : Int))] ++ low 2 0 ++ low 4 V ++ (low 4 0 ++ low 4 (V / 4294967296)) = _
          rw [eb, e1, e2, lm', show byte 24 = 24 by decide, show low 2 0 = [0, 0] by decide, show low 4 0 = [0, 0, 0, 0] by decide]
          simp
      · rename_i g3
        obtain ⟨rfl, j, hfit⟩ := tail_inv h
        obtain ⟨t1, t2, t3, t4, t5⟩ := tail_law (tabB_at (by omega) hok g3) g3 hfit so1 so2
        dsimp only at t3 t4 t5
        refine ⟨right_iff.mpr t1, ⟨by omega, by omega⟩, by unfold width; rw [t2]; rfl, by omega, ?_⟩
        rw [bytes_narrow x a b o m ho hm t2 lo lm t3 t4, hu]
        obtain ⟨x1, x2, rfl⟩ := two o ho
        obtain ⟨y1, y2, y3, y4, rfl⟩ := four m hm
        rfl

end Go.Proofs.Ytfcbedkidjclhaa.Cd
