/-
  The document's container in plain Lean: its sum bit by bit, its fault of a section; and that these are the pack's. No program in sight.
  No condition: definitions on lists and numbers.
-/
import Derived.Test.YtfcbedkidjclhaaDecM
namespace Go.Proofs.Ytfcbedkidjclhaa.Pk
set_option linter.unusedSimpArgs false
set_option linter.unusedVariables false

/-! ### the sum, bit by bit -/
theorem bit_next (l b k : Nat) : (l ^^^ b) % 2 ^ (k + 1) = (l ^^^ b) % 2 ^ k + (if l.testBit k = b.testBit k then 0 else 2 ^ k) := by
  have h1 := Nat.testBit_xor l b k
  rw [Nat.mod_pow_succ, ← Nat.toNat_testBit, h1]
  cases l.testBit k <;> cases b.testBit k <;> simp
theorem xor_split (s b : Nat) (hb : b < 256) : s ^^^ b = s - s % 256 + ((s % 256) ^^^ b) % 2 ^ 8 := by
  have h1 : (s ^^^ b) / 2 ^ 8 = s / 2 ^ 8 := by
    rw [Nat.xor_div_two_pow, Nat.div_eq_of_lt (show b < 2 ^ 8 by omega), Nat.xor_zero]
  have h2 : (s ^^^ b) % 2 ^ 8 = ((s % 256) ^^^ b) % 2 ^ 8 := by
    rw [Nat.xor_mod_two_pow, Nat.xor_mod_two_pow, show s % 256 = s % 2 ^ 8 from rfl, Nat.mod_mod]
  have h3 := Nat.div_add_mod (s ^^^ b) (2 ^ 8)
  rw [h1, h2] at h3
  have h4 := Nat.div_add_mod s (2 ^ 8)
  rw [← h3]
  have : s % 256 = s % 2 ^ 8 := rfl
  omega
theorem step_bits (s : Nat) (b : UInt8) : step s b = ((s - s % 256 + ((s % 256) ^^^ b.toNat) % 2 ^ 8) * 16777619) % 4294967296 := by
  unfold step
  rw [← xor_split s b.toNat b.toNat_lt]

/-! ### tables, byte by byte -/
def pairs : List UInt8 → List (Int × Int)
  | a :: b :: l => (((a.toNat : Int), (b.toNat : Int)) :: pairs l)
  | _ => []

theorem tabs_pairs : ∀ (c : List UInt8) (s : Nat), c.length % 2 = 0 → tabs s c = (match c.findIdx? badB with | some i => .error (s + i, 122) | none => .ok (pairs c))
  | [], s, _ => rfl
  | [x], s, h => by simp at h
  | a :: b :: l, s, h => by
    have ih := tabs_pairs l (s + 2) (by simp at h; omega)
    rw [tabs, ih]
    cases ha : badB a with
    | true => simp [List.findIdx?_cons, ha]
    | false =>
      cases hb : badB b with
      | true => simp [List.findIdx?_cons, ha, hb]
      | false =>
        simp only [List.findIdx?_cons, ha, hb, Bool.false_eq_true, if_false]
        cases l.findIdx? badB with
        | none => simp [pairs]
        | some i => simp; omega

/-! ### a section -/
/-- the first fault of a section: where, the error, where it ends -/
def fault (bs : List UInt8) (pos kind : Nat) : Nat × Int × Nat :=
  let k := (bs.getD pos 0).toNat
  let size := val ((bs.drop (pos + 1)).take 3)
  let c := (bs.drop (pos + 4)).take size
  if k < 1 ∨ 4 < k ∨ k ≤ kind ∨ (kind = 0 ∧ k ≠ 1) then (pos, 120, bs.length)
  else if bs.length < pos + 4 then (bs.length, 120, bs.length)
  else if size = 0 ∨ (k = 1 ∧ size ≠ 4) ∨ (k = 2 ∧ size % 2 = 1) then (pos + 1, 120, bs.length)
  else if k = 2 ∧ 16 < size then (pos + 1, 122, bs.length)
  else if k = 3 ∧ 4096 < size then (pos + 1, 123, bs.length)
  else if bs.length < pos + 4 + size then (bs.length, 120, bs.length)
  else if k = 1 ∧ val (c.drop 2) < val (c.take 2) then (pos + 4, 121, bs.length)
  else if k = 2 then (match c.findIdx? badB with | some i => (pos + 4 + i, 122, bs.length) | none => (0, 0, pos + 4 + size))
  else (0, 0, pos + 4 + size)

/-- what a section adds to a container -/
def grow (k : Nat) (c : List UInt8) (p : C) : C :=
  if k = 1 then { p with lo := val (c.take 2), hi := val (c.drop 2) }
  else if k = 2 then { p with ts := p.ts ++ pairs c }
  else if k = 3 then { p with data := p.data ++ c }
  else { p with code := p.code ++ c }

theorem fault_bad {bs : List UInt8} {pos kind q to : Nat} {e : Int} {p : C} (h : fault bs pos kind = (q, e, to)) (he : e ≠ 0) : sect bs ⟨pos, kind, p⟩ = .error (q, e) := by
  unfold fault at h
  unfold sect
  simp only at h ⊢
  split at h
  · rw [if_pos (by assumption)]; cases h; rfl
  rename_i c1
  rw [if_neg c1]
  split at h
  · rw [if_pos (by assumption)]; cases h; rfl
  rename_i c2
  rw [if_neg c2]
  split at h
  · rw [if_pos (by assumption)]; cases h; rfl
  rename_i c3
  rw [if_neg c3]
  split at h
  · rw [if_pos (by assumption)]; cases h; rfl
  rename_i c4
  rw [if_neg c4]
  split at h
  · rw [if_pos (by assumption)]; cases h; rfl
  rename_i c5
  rw [if_neg c5]
  split at h
  · rw [if_pos (by assumption)]; cases h; rfl
  rename_i c6
  rw [if_neg c6]
  unfold cont
  split at h
  · rename_i c7
    rw [if_pos c7.1, if_pos c7.2]; cases h; rfl
  rename_i c7
  split at h
  · rename_i c8
    rw [if_neg (by omega), if_pos c8, tabs_pairs _ _ (by rw [List.length_take, List.length_drop]; omega)]
    split at h
    · cases h; rfl
    · cases h; exact absurd rfl he
  · cases h; exact absurd rfl he

theorem fault_ok {bs : List UInt8} {pos kind q to : Nat} {p : C} (h : fault bs pos kind = (q, 0, to)) (h3 : kind < 3 → p.data = []) (h4 : kind < 4 → p.code = []) :
    q = 0 ∧ pos + 4 < to ∧ to ≤ bs.length ∧ kind < (bs.getD pos 0).toNat ∧ (bs.getD pos 0).toNat ≤ 4 ∧ ((bs.getD pos 0).toNat = 1 → to = pos + 8) ∧ ((bs.getD pos 0).toNat = 2 → (to - (pos + 4)) % 2 = 0 ∧ to ≤ pos + 20) ∧ ((bs.getD pos 0).toNat = 3 → to ≤ pos + 4100) ∧
      sect bs ⟨pos, kind, p⟩ = .ok ⟨to, (bs.getD pos 0).toNat, grow (bs.getD pos 0).toNat ((bs.drop (pos + 4)).take (to - (pos + 4))) p⟩ := by
  unfold fault at h
  unfold sect
  simp only at h ⊢
  generalize (bs.getD pos 0).toNat = k at *
  generalize val ((bs.drop (pos + 1)).take 3) = size at *
  split at h
  · cases h
  rename_i c1
  split at h
  · cases h
  rename_i c2
  split at h
  · cases h
  rename_i c3
  split at h
  · cases h
  rename_i c4
  split at h
  · cases h
  rename_i c5
  split at h
  · cases h
  rename_i c6
  rw [if_neg c1, if_neg c2, if_neg c3, if_neg c4, if_neg c5, if_neg c6]
  have key : q = 0 ∧ to = pos + 4 + size ∧ cont k ((bs.drop (pos + 4)).take size) (pos + 4) p = .ok (grow k ((bs.drop (pos + 4)).take size) p) := by
    split at h
    · cases h
    rename_i c7
    split at h
    · rename_i c8
      split at h
      · cases h
      · rename_i hn
        cases h
        refine ⟨rfl, rfl, ?_⟩
        unfold cont grow
        rw [if_neg (by omega), if_pos c8, if_neg (by omega), if_pos c8, tabs_pairs _ _ (by rw [List.length_take, List.length_drop]; omega), hn]
    · rename_i c8
      cases h
      refine ⟨rfl, rfl, ?_⟩
      unfold cont grow
      by_cases k1 : k = 1
      · rw [if_pos k1, if_pos k1, if_neg (by omega)]
      · rw [if_neg k1, if_neg k1, if_neg c8, if_neg c8]
        by_cases k3 : k = 3
        · rw [if_pos k3, if_pos k3, h3 (by omega)]; rfl
        · rw [if_neg k3, if_neg k3, h4 (by omega)]; rfl
  obtain ⟨hq, ht, hc⟩ := key
  have e1 : to - (pos + 4) = size := by omega
  rw [e1, hc, ht]
  exact ⟨hq, by omega, by omega, by omega, by omega, by omega, by omega, by omega, rfl⟩

end Go.Proofs.Ytfcbedkidjclhaa.Pk
