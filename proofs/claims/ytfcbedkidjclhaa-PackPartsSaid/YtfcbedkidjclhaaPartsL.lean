/-
  Plain laws: where everything stands in a container's bytes. No program in sight.
  No condition beyond those each statement names.
-/
import Derived.Test.YtfcbedkidjclhaaPackL
namespace Go.Proofs.Ytfcbedkidjclhaa.Pk
set_option linter.unusedSimpArgs false
set_option linter.unusedVariables false

theorem low2 (v : Int) : low 2 v = [byte v, byte (v / 256)] := rfl
theorem low3 (v : Int) : low 3 v = [byte v, byte (v / 256), byte (v / 256 / 256)] := rfl

/-- a section within bytes -/
structure At (L : List UInt8) (p k : Nat) (c : List UInt8) : Prop where
  le : p + 4 + c.length ≤ L.length
  kind : ∀ h : p < L.length, L[p].toNat = k
  size : ∀ h : p + 3 < L.length, L[p + 1].toNat + 256 * L[p + 2].toNat + 65536 * L[p + 3].toNat = c.length
  data : (L.drop (p + 4)).take c.length = c

theorem get_off (pre X : List UInt8) (j : Nat) (h : pre.length + j < (pre ++ X).length) : (pre ++ X)[pre.length + j] = X[j]'(by simp at h; omega) := by
  rw [List.getElem_append_right (by omega)]
  simp

theorem at_one (pre c post : List UInt8) (k : Nat) (hk : k < 256) (h0 : c ≠ []) (hn : c.length < 16777216) : At (pre ++ one k c ++ post) pre.length k c := by
  have e : pre ++ one k c ++ post = pre ++ ([byte k, byte c.length, byte ((c.length : Int) / 256), byte ((c.length : Int) / 256 / 256)] ++ (c ++ post)) := by
    rw [one_pos _ _ h0, low3]
    simp
  have b0 := byte_nat k
  have b1 := byte_toNat (c.length : Int)
  have b2 := byte_toNat ((c.length : Int) / 256)
  have b3 := byte_toNat ((c.length : Int) / 256 / 256)
  rw [e]
  refine ⟨by simp; omega, fun h => ?_, fun h => ?_, ?_⟩
  · rw [List.getElem_append_right (Nat.le_refl _)]
    simp only [Nat.sub_self, List.cons_append, List.getElem_cons_zero]
    omega
  · rw [get_off pre _ 1, get_off pre _ 2, get_off pre _ 3]
    simp only [List.cons_append, List.getElem_cons_succ, List.getElem_cons_zero]
    omega
  · rw [show pre.length + 4 = (pre ++ [byte (k : Int), byte (c.length : Int), byte ((c.length : Int) / 256), byte ((c.length : Int) / 256 / 256)]).length by simp, ← List.append_assoc]
    simp

/-- the places of the three sections: each is within the bytes or holds nothing -/
def place (ts : List (Int × Int)) (data code : List UInt8) (i : Nat) : Nat :=
  12 + (if 0 < i then (one 2 (tabBytes ts)).length else 0) + (if 1 < i then (one 3 data).length else 0) + (if 2 < i then (one 4 code).length else 0)
def sec (ts : List (Int × Int)) (data code : List UInt8) (i : Nat) : List UInt8 := if i = 0 then tabBytes ts else if i = 1 then data else code

theorem one_len (k : Nat) (c : List UInt8) : (one k c).length = if c.length = 0 then 0 else 4 + c.length := by
  unfold one
  split
  · rfl
  · simp [low_length]; omega

theorem place_next (ts : List (Int × Int)) (data code : List UInt8) (i : Nat) (hi : i < 3) : place ts data code (i + 1) = place ts data code i + (if (sec ts data code i).length = 0 then 0 else 4 + (sec ts data code i).length) := by
  have e2 : (one 2 (tabBytes ts)).length = if (tabBytes ts).length = 0 then 0 else 4 + (tabBytes ts).length := one_len 2 _
  have e3 : (one 3 data).length = if data.length = 0 then 0 else 4 + data.length := one_len 3 _
  have e4 : (one 4 code).length = if code.length = 0 then 0 else 4 + code.length := one_len 4 _
  rcases (by omega : i = 0 ∨ i = 1 ∨ i = 2) with rfl | rfl | rfl
  · simpa [place, sec] using e2
  · simpa [place, sec] using e3
  · simpa [place, sec] using e4

theorem head_len (lo hi : Int) : (magic ++ one 1 (lens lo hi)).length = 12 := by
  rw [one_pos _ _ (by simp [lens, low])]
  simp [magic, low_length, lens_length]

/-- each section stands at its place -/
theorem at_place (lo hi : Int) (data : List UInt8) (ts : List (Int × Int)) (code : List UInt8) (hl : (bytes lo hi data ts code).length ≤ 131072) (i : Nat) (hi3 : i < 3) (h0 : (sec ts data code i).length ≠ 0) :
    At (bytes lo hi data ts code) (place ts data code i) (2 + i) (sec ts data code i) := by
  have hlen : (sec ts data code i).length ≤ (bytes lo hi data ts code).length := by
    have e2 : (one 2 (tabBytes ts)).length = if (tabBytes ts).length = 0 then 0 else 4 + (tabBytes ts).length := one_len 2 _
    have e3 : (one 3 data).length = if data.length = 0 then 0 else 4 + data.length := one_len 3 _
    have e4 : (one 4 code).length = if code.length = 0 then 0 else 4 + code.length := one_len 4 _
    rcases (by omega : i = 0 ∨ i = 1 ∨ i = 2) with rfl | rfl | rfl
    · simp only [sec] at h0 ⊢
      simp only [bytes, body, List.length_append]
      simp only [if_true] at h0 ⊢
      rw [if_neg h0] at e2
      omega
    · simp only [sec] at h0 ⊢
      simp only [bytes, body, List.length_append]
      simp only [if_true, Nat.one_ne_zero, if_false] at h0 ⊢
      rw [if_neg h0] at e3
      omega
    · simp only [sec] at h0 ⊢
      simp only [bytes, body, List.length_append]
      simp at h0 ⊢
      have h0' : code.length ≠ 0 := by simpa using h0
      rw [if_neg h0'] at e4
      omega
  have hh := head_len lo hi
  rcases (by omega : i = 0 ∨ i = 1 ∨ i = 2) with rfl | rfl | rfl
  · have := at_one (magic ++ one 1 (lens lo hi)) (tabBytes ts) (one 3 data ++ one 4 code ++ low 4 (sum (body lo hi data ts code))) 2 (by omega) (by intro e; simp [sec, e] at h0) (by simp only [sec] at hlen; simp at hlen; omega)
    rw [hh] at this
    have e : bytes lo hi data ts code = magic ++ one 1 (lens lo hi) ++ one ((2 : Nat) : Int) (tabBytes ts) ++ (one 3 data ++ one 4 code ++ low 4 (sum (body lo hi data ts code))) := by simp [bytes, body]
    rw [e]
    simpa [place, sec] using this
  · have := at_one (magic ++ one 1 (lens lo hi) ++ one 2 (tabBytes ts)) data (one 4 code ++ low 4 (sum (body lo hi data ts code))) 3 (by omega) (by intro e; simp [sec, e] at h0) (by simp only [sec] at hlen; simp at hlen; omega)
    rw [List.length_append, hh] at this
    have e : bytes lo hi data ts code = magic ++ one 1 (lens lo hi) ++ one 2 (tabBytes ts) ++ one ((3 : Nat) : Int) data ++ (one 4 code ++ low 4 (sum (body lo hi data ts code))) := by simp [bytes, body]
    rw [e]
    simpa [place, sec] using this
  · have := at_one (magic ++ one 1 (lens lo hi) ++ one 2 (tabBytes ts) ++ one 3 data) code (low 4 (sum (body lo hi data ts code))) 4 (by omega) (by intro e; simp [sec, e] at h0) (by simp only [sec] at hlen; simp at hlen; omega)
    rw [List.length_append, List.length_append, hh] at this
    have e : bytes lo hi data ts code = magic ++ one 1 (lens lo hi) ++ one 2 (tabBytes ts) ++ one 3 data ++ one ((4 : Nat) : Int) code ++ low 4 (sum (body lo hi data ts code)) := by simp [bytes, body]
    rw [e]
    simpa [place, sec, Nat.add_assoc] using this

theorem place_end (lo hi : Int) (data : List UInt8) (ts : List (Int × Int)) (code : List UInt8) : (bytes lo hi data ts code).length = place ts data code 3 + 4 := by
  have hh := head_len lo hi
  simp only [bytes, body, List.length_append, low_length, place] at hh ⊢
  simp
  omega

/-- what stands ahead of the sections -/
theorem head_at (lo hi : Int) (data : List UInt8) (ts : List (Int × Int)) (code : List UInt8) (hs : sizes lo hi data.length ts = 0) :
    (bytes lo hi data ts code).take 8 = [87, 80, 75, 49, 1, 4, 0, 0] ∧ ∃ r, bytes lo hi data ts code = [87, 80, 75, 49, 1, 4, 0, 0, byte lo, byte (lo / 256), byte hi, byte (hi / 256)] ++ r ∧
      ((byte lo).toNat : Int) + 256 * (byte (lo / 256)).toNat = lo ∧ ((byte hi).toNat : Int) + 256 * (byte (hi / 256)).toNat = hi := by
  obtain ⟨h1, h2, h3, _⟩ := sizes_ok hs
  have e : bytes lo hi data ts code = [87, 80, 75, 49, 1, 4, 0, 0, byte lo, byte (lo / 256), byte hi, byte (hi / 256)] ++ (one 2 (tabBytes ts) ++ one 3 data ++ one 4 code ++ low 4 (sum (body lo hi data ts code))) := by
    have eo : one 1 (lens lo hi) = [1, 4, 0, 0, byte lo, byte (lo / 256), byte hi, byte (hi / 256)] := by
      rw [one_pos _ _ (by simp [lens, low]), lens_length]
      rfl
    simp only [bytes, body]
    rw [eo]
    simp [magic]
  have b1 := byte_toNat lo
  have b2 := byte_toNat (lo / 256)
  have b3 := byte_toNat hi
  have b4 := byte_toNat (hi / 256)
  exact ⟨by rw [e]; rfl, _, e, by omega, by omega⟩

end Go.Proofs.Ytfcbedkidjclhaa.Pk
