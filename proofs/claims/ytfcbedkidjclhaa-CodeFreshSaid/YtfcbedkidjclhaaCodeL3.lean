/-
  Plain laws of package code, lists: what Decode takes and refuses, and where; Encode's bytes are read back. No program in sight.
  No condition beyond those each statement names.
-/
import Derived.Test.YtfcbedkidjclhaaCodeL2
namespace Go.Proofs.Ytfcbedkidjclhaa.Cd
open Pk
set_option maxRecDepth 100000
set_option linter.unusedSimpArgs false
set_option linter.unusedVariables false

/-- the bytes of a list -/
def flat (l : List Ins) : List UInt8 := l.flatMap bytes
/-- how many units -/
def wid : List Ins → Nat
  | [] => 0
  | x :: l => width x + wid l
def AllRight (l : List Ins) : Prop := ∀ x ∈ l, right x = 0
def AllIn (l : List Ins) : Prop := ∀ x ∈ l, InR x

theorem width_pos (x : Ins) : 1 ≤ width x := by unfold width; split <;> omega
theorem flat_nil : flat [] = [] := rfl
theorem flat_cons (x : Ins) (l : List Ins) : flat (x :: l) = bytes x ++ flat l := rfl
theorem flat_append (a b : List Ins) : flat (a ++ b) = flat a ++ flat b := by unfold flat; simp
theorem flat_length (l : List Ins) : (flat l).length = 8 * wid l := by
  induction l with
  | nil => rfl
  | cons x l ih => rw [flat_cons, List.length_append, bytes_length, ih]; simp only [wid]; omega
theorem wid_append (a b : List Ins) : wid (a ++ b) = wid a + wid b := by
  induction a with
  | nil => simp [wid]
  | cons x l ih => simp only [List.cons_append, wid, ih]; omega
theorem wid_le (l : List Ins) : l.length ≤ wid l := by
  induction l with
  | nil => simp [wid]
  | cons x l ih => have := width_pos x; simp only [wid, List.length_cons]; omega

/-- what readFrom takes is taken in one step -/
theorem readFrom_step {b : List UInt8} {f : Nat} {l : List Ins} {p : Nat} {x : Ins} {k : Nat} (h : 8 * p < b.length) (hl : l.length ≠ 4096) (hn : next (b.drop (8 * p)) = .ok (x, k)) :
    readFrom b (f + 1) l p = readFrom b f (l ++ [x]) (p + k) := by
  rw [readFrom, if_pos h, if_neg hl, hn]
theorem readFrom_end {b : List UInt8} {f : Nat} {l : List Ins} {p : Nat} (h : b.length ≤ 8 * p) : readFrom b f l p = .ok l := by
  cases f with
  | zero => rfl
  | succ f => rw [readFrom, if_neg (by omega)]

/-- right instructions are taken, one after the other -/
theorem readFrom_flat : ∀ (t : List Ins) (b r : List UInt8) (f : Nat) (l : List Ins) (p : Nat), AllRight t → AllIn t → b.drop (8 * p) = flat t ++ r → l.length + t.length ≤ 4096 → t.length ≤ f →
    readFrom b f l p = readFrom b (f - t.length) (l ++ t) (p + wid t)
  | [], b, r, f, l, p, _, _, _, _, _ => by simp [wid]
  | x :: t, b, r, f, l, p, hr, hi, hb, hl, hf => by
    obtain ⟨g, rfl⟩ : ∃ g, f = g + 1 := ⟨f - 1, by simp only [List.length_cons] at hf; omega⟩
    simp only [List.length_cons] at hl hf
    have hw := width_pos x
    rw [flat_cons, List.append_assoc] at hb
    have hlen : 8 * p < b.length := by
      have := congrArg List.length hb
      rw [List.length_drop, List.length_append, bytes_length] at this
      omega
    rw [readFrom_step hlen (by omega) (by rw [hb]; exact next_bytes x _ (hr x (by simp)) (hi x (by simp)))]
    rw [readFrom_flat t b r g (l ++ [x]) (p + width x) (fun y hy => hr y (by simp [hy])) (fun y hy => hi y (by simp [hy])) ?_ (by simp; omega) (by omega)]
    · simp only [List.append_assoc, List.singleton_append, List.length_cons, wid]
      congr 1
      · omega
      · omega
    · have := congrArg (List.drop (8 * width x)) hb
      rw [List.drop_drop, List.drop_left' (bytes_length x)] at this
      rw [show 8 * (p + width x) = 8 * p + 8 * width x by omega, this]

/-- what readFrom takes is right, and is written as these bytes -/
theorem readFrom_ok : ∀ (f : Nat) (b : List UInt8) (l : List Ins) (p : Nat) (m : List Ins), readFrom b f l p = .ok m → b.length ≤ 8 * p + f → 8 * p ≤ b.length → l.length ≤ 4096 →
    ∃ t, m = l ++ t ∧ AllRight t ∧ AllIn t ∧ flat t = b.drop (8 * p) ∧ m.length ≤ 4096
  | 0, b, l, p, m, h, hf, hp, hl => by
    rw [readFrom] at h
    cases h
    exact ⟨[], by simp, fun x hx => (by cases hx), fun x hx => (by cases hx), by rw [flat_nil, List.drop_of_length_le (by omega)], hl⟩
  | f + 1, b, l, p, m, h, hf, hp, hl => by
    rw [readFrom] at h
    by_cases h1 : 8 * p < b.length
    · rw [if_pos h1] at h
      by_cases h2 : l.length = 4096
      · rw [if_pos h2] at h; cases h
      · rw [if_neg h2] at h
        cases h3 : next (b.drop (8 * p)) with
        | error e => rw [h3] at h; cases h
        | ok xk =>
          obtain ⟨x, k⟩ := xk
          rw [h3] at h
          dsimp only at h
          obtain ⟨r1, r2, r3, r4, r5⟩ := next_law h3
          rw [List.length_drop] at r4
          have hw := width_pos x
          obtain ⟨t, t1, t2, t3, t4, t5⟩ := readFrom_ok f b (l ++ [x]) (p + k) m h (by omega) (by omega) (by simp; omega)
          refine ⟨x :: t, by rw [t1]; simp, ?_, ?_, ?_, t5⟩
          · intro y hy
            rcases List.mem_cons.mp hy with rfl | hy
            · exact r1
            · exact t2 y hy
          · intro y hy
            rcases List.mem_cons.mp hy with rfl | hy
            · exact r2
            · exact t3 y hy
          · rw [flat_cons, r5, t4, show 8 * (p + k) = 8 * p + 8 * k by omega, ← List.drop_drop, List.take_append_drop]
    · rw [if_neg h1] at h
      cases h
      exact ⟨[], by simp, fun x hx => (by cases hx), fun x hx => (by cases hx), by rw [flat_nil, List.drop_of_length_le (by omega)], hl⟩

/-- where readFrom stops: ahead of it all is right -/
theorem readFrom_error : ∀ (f : Nat) (b : List UInt8) (l : List Ins) (p q : Nat) (e : Int), readFrom b f l p = .error (q, e) → 8 * p ≤ b.length → l.length ≤ 4096 →
    ∃ t, AllRight t ∧ AllIn t ∧ b.drop (8 * p) = flat t ++ b.drop (8 * q) ∧ q = p + wid t ∧ 8 * q < b.length ∧
      ((e = 25 ∧ l.length + t.length = 4096) ∨ (l.length + t.length < 4096 ∧ next (b.drop (8 * q)) = .error e))
  | 0, b, l, p, q, e, h, hp, hl => by rw [readFrom] at h; cases h
  | f + 1, b, l, p, q, e, h, hp, hl => by
    rw [readFrom] at h
    by_cases h1 : 8 * p < b.length
    · rw [if_pos h1] at h
      by_cases h2 : l.length = 4096
      · rw [if_pos h2] at h
        cases h
        exact ⟨[], fun x hx => (by cases hx), fun x hx => (by cases hx), by simp [flat_nil], by simp [wid], h1, .inl ⟨rfl, by simpa using h2⟩⟩
      · rw [if_neg h2] at h
        cases h3 : next (b.drop (8 * p)) with
        | error e' =>
          rw [h3] at h
          cases h
          exact ⟨[], fun x hx => (by cases hx), fun x hx => (by cases hx), by simp [flat_nil], by simp [wid], h1, .inr ⟨by simp; omega, h3⟩⟩
        | ok xk =>
          obtain ⟨x, k⟩ := xk
          rw [h3] at h
          dsimp only at h
          obtain ⟨r1, r2, r3, r4, r5⟩ := next_law h3
          rw [List.length_drop] at r4
          have hw := width_pos x
          obtain ⟨t, t1, t2, t3, t4, t5, t6⟩ := readFrom_error f b (l ++ [x]) (p + k) q e h (by omega) (by simp; omega)
          refine ⟨x :: t, ?_, ?_, ?_, ?_, t5, ?_⟩
          · intro y hy
            rcases List.mem_cons.mp hy with rfl | hy
            · exact r1
            · exact t1 y hy
          · intro y hy
            rcases List.mem_cons.mp hy with rfl | hy
            · exact r2
            · exact t2 y hy
          · rw [flat_cons, r5, List.append_assoc, ← t3, show 8 * (p + k) = 8 * p + 8 * k by omega, ← List.drop_drop, List.take_append_drop]
          · simp only [wid]; omega
          · simp only [List.length_append, List.length_cons, List.length_nil] at t6 ⊢
            rcases t6 with ⟨a1, a2⟩ | ⟨a1, a2⟩
            · exact .inl ⟨a1, by omega⟩
            · exact .inr ⟨by omega, a2⟩
    · rw [if_neg h1] at h
      cases h

/-- Decode of right bytes -/
theorem decode_flat {l : List Ins} (hr : AllRight l) (hi : AllIn l) (hl : l.length ≤ 4096) : decode (flat l) = (l, 0, 0) := by
  unfold decode
  rw [readFrom_flat l (flat l) [] _ [] 0 hr hi (by simp) (by simpa using hl) (by rw [flat_length]; have := wid_le l; omega), readFrom_end (by rw [flat_length]; omega)]
  simp
/-- what Decode takes -/
theorem decode_ok {b : List UInt8} {l : List Ins} {p : Nat} (h : decode b = (l, p, 0)) : p = 0 ∧ AllRight l ∧ AllIn l ∧ flat l = b ∧ l.length ≤ 4096 := by
  unfold decode at h
  cases h1 : readFrom b b.length [] 0 with
  | error pe =>
    obtain ⟨q, e⟩ := pe
    rw [h1] at h
    injection h with h2 h3
    injection h3 with h4 h5
    obtain ⟨t, t1, t2, t3, t4, t5, t6⟩ := readFrom_error _ _ _ _ _ _ h1 (by omega) (by simp)
    rcases t6 with ⟨rfl, _⟩ | ⟨_, t6⟩
    · omega
    · have := next_error t6; omega
  | ok m =>
    rw [h1] at h
    injection h with h2 h3
    injection h3 with h4 h5
    subst h2
    obtain ⟨t, t1, t2, t3, t4, t5⟩ := readFrom_ok _ _ _ _ _ h1 (by omega) (by omega) (by simp)
    simp only [List.nil_append] at t1
    subst t1
    exact ⟨h4.symm, t2, t3, by simpa using t4, t5⟩
/-- what Decode refuses -/
theorem decode_bad {b : List UInt8} {l : List Ins} {p : Nat} {e : Int} (h : decode b = (l, p, e)) (he : e ≠ 0) : l = [] ∧ 8 * p < b.length ∧ 20 ≤ e ∧ e ≤ 25 ∧
    ∃ t, AllRight t ∧ AllIn t ∧ b = flat t ++ b.drop (8 * p) ∧ p = wid t ∧ ((e = 25 ∧ t.length = 4096) ∨ (t.length < 4096 ∧ next (b.drop (8 * p)) = .error e)) := by
  unfold decode at h
  cases h1 : readFrom b b.length [] 0 with
  | error pe =>
    obtain ⟨q, e'⟩ := pe
    rw [h1] at h
    injection h with h2 h3
    injection h3 with h4 h5
    subst h4 h5
    obtain ⟨t, t1, t2, t3, t4, t5, t6⟩ := readFrom_error _ _ _ _ _ _ h1 (by omega) (by simp)
    have t6' : (e' = 25 ∧ t.length = 4096) ∨ (t.length < 4096 ∧ next (b.drop (8 * q)) = .error e') := by simpa using t6
    refine ⟨h2.symm, t5, ?_, ?_, t, t1, t2, by simpa using t3, by simpa using t4, t6'⟩
    · rcases t6' with ⟨rfl, _⟩ | ⟨_, t6⟩
      · omega
      · have := next_error t6; omega
    · rcases t6' with ⟨rfl, _⟩ | ⟨_, t6⟩
      · omega
      · have := next_error t6; omega
  | ok m =>
    rw [h1] at h
    injection h with h2 h3
    injection h3 with h4 h5
    exact absurd h5.symm he

/-- Decode behind right bytes -/
theorem decode_behind {t : List Ins} {b : List UInt8} {r : List UInt8} (hb : b = flat t ++ r) (hr : AllRight t) (hi : AllIn t) (hl : t.length ≤ 4096) :
    readFrom b b.length [] 0 = readFrom b (b.length - t.length) t (wid t) := by
  have h1 := wid_le t
  have h2 := flat_length t
  rw [readFrom_flat t b r b.length [] 0 hr hi (by simpa using hb) (by simpa using hl) (by rw [hb, List.length_append, h2]; omega)]
  simp

/-- Check: all right -/
theorem checkFrom_ok : ∀ (l : List Ins) (k : Nat), k ≤ 4096 → ((checkFrom k l).2 = 0 ↔ (AllRight l ∧ k + l.length ≤ 4096))
  | [], k, hk => by simp [checkFrom, AllRight, hk]
  | x :: l, k, hk => by
    rw [checkFrom]
    by_cases h1 : k = 4096
    · rw [if_pos h1]
      simp only [List.length_cons]
      constructor
      · intro h; cases h
      · rintro ⟨_, h⟩; omega
    · rw [if_neg h1]
      by_cases h2 : right x = 0
      · rw [if_neg (by simpa using h2), checkFrom_ok l (k + 1) (by omega)]
        simp only [List.length_cons, AllRight, List.mem_cons, forall_eq_or_imp]
        constructor
        · rintro ⟨a, b⟩; exact ⟨⟨h2, a⟩, by omega⟩
        · rintro ⟨⟨_, a⟩, b⟩; exact ⟨a, by omega⟩
      · rw [if_pos h2]
        constructor
        · intro h; exact absurd h h2
        · rintro ⟨a, _⟩; exact absurd (a x (by simp)) h2
theorem checkFrom_place : ∀ (l : List Ins) (k : Nat), (checkFrom k l).2 = 0 → (checkFrom k l).1 = 0
  | [], k, _ => rfl
  | x :: l, k, h => by
    rw [checkFrom] at h ⊢
    by_cases h1 : k = 4096
    · rw [if_pos h1] at h; cases h
    · rw [if_neg h1] at h ⊢
      by_cases h2 : right x = 0
      · rw [if_neg (by simpa using h2)] at h ⊢; exact checkFrom_place l (k + 1) h
      · rw [if_pos h2] at h; exact absurd h h2
/-- the first that is wrong -/
theorem checkFrom_bad : ∀ (l : List Ins) (k i : Nat) (e : Int), checkFrom k l = (i, e) → e ≠ 0 → k ≤ i ∧ i - k < l.length ∧ AllRight (l.take (i - k)) ∧
    ((i = 4096 ∧ e = 25) ∨ (i ≠ 4096 ∧ ∃ x, l[i - k]? = some x ∧ right x = e)) ∧ (k ≤ 4096 → i ≤ 4096)
  | [], k, i, e, h, he => by rw [checkFrom] at h; cases h; exact absurd rfl he
  | x :: l, k, i, e, h, he => by
    rw [checkFrom] at h
    by_cases h1 : k = 4096
    · rw [if_pos h1] at h
      cases h
      exact ⟨Nat.le_refl _, by simp, by simp [AllRight], .inl ⟨h1, rfl⟩, fun h => h⟩
    · rw [if_neg h1] at h
      by_cases h2 : right x = 0
      · rw [if_neg (by simpa using h2)] at h
        obtain ⟨a1, a2, a3, a4, a5⟩ := checkFrom_bad l (k + 1) i e h he
        have e1 : i - k = (i - (k + 1)) + 1 := by clear a4; omega
        have e2 : k ≤ i := by clear a4; omega
        have e3 : i - k < (x :: l).length := by clear a4; simp only [List.length_cons]; omega
        have e4 : k + 1 ≤ 4096 → i ≤ 4096 := a5
        refine ⟨e2, e3, ?_, ?_, fun hk => a5 (by clear a4; omega)⟩
        · rw [e1, List.take_succ_cons]
          intro y hy
          rcases List.mem_cons.mp hy with rfl | hy
          · exact h2
          · exact a3 y hy
        · rw [e1]
          simpa using a4
      · rw [if_pos h2] at h
        cases h
        refine ⟨Nat.le_refl _, by simp, by simp [AllRight], .inr ⟨h1, x, by simp, rfl⟩, fun h => h⟩
theorem check_ok {l : List Ins} : (check l).2 = 0 ↔ (AllRight l ∧ l.length ≤ 4096) := by
  unfold check
  rw [checkFrom_ok l 0 (by omega)]
  simp
theorem check_zero {l : List Ins} (h1 : AllRight l) (h2 : l.length ≤ 4096) : check l = (0, 0) := Prod.ext (checkFrom_place l 0 (check_ok.mpr ⟨h1, h2⟩)) (check_ok.mpr ⟨h1, h2⟩)
theorem check_bad {l : List Ins} {i : Nat} {e : Int} (h : check l = (i, e)) (he : e ≠ 0) : i < l.length ∧ AllRight (l.take i) ∧ ((i = 4096 ∧ e = 25) ∨ (i < 4096 ∧ ∃ x, l[i]? = some x ∧ right x = e)) := by
  obtain ⟨a1, a2, a3, a4, a5⟩ := checkFrom_bad l 0 i e h he
  have a6 := a5 (by omega)
  rw [Nat.sub_zero] at *
  refine ⟨a2, a3, ?_⟩
  rcases a4 with h | ⟨h1, h2⟩
  · exact .inl h
  · exact .inr ⟨by omega, h2⟩
theorem encode_ok {l : List Ins} (h1 : AllRight l) (h2 : l.length ≤ 4096) : encode l = (flat l, 0, 0) := by
  unfold encode
  rw [check_zero h1 h2, if_neg (by decide)]
  rfl
theorem encode_bad {l : List Ins} {i : Nat} {e : Int} (h : check l = (i, e)) (he : e ≠ 0) : encode l = ([], i, e) := by
  unfold encode
  rw [h, if_pos he]
theorem flat_inj {l m : List Ins} (h1 : AllRight l) (h2 : AllRight m) (i1 : AllIn l) (i2 : AllIn m) (n1 : l.length ≤ 4096) (n2 : m.length ≤ 4096) (h : flat l = flat m) : l = m := by
  have a := decode_flat h1 i1 n1
  have b := decode_flat h2 i2 n2
  rw [h, b] at a
  injection a with a1 a2
  exact a1.symm
/-- Units: the last is the width of all -/
theorem unitsFrom_length : ∀ (l : List Ins) (n : Nat), (unitsFrom n l).length = l.length + 1
  | [], n => rfl
  | x :: l, n => by rw [unitsFrom, List.length_cons, unitsFrom_length l]; rfl
theorem unitsFrom_last : ∀ (l : List Ins) (n : Nat), (unitsFrom n l)[l.length]? = some (n + wid l)
  | [], n => rfl
  | x :: l, n => by
    rw [unitsFrom, List.length_cons, List.getElem?_cons_succ, unitsFrom_last l]
    simp only [wid, Nat.add_assoc]
theorem units_length (l : List Ins) : (units l).length = l.length + 1 := unitsFrom_length l 0
theorem units_last (l : List Ins) : (units l)[l.length]? = some (wid l) := by
  have := unitsFrom_last l 0
  rwa [Nat.zero_add] at this

end Go.Proofs.Ytfcbedkidjclhaa.Cd
