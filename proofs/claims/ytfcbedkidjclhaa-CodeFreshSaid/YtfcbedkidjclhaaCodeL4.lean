/-
  Plain laws of package code, the statements' own: two texts joined, the fault's place, one byte turned. No program in sight.
  No condition beyond those each statement names.
-/
import Derived.Test.YtfcbedkidjclhaaCodeL3
namespace Go.Proofs.Ytfcbedkidjclhaa.Cd
open Pk
set_option maxRecDepth 100000
set_option linter.unusedSimpArgs false
set_option linter.unusedVariables false

theorem AllRight.cons {x : Ins} {l : List Ins} (h : AllRight (x :: l)) : right x = 0 ∧ AllRight l := ⟨h x (by simp), fun y hy => h y (by simp [hy])⟩
theorem AllIn.cons {x : Ins} {l : List Ins} (h : AllIn (x :: l)) : InR x ∧ AllIn l := ⟨h x (by simp), fun y hy => h y (by simp [hy])⟩
theorem AllRight.append {a b : List Ins} (ha : AllRight a) (hb : AllRight b) : AllRight (a ++ b) := by
  intro x hx
  rcases List.mem_append.mp hx with h | h
  · exact ha x h
  · exact hb x h
theorem AllIn.append {a b : List Ins} (ha : AllIn a) (hb : AllIn b) : AllIn (a ++ b) := by
  intro x hx
  rcases List.mem_append.mp hx with h | h
  · exact ha x h
  · exact hb x h
theorem AllRight.left {a b : List Ins} (h : AllRight (a ++ b)) : AllRight a := fun x hx => h x (by simp [hx])
theorem AllRight.right_ {a b : List Ins} (h : AllRight (a ++ b)) : AllRight b := fun x hx => h x (by simp [hx])
theorem AllIn.left {a b : List Ins} (h : AllIn (a ++ b)) : AllIn a := fun x hx => h x (by simp [hx])
theorem AllIn.right_ {a b : List Ins} (h : AllIn (a ++ b)) : AllIn b := fun x hx => h x (by simp [hx])

/-- one of two readings of the same bytes goes on where the other ends -/
theorem prefix_law : ∀ (t s : List Ins) (r r' : List UInt8), AllRight t → AllIn t → AllRight s → AllIn s → flat t ++ r = flat s ++ r' → wid t ≤ wid s → ∃ z, s = t ++ z ∧ r = flat z ++ r'
  | [], s, r, r', _, _, _, _, h, _ => ⟨s, rfl, by simpa [flat_nil] using h⟩
  | x :: t, [], r, r', _, _, _, _, _, hw => by
    have := width_pos x
    simp only [wid] at hw
    omega
  | x :: t, y :: s, r, r', h1, h2, h3, h4, h, hw => by
    rw [flat_cons, flat_cons, List.append_assoc, List.append_assoc] at h
    have a := next_bytes x (flat t ++ r) h1.cons.1 h2.cons.1
    have b := next_bytes y (flat s ++ r') h3.cons.1 h4.cons.1
    rw [h, b] at a
    injection a with a
    injection a with a1 a2
    subst a1
    have hc := List.append_cancel_left h
    obtain ⟨z, z1, z2⟩ := prefix_law t s r r' h1.cons.2 h2.cons.2 h3.cons.2 h4.cons.2 hc (by simp only [wid] at hw; omega)
    exact ⟨z, by rw [z1]; rfl, z2⟩

theorem decode_fail {b r : List UInt8} {t : List Ins} {e : Int} (hb : b = flat t ++ r) (hr : AllRight t) (hi : AllIn t) (hl : t.length < 4096) (hn : next r = .error e) (h0 : r ≠ []) : decode b = ([], wid t, e) := by
  have h1 := wid_le t
  have h2 := flat_length t
  have h3 : 0 < r.length := List.length_pos_iff.mpr h0
  have h4 : b.length = 8 * wid t + r.length := by rw [hb, List.length_append, h2]
  have hd : b.drop (8 * wid t) = r := by rw [hb]; exact List.drop_left' h2
  unfold decode
  rw [decode_behind hb hr hi (by omega)]
  obtain ⟨g, hg⟩ : ∃ g, b.length - t.length = g + 1 := ⟨b.length - t.length - 1, by omega⟩
  rw [hg, readFrom, if_pos (by omega), if_neg (by omega), hd, hn]
theorem decode_many {b r : List UInt8} {t : List Ins} (hb : b = flat t ++ r) (hr : AllRight t) (hi : AllIn t) (hl : t.length = 4096) (h0 : r ≠ []) : decode b = ([], wid t, 25) := by
  have h1 := wid_le t
  have h2 := flat_length t
  have h3 : 0 < r.length := List.length_pos_iff.mpr h0
  have h4 : b.length = 8 * wid t + r.length := by rw [hb, List.length_append, h2]
  unfold decode
  rw [decode_behind hb hr hi (by omega)]
  obtain ⟨g, hg⟩ : ∃ g, b.length - t.length = g + 1 := ⟨b.length - t.length - 1, by omega⟩
  rw [hg, readFrom, if_pos (by omega), if_pos hl]
/-- more than may be -/
theorem decode_over {b r : List UInt8} {t : List Ins} (hb : b = flat t ++ r) (hr : AllRight t) (hi : AllIn t) (h0 : 4096 < t.length ∨ (t.length = 4096 ∧ r ≠ []) ∨ (4096 ≤ t.length ∧ r ≠ [])) : ∃ p, decode b = ([], p, 25) ∧ 32768 < b.length := by
  have e1 : flat t = flat (t.take 4096) ++ flat (t.drop 4096) := by rw [← flat_append, List.take_append_drop]
  have h1 := wid_le t
  have h2 := flat_length t
  have hd := flat_length (t.drop 4096)
  have hdl := wid_le (t.drop 4096)
  rw [List.length_drop] at hdl
  have hne : flat (t.drop 4096) ++ r ≠ [] := by
    intro h
    have h3 := congrArg List.length h
    rw [List.length_append, List.length_nil, hd] at h3
    have h5 : r = [] := List.eq_nil_of_length_eq_zero (by omega)
    rcases h0 with h | h | h
    · omega
    · exact h.2 h5
    · exact h.2 h5
  have hr3 := hr
  rw [← List.take_append_drop 4096 t] at hr3
  have hi3 := hi
  rw [← List.take_append_drop 4096 t] at hi3
  refine ⟨_, decode_many (by rw [hb, e1, List.append_assoc]) hr3.left hi3.left (by rw [List.length_take]; omega) hne, ?_⟩
  have h4 : b.length = 8 * wid t + r.length := by rw [hb, List.length_append, h2]
  rcases h0 with h | h | h
  · omega
  · have := List.length_pos_iff.mpr h.2; omega
  · have := List.length_pos_iff.mpr h.2; omega

/-- P2.9: two texts -/
theorem joins_law {a b : List UInt8} {l m : List Ins} {p u : Nat} {f : Int} (ha : decode a = (l, p, 0)) (hb : decode b = (m, u, f)) :
    a.length = 8 * wid l ∧ ((∃ q, decode (a ++ b) = ([], q, 25) ∧ 32768 < a.length + b.length) ∨ (f ≠ 0 ∧ f ≠ 25 ∧ decode (a ++ b) = ([], u + wid l, f)) ∨ (f = 0 ∧ decode (a ++ b) = (l ++ m, 0, 0))) := by
  obtain ⟨rfl, a1, a2, rfl, a3⟩ := decode_ok ha
  refine ⟨flat_length l, ?_⟩
  by_cases h0 : f = 0
  · subst h0
    obtain ⟨rfl, b1, b2, rfl, b3⟩ := decode_ok hb
    by_cases h1 : l.length + m.length ≤ 4096
    · exact .inr (.inr ⟨rfl, by rw [← flat_append]; exact decode_flat (a1.append b1) (a2.append b2) (by rw [List.length_append]; exact h1)⟩)
    · obtain ⟨q, q1, q2⟩ := decode_over (b := flat l ++ flat m) (r := []) (t := l ++ m) (by rw [flat_append]; simp) (a1.append b1) (a2.append b2) (.inl (by rw [List.length_append]; omega))
      exact .inl ⟨q, q1, by rwa [List.length_append] at q2⟩
  · obtain ⟨rfl, b1, b2, b3, t, t1, t2, t3, rfl, t5⟩ := decode_bad hb h0
    have hr : b.drop (8 * wid t) ≠ [] := by
      intro h
      have := congrArg List.length h
      rw [List.length_drop, List.length_nil] at this
      omega
    have e1 : flat l ++ b = flat (l ++ t) ++ b.drop (8 * wid t) := by rw [flat_append, List.append_assoc, ← t3]
    by_cases h1 : 4096 ≤ l.length + t.length
    · obtain ⟨q, q1, q2⟩ := decode_over e1 (a1.append t1) (a2.append t2) (.inr (.inr ⟨by rw [List.length_append]; exact h1, hr⟩))
      exact .inl ⟨q, q1, by rwa [List.length_append] at q2⟩
    · rcases t5 with ⟨_, t5⟩ | ⟨_, t5⟩
      · omega
      · have h5 := next_error t5
        refine .inr (.inl ⟨h0, by omega, ?_⟩)
        rw [decode_fail e1 (a1.append t1) (a2.append t2) (by rw [List.length_append]; omega) t5 hr, wid_append, Nat.add_comm]

/-- P2.9: ahead of the fault, and what begins there -/
theorem first_law {b : List UInt8} {l : List Ins} {u : Nat} {e : Int} (h : decode b = (l, u, e)) (he : e ≠ 0) :
    8 * u < b.length ∧ ∃ t, decode (b.take (8 * u)) = (t, 0, 0) ∧ (e = 25 → t.length = 4096) ∧ (e ≠ 25 → decode (b.drop (8 * u)) = ([], 0, e)) := by
  obtain ⟨rfl, b1, b2, b3, t, t1, t2, t3, rfl, t5⟩ := decode_bad h he
  have hr : b.drop (8 * wid t) ≠ [] := by
    intro h
    have := congrArg List.length h
    rw [List.length_drop, List.length_nil] at this
    omega
  have e1 : b.take (8 * wid t) = flat t := by
    have := congrArg (List.take (8 * wid t)) t3
    rwa [List.take_left' (flat_length t)] at this
  refine ⟨b1, t, by rw [e1]; exact decode_flat t1 t2 (by rcases t5 with ⟨_, t5⟩ | ⟨t5, _⟩ <;> omega), ?_, ?_⟩
  · intro h
    rcases t5 with ⟨_, t5⟩ | ⟨_, t5⟩
    · exact t5
    · have := next_error t5; omega
  · intro h
    rcases t5 with ⟨t5, _⟩ | ⟨_, t5⟩
    · exact absurd t5 h
    · have := decode_fail (b := b.drop (8 * wid t)) (t := []) (r := b.drop (8 * wid t)) (by simp [flat_nil]) (fun x hx => (by cases hx)) (fun x hx => (by cases hx)) (by decide) t5 hr
      rw [this]
      rfl

/-! ### one byte turned -/
theorem head_ne {x : Ins} (h : right x = 0) : ∃ c tl, bytes x = c :: tl ∧ c ≠ 0 ∧ (c = 24 → wide x.op = true) := by
  refine ⟨_, _, rfl, ?_, ?_⟩
  · intro h0
    obtain ⟨t1, t2, t3, -, -⟩ := tabA_at (right_iff.mp h).form
    have h1 := byte_toNat (opcode x).1
    rw [h0] at h1
    have h2 : (opcode x).1 = 0 := by
      have : ((0 : UInt8).toNat : Int) = 0 := rfl
      omega
    rw [h2] at t3
    revert t3
    decide
  · intro h0
    cases hw : wide x.op with
    | true => rfl
    | false =>
      obtain ⟨t1, t2, t3, -, t5⟩ := tabA_at (right_iff.mp h).form
      have h1 := byte_toNat (opcode x).1
      rw [h0] at h1
      have h2 : (opcode x).1 = 24 := by
        have : ((24 : UInt8).toNat : Int) = 24 := rfl
        omega
      have h3 := t5 hw
      rw [h2] at h3
      have h4 : (base x).op = 20 := by rw [← h3]; decide
      have h5 : x.op = 20 := by
        unfold base at h4
        split at h4
        · cases h4
        · split at h4
          · cases h4
          · split at h4
            · cases h4
            · split at h4
              · exact h4
              · exact h4
      rw [h5] at hw
      cases hw
theorem second_zero {x : Ins} (hw : wide x.op = true) : (bytes x)[8]? = some 0 ∧ (bytes x)[0]? = some 24 ∧ (bytes x).length = 16 := by
  have h1 := drop_wide x [] hw
  rw [List.append_nil, List.append_nil] at h1
  have h2 : (bytes x).length = 16 := by rw [bytes_length]; unfold width; rw [if_pos hw]
  refine ⟨?_, ?_, h2⟩
  · have h3 : ((bytes x).drop 8)[0]? = some 0 := by
      rw [h1, show low 4 0 = [0, 0, 0, 0] by decide]
      rfl
    rwa [List.getElem?_drop] at h3
  · have hop : x.op = 20 ∨ x.op = 21 := by unfold wide at hw; simpa using hw
    show some (byte (opcode x).1) = some 24
    obtain ⟨op, n, rg, sz, d, s, o, m⟩ := x
    dsimp only at hop
    rcases hop with rfl | rfl
    · rw [show (opcode ⟨20, n, rg, sz, d, s, o, m⟩).1 = 24 from rfl]; rfl
    · rw [show (opcode ⟨21, n, rg, sz, d, s, o, m⟩).1 = 24 from rfl]; rfl
theorem flat_head {l : List Ins} (hr : AllRight l) {c : UInt8} (h : (flat l)[0]? = some c) : c ≠ 0 := by
  cases l with
  | nil => cases h
  | cons x l =>
    obtain ⟨c', tl, h1, h2, _⟩ := head_ne hr.cons.1
    rw [flat_cons, h1] at h
    have : some c' = some c := h
    injection this with this
    rw [← this]
    exact h2

/-- the instruction that a unit lies in -/
theorem split_at : ∀ (l : List Ins) (q : Nat), q < wid l → ∃ l1 x l2, l = l1 ++ x :: l2 ∧ wid l1 ≤ q ∧ q < wid l1 + width x
  | [], q, h => by simp [wid] at h
  | x :: l, q, h => by
    by_cases h1 : q < width x
    · exact ⟨[], x, l, rfl, by simp [wid], by simpa [wid] using h1⟩
    · obtain ⟨l1, y, l2, h2, h3, h4⟩ := split_at l (q - width x) (by simp only [wid] at h; omega)
      exact ⟨x :: l1, y, l2, by rw [h2]; rfl, by simp only [wid]; omega, by simp only [wid]; omega⟩

theorem set_left {a b : List UInt8} {k : Nat} {v : UInt8} (h : k < a.length) : (a ++ b).set k v = a.set k v ++ b := by
  rw [List.set_append, if_pos h]
theorem set_right {a b : List UInt8} {k n : Nat} {v : UInt8} (h : a.length = n) (h2 : n ≤ k) : (a ++ b).set k v = a ++ b.set (k - n) v := by
  rw [List.set_append, if_neg (by omega), h]

/-- the reading of turned bytes comes back into step, or stops at once -/
theorem turned_step {x : Ins} {l2 s : List Ins} {r' : List UInt8} {k : Nat} {v : UInt8} (hx : right x = 0) (h2 : AllRight l2) (hs : AllRight s) (hk : k < 8 * width x)
    (h : (bytes x ++ flat l2).set k v = flat s ++ r') (hw : k / 8 + 1 < wid s) : ∃ y s', s = y :: s' ∧ flat l2 = flat s' ++ r' := by
  cases s with
  | nil => simp [wid] at hw
  | cons y s =>
    refine ⟨y, s, rfl, ?_⟩
    have hbx := bytes_length x
    have hby := bytes_length y
    rw [set_left (by omega), flat_cons, List.append_assoc] at h
    by_cases hyx : width y = width x
    · exact (List.append_inj h (by rw [List.length_set]; omega)).2
    · exfalso
      have h8 := congrArg (fun (z : List UInt8) => z[8]?) h
      have h00 := congrArg (fun (z : List UInt8) => z[0]?) h
      have wx : width x = 1 ∨ width x = 2 := by unfold width; split <;> omega
      have wy : width y = 1 ∨ width y = 2 := by unfold width; split <;> omega
      rcases wx with wx | wx
      · -- a unit was made two
        have wy2 : width y = 2 := by omega
        have hwy : wide y.op = true := by
          unfold width at wy2
          split at wy2
          · assumption
          · omega
        obtain ⟨s1, s2, s3⟩ := second_zero hwy
        rw [List.getElem?_append_right (by rw [List.length_set]; omega), List.length_set, hbx, wx, List.getElem?_append_left (by omega), s1] at h8
        exact flat_head h2 h8 rfl
      · have wy1 : width y = 1 := by omega
        have hwx : wide x.op = true := by
          unfold width at wx
          split at wx
          · assumption
          · omega
        obtain ⟨s1, s2, s3⟩ := second_zero hwx
        by_cases hk8 : k < 8
        · -- two units were made one; the second begins with 0
          have hsne : 1 ≤ wid s := by
            simp only [wid] at hw
            omega
          rw [List.getElem?_append_left (by rw [List.length_set]; omega), List.getElem?_set_ne (by omega), s1, List.getElem?_append_right (by omega), hby, wy1, List.getElem?_append_left (by rw [flat_length]; omega)] at h8
          exact flat_head hs.cons.2 h8.symm rfl
        · rw [List.getElem?_append_left (by rw [List.length_set]; omega), List.getElem?_set_ne (by omega), s2, List.getElem?_append_left (by omega)] at h00
          obtain ⟨c, tl, c1, c2, c3⟩ := head_ne hs.cons.1
          rw [c1] at h00
          have h5 : some 24 = some c := h00
          injection h5 with h5
          have := c3 h5.symm
          unfold width at wy1
          rw [if_pos this] at wy1
          omega

/-- P2.8: one byte turned -/
theorem turned_law {l m : List Ins} {k u : Nat} {v : UInt8} {f : Int} (hr : AllRight l) (hi : AllIn l) (hl : l.length ≤ 4096) (hk : k < (flat l).length) (hv : (flat l)[k]? ≠ some v) (hd : decode ((flat l).set k v) = (m, u, f)) :
    (f = 0 ∧ m ≠ l) ∨ (f ≠ 0 ∧ m = [] ∧ u ≤ k / 8 + 1) := by
  by_cases h0 : f = 0
  · subst h0
    refine .inl ⟨rfl, ?_⟩
    rintro rfl
    obtain ⟨-, -, -, h1, -⟩ := decode_ok hd
    apply hv
    rw [h1]
    rw [List.getElem?_set_self hk]
  · obtain ⟨rfl, b1, b2, b3, t, t1, t2, t3, rfl, t5⟩ := decode_bad hd h0
    refine .inr ⟨h0, rfl, ?_⟩
    apply Nat.le_of_not_lt
    intro hlt
    rw [List.length_set] at b1
    rw [flat_length] at hk b1
    obtain ⟨l1, x, l2, rfl, q1, q2⟩ := split_at l (k / 8) (by omega)
    have hr1 := hr.left
    have hr2 := hr.right_.cons
    have hi1 := hi.left
    have hi2 := hi.right_.cons
    generalize hR : ((flat (l1 ++ x :: l2)).set k v).drop (8 * wid t) = R at *
    rw [flat_append, set_right (flat_length l1) (by omega), flat_cons] at t3
    obtain ⟨s, s1, s2⟩ := prefix_law l1 t _ R hr1 hi1 t1 t2 t3 (by omega)
    subst s1
    have ht1 := t1.right_
    have ht2 := t2.right_
    rw [wid_append] at hlt b1
    obtain ⟨y, s', rfl, s3⟩ := turned_step hr2.1 hr2.2 ht1 (by omega) s2 (by omega)
    have hRn : 0 < R.length := by
      rw [← hR, List.length_drop, List.length_set, flat_length, wid_append l1 (y :: s')]
      omega
    have hlen := congrArg List.length s3
    rw [List.length_append, flat_length, flat_length] at hlen
    obtain ⟨z, z1, z2⟩ := prefix_law s' l2 R [] ht1.cons.2 ht2.cons.2 hr2.2 hi2.2 (by rw [List.append_nil]; exact s3.symm) (by omega)
    rw [List.append_nil] at z2
    cases z with
    | nil => rw [z2] at hRn; simp [flat_nil] at hRn
    | cons w z =>
      subst z1
      simp only [List.length_append, List.length_cons] at hl t5
      rcases t5 with ⟨_, t5⟩ | ⟨_, t5⟩
      · omega
      · have hz := hr2.2.right_.cons
        have hzi := hi2.2.right_.cons
        rw [z2, flat_cons, next_bytes w (flat z) hz.1 hzi.1] at t5
        cases t5

end Go.Proofs.Ytfcbedkidjclhaa.Cd
