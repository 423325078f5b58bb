/-
  Plain laws of package pack's containers: what Encode writes is read back; one changed byte is refused. No program in sight.
  No condition beyond those each statement names.
-/
import Derived.Test.YtfcbedkidjclhaaDecM
namespace Go.Proofs.Ytfcbedkidjclhaa.Pk
set_option linter.unusedSimpArgs false
set_option linter.unusedVariables false

theorem byte_nat (v : Nat) : (byte (v : Int)).toNat = v % 256 := by have := byte_toNat (v : Int); omega

theorem val_low : ∀ (n v : Nat), val (low n (v : Int)) = v % 256 ^ n
  | 0, v => by simp [low, val, Nat.mod_one]
  | n + 1, v => by
    have e : ((v : Int) / 256) = ((v / 256 : Nat) : Int) := by omega
    rw [low, val, e, val_low n, byte_nat, Nat.pow_succ, Nat.mul_comm (256 ^ n) 256, Nat.mod_mul]

theorem val_inj : ∀ (a b : List UInt8), a.length = b.length → val a = val b → a = b
  | [], [], _, _ => rfl
  | x :: a, y :: b, hl, h => by
    simp only [val] at h
    have hx := x.toNat_lt
    have hy := y.toNat_lt
    have h1 : x.toNat = y.toNat := by omega
    have h2 : val a = val b := by omega
    have h3 := val_inj a b (by simpa using hl) h2
    rw [h3, UInt8.toNat_inj.mp h1]
  | [], _ :: _, h, _ => by simp at h
  | _ :: _, [], h, _ => by simp at h

theorem mul_back {x : Nat} (hx : x < 4294967296) : (x * 16777619 % 4294967296) * 899433627 % 4294967296 = x := by
  rw [Nat.mod_mul_mod, Nat.mul_assoc, show 16777619 * 899433627 = 4294967296 * 3513497 + 1 from rfl, Nat.mul_add, Nat.mul_one, ← Nat.mul_assoc, Nat.mul_comm x 4294967296, Nat.mul_assoc, Nat.mul_add_mod, Nat.mod_eq_of_lt hx]
theorem mul_inj {x y : Nat} (hx : x < 4294967296) (hy : y < 4294967296) (h : x * 16777619 % 4294967296 = y * 16777619 % 4294967296) : x = y := by
  rw [← mul_back hx, h, mul_back hy]

theorem xor_lt {s : Nat} (b : UInt8) (hs : s < 4294967296) : s ^^^ b.toNat < 4294967296 :=
  Nat.xor_lt_two_pow (n := 32) hs (by have := b.toNat_lt; omega)

theorem xor_inj {a b c : Nat} (h : a ^^^ b = c ^^^ b) : a = c := by
  have h1 := congrArg (· ^^^ b) h
  simpa [Nat.xor_assoc] using h1
theorem xor_inj' {a b c : Nat} (h : a ^^^ b = a ^^^ c) : b = c := by
  rw [Nat.xor_comm a b, Nat.xor_comm a c] at h
  exact xor_inj h

theorem step_inj {s t : Nat} {b : UInt8} (hs : s < 4294967296) (ht : t < 4294967296) (h : step s b = step t b) : s = t :=
  xor_inj (mul_inj (xor_lt b hs) (xor_lt b ht) h)
theorem step_inj' {s : Nat} {b c : UInt8} (hs : s < 4294967296) (h : step s b = step s c) : b = c :=
  UInt8.toNat_inj.mp (xor_inj' (mul_inj (xor_lt b hs) (xor_lt c hs) h))

theorem sumFrom_cons (s : Nat) (b : UInt8) (l : List UInt8) : sumFrom s (b :: l) = sumFrom (step s b) l := rfl
theorem sumFrom_inj : ∀ (l : List UInt8) {s t : Nat}, s < 4294967296 → t < 4294967296 → sumFrom s l = sumFrom t l → s = t
  | [], _, _, _, _, h => h
  | b :: l, s, t, hs, ht, h => step_inj hs ht (sumFrom_inj l (step_lt _ _) (step_lt _ _) h)
theorem sumFrom_set : ∀ (l : List UInt8) (s i : Nat) (x : UInt8) (hs : s < 4294967296) (h : i < l.length), x ≠ l[i] → sumFrom s (l.set i x) ≠ sumFrom s l
  | [], _, _, _, _, h, _ => by simp at h
  | b :: l, s, 0, x, hs, h, hx => fun he => hx (step_inj' hs (sumFrom_inj l (step_lt _ _) (step_lt _ _) he))
  | b :: l, s, i + 1, x, hs, h, hx => sumFrom_set l (step s b) i x (step_lt _ _) (by simpa using h) (by simpa using hx)
theorem sum_set (l : List UInt8) (i : Nat) (x : UInt8) (h : i < l.length) (hx : x ≠ l[i]) : sum (l.set i x) ≠ sum l :=
  sumFrom_set l seed i x (by unfold seed; omega) h hx

theorem one_nil (k : Int) : one k [] = [] := rfl
theorem one_pos (k : Int) (c : List UInt8) (h : c ≠ []) : one k c = byte k :: (low 3 c.length ++ c) := by
  have : c.length ≠ 0 := by simpa using h
  simp [one, this]
theorem body_take (lo hi : Int) (data : List UInt8) (ts : List (Int × Int)) (code : List UInt8) : ∃ r, body lo hi data ts code = magic ++ r ∧ 8 ≤ r.length := by
  refine ⟨one 1 (lens lo hi) ++ (one 2 (tabBytes ts) ++ (one 3 data ++ one 4 code)), by simp [body], ?_⟩
  rw [one_pos 1 (lens lo hi) (by simp [lens, low])]
  simp [lens_length, low_length]
  omega

/-- one byte changed: which error, and where -/
theorem decode_changed (lo hi : Int) (data : List UInt8) (ts : List (Int × Int)) (code : List UInt8) (hl : (bytes lo hi data ts code).length ≤ 131072)
    (i : Nat) (hil : i < (bytes lo hi data ts code).length) (x : UInt8) (hx : x ≠ (bytes lo hi data ts code)[i]) :
    decode ((bytes lo hi data ts code).set i x) = if i < 4 then (C0, 0, 120) else (C0, (bytes lo hi data ts code).length - 4, 124) := by
  obtain ⟨r, hr, hr8⟩ := body_take lo hi data ts code
  have hb : bytes lo hi data ts code = body lo hi data ts code ++ low 4 (sum (body lo hi data ts code)) := rfl
  generalize hB : bytes lo hi data ts code = b at *
  have hbl : b.length = (body lo hi data ts code).length + 4 := by rw [hb]; simp [low_length]
  have hb12 : 16 ≤ b.length := by rw [hbl, hr]; simp [magic]; omega
  have htk : b.take (b.length - 4) = body lo hi data ts code := by rw [hbl, hb]; simp
  have hdr : b.drop (b.length - 4) = low 4 (sum (body lo hi data ts code)) := by rw [hbl, hb]; simp
  have hm : b.take 4 = magic := by rw [hb, hr]; simp [magic]
  have hv : val (b.drop (b.length - 4)) = sum (b.take (b.length - 4)) := by
    rw [hdr, htk, val_low]
    exact Nat.mod_eq_of_lt (sum_lt _)
  unfold decode
  simp only [List.length_set]
  rw [if_neg (by omega), if_neg (by omega)]
  by_cases h4 : i < 4
  · rw [if_pos, if_pos h4]
    intro he
    have h1 : ((b.set i x).take 4)[i]? = (b.take 4)[i]? := by rw [he, hm]
    rw [List.getElem?_take_of_lt h4, List.getElem?_take_of_lt h4, List.getElem?_set_self hil, List.getElem?_eq_getElem hil] at h1
    exact hx (by simpa using h1)
  · rw [if_neg h4, if_neg, if_pos]
    · intro he
      by_cases hlt : i < b.length - 4
      · have e1 : (b.set i x).take (b.length - 4) = (b.take (b.length - 4)).set i x := by rw [List.take_set]
        have e2 : (b.set i x).drop (b.length - 4) = b.drop (b.length - 4) := by rw [List.drop_set_of_lt hlt]
        rw [e1, e2, hv] at he
        refine sum_set (b.take (b.length - 4)) i x (by simp; omega) ?_ he
        simpa using hx
      · have e1 : (b.set i x).take (b.length - 4) = b.take (b.length - 4) := by rw [List.take_set_of_le (by omega)]
        rw [e1, ← hv] at he
        have e3 := val_inj _ _ (by simp) he
        have h1 : (b.drop (b.length - 4))[i - (b.length - 4)]? = ((b.set i x).drop (b.length - 4))[i - (b.length - 4)]? := by rw [e3]
        rw [List.getElem?_drop, List.getElem?_drop, show b.length - 4 + (i - (b.length - 4)) = i by omega, List.getElem?_set_self hil, List.getElem?_eq_getElem hil] at h1
        exact hx (by simpa using h1.symm)
    · have e1 : (b.set i x).take 4 = b.take 4 := by rw [List.take_set_of_le (by omega)]
      rw [e1, hm]
      simp

/-- tables are read back -/
theorem tabs_back : ∀ (ts : List (Int × Int)) (s : Nat), (ts.any wrongB = false) → tabs s (tabBytes ts) = .ok ts
  | [], _, _ => rfl
  | (a, b) :: ts, s, h => by
    simp only [List.any_cons, Bool.or_eq_false_iff, wrongB, decide_eq_false_iff_not, Int.not_lt] at h
    obtain ⟨⟨⟨⟨h1, h2⟩, h3⟩, h4⟩, h5⟩ := h
    have ha := byte_toNat a
    have hb := byte_toNat b
    have e : tabBytes ((a, b) :: ts) = byte a :: byte b :: tabBytes ts := rfl
    have ba : badB (byte a) = false := by simp [badB]; omega
    have bb : badB (byte b) = false := by simp [badB]; omega
    rw [e, tabs, ba, bb, tabs_back ts (s + 2) h5]
    simp
    omega

theorem val3 (n : Nat) (h : n < 16777216) : val (low 3 (n : Int)) = n := by rw [val_low]; exact Nat.mod_eq_of_lt h

/-- a section that is written is read -/
theorem sect_one (pre c post : List UInt8) (k kind : Nat) (p p' : C) (h0 : c ≠ []) (hn : c.length < 16777216) (hk : kind < k) (hk4 : k ≤ 4) (hz : kind = 0 → k = 1)
    (h1 : k = 1 → c.length = 4) (h2 : k = 2 → c.length % 2 = 0 ∧ c.length ≤ 16) (h3 : k = 3 → c.length ≤ 4096) (hc : cont k c (pre.length + 4) p = .ok p') :
    sect (pre ++ one k c ++ post) ⟨pre.length, kind, p⟩ = .ok ⟨(pre ++ one k c).length, k, p'⟩ := by
  have hcl : 0 < c.length := by cases c with | nil => exact absurd rfl h0 | cons _ _ => simp
  have hbs : pre ++ one k c ++ post = pre ++ (byte k :: (low 3 c.length ++ (c ++ post))) := by rw [one_pos _ _ h0]; simp
  have hlen : (pre ++ one k c).length = pre.length + 4 + c.length := by rw [one_pos _ _ h0]; simp [low_length]; omega
  have hblen : (pre ++ one k c ++ post).length = pre.length + 4 + c.length + post.length := by simp only [List.length_append] at hlen ⊢; omega
  have hk' : ((pre ++ one k c ++ post).getD pre.length 0).toNat = k := by
    rw [hbs, List.getD_eq_getElem?_getD, List.getElem?_append_right (Nat.le_refl _)]
    simp only [Nat.sub_self, List.getElem?_cons_zero, Option.getD_some]
    rw [byte_nat]
    omega
  have hsz : val (((pre ++ one k c ++ post).drop (pre.length + 1)).take 3) = c.length := by
    have e : (pre ++ one k c ++ post).drop (pre.length + 1) = low 3 c.length ++ (c ++ post) := by
      rw [hbs, List.drop_append]
      simp
    rw [e, List.take_append_of_le_length (by simp [low_length]), List.take_of_length_le (by simp [low_length])]
    exact val3 _ hn
  have hcs : ((pre ++ one k c ++ post).drop (pre.length + 4)).take c.length = c := by
    have e : (pre ++ one k c ++ post).drop (pre.length + 4) = c ++ post := by
      have e2 : pre ++ (byte k :: (low 3 c.length ++ (c ++ post))) = (pre ++ (byte k :: low 3 c.length)) ++ (c ++ post) := by simp
      rw [hbs, e2, show pre.length + 4 = (pre ++ (byte (k : Int) :: low 3 c.length)).length by simp [low_length]]
      simp
    rw [e]
    simp
  unfold sect
  simp only [hk', hsz, hcs, hblen]
  rw [if_neg (by omega), if_neg (by omega), if_neg (by omega), if_neg (by omega), if_neg (by omega), if_neg (by omega), hc]
  simp only [hlen]

theorem sects_step {bs : List UInt8} {f : Nat} {r r' : R} (h : r.pos < bs.length) (hs : sect bs r = .ok r') : sects bs (f + 1) r = sects bs f r' := by
  rw [sects, if_pos h, hs]
theorem sects_end {bs : List UInt8} : ∀ (f : Nat) {r : R}, bs.length ≤ r.pos → sects bs f r = .ok r
  | 0, _, _ => rfl
  | f + 1, r, h => by rw [sects, if_neg (by omega)]

/-- a section that may be left out -/
theorem sects_one (pre c post : List UInt8) (k kind f : Nat) (p p' : C) (hn : c.length < 16777216) (hk : kind < k) (hk4 : k ≤ 4) (hz : kind ≠ 0 ∨ (k = 1 ∧ c ≠ []))
    (h1 : k = 1 → c.length = 4) (h2 : k = 2 → c.length % 2 = 0 ∧ c.length ≤ 16) (h3 : k = 3 → c.length ≤ 4096) (hc : cont k c (pre.length + 4) p = .ok p') (he : c = [] → p' = p) :
    ∃ f' kind', f ≤ f' ∧ kind' ≤ k ∧ kind' ≠ 0 ∧ sects (pre ++ one k c ++ post) (f + 1) ⟨pre.length, kind, p⟩ = sects (pre ++ one k c ++ post) f' ⟨(pre ++ one k c).length, kind', p'⟩ := by
  by_cases h0 : c = []
  · refine ⟨f + 1, kind, by omega, by omega, ?_, ?_⟩
    · rcases hz with h | h
      · exact h
      · exact absurd h0 h.2
    · rw [he h0]
      subst h0
      simp [one_nil]
  · refine ⟨f, k, by omega, by omega, by omega, ?_⟩
    refine sects_step ?_ (sect_one pre c post k kind p p' h0 hn hk hk4 (fun h => by rcases hz with h' | h'; exact absurd h h'; exact h'.1) h1 h2 h3 hc)
    rw [one_pos _ _ h0]
    simp

theorem sizes_ok {lo hi : Int} {nd : Nat} {ts : List (Int × Int)} (h : sizes lo hi nd ts = 0) : 0 ≤ lo ∧ lo ≤ hi ∧ hi ≤ 65535 ∧ ts.length ≤ 8 ∧ ts.any wrongB = false ∧ nd ≤ 4096 := by
  unfold sizes at h
  split at h
  · omega
  · split at h
    · omega
    · split at h
      · omega
      · rename_i h1 h2 h3
        refine ⟨by omega, by omega, by omega, by omega, ?_, by omega⟩
        cases hw : ts.any wrongB with
        | false => rfl
        | true => exact absurd (Or.inr hw) h2

/-- what is written is read back -/
theorem decode_bytes (lo hi : Int) (data : List UInt8) (ts : List (Int × Int)) (code : List UInt8) (hs : sizes lo hi data.length ts = 0) (hl : (bytes lo hi data ts code).length ≤ 131072) :
    decode (bytes lo hi data ts code) = (⟨lo, hi, data, ts, code⟩, 0, 0) := by
  obtain ⟨h1, h2, h3, h4, h5, h6⟩ := sizes_ok hs
  obtain ⟨r, hr, hr8⟩ := body_take lo hi data ts code
  have hb : bytes lo hi data ts code = body lo hi data ts code ++ low 4 (sum (body lo hi data ts code)) := rfl
  generalize hB : bytes lo hi data ts code = b at *
  have hbl : b.length = (body lo hi data ts code).length + 4 := by rw [hb]; simp [low_length]
  have hb12 : 16 ≤ b.length := by rw [hbl, hr]; simp [magic]; omega
  have htk : b.take (b.length - 4) = body lo hi data ts code := by rw [hbl, hb]; simp
  have hdr : b.drop (b.length - 4) = low 4 (sum (body lo hi data ts code)) := by rw [hbl, hb]; simp
  have hm : b.take 4 = magic := by rw [hb, hr]; simp [magic]
  have hv : sum (b.take (b.length - 4)) = val (b.drop (b.length - 4)) := by
    rw [hdr, htk, val_low]
    exact (Nat.mod_eq_of_lt (sum_lt _)).symm
  have hcode : code.length ≤ 131072 := by
    have : code.length ≤ (body lo hi data ts code).length := by
      unfold body one
      simp only [List.length_append]
      by_cases hc : code.length = 0
      · omega
      · simp only [hc, if_false, List.length_cons, List.length_append]; omega
    omega
  have hlen4 : (lens lo hi).length = 4 := lens_length lo hi
  have hlen0 : lens lo hi ≠ [] := fun h => by rw [h] at hlen4; simp at hlen4
  have elo : val ((lens lo hi).take 2) = lo.toNat := by
    have : (lens lo hi).take 2 = low 2 (lo.toNat : Int) := by
      rw [show ((lo.toNat : Int)) = lo by omega]
      unfold lens
      rw [List.take_append_of_le_length (by simp [low_length]), List.take_of_length_le (by simp [low_length])]
    rw [this, val_low]
    exact Nat.mod_eq_of_lt (by omega)
  have ehi : val ((lens lo hi).drop 2) = hi.toNat := by
    have : (lens lo hi).drop 2 = low 2 (hi.toNat : Int) := by
      rw [show ((hi.toNat : Int)) = hi by omega]
      unfold lens
      rw [List.drop_append_of_le_length (by simp [low_length]), List.drop_eq_nil_of_le (by simp [low_length])]
      simp
    rw [this, val_low]
    exact Nat.mod_eq_of_lt (by omega)
  have hL : b.length = (b.length - 4) + 4 := by omega
  unfold decode
  rw [if_neg (by omega), if_neg (by omega), if_neg (by rw [hm]; simp), if_neg (by rw [hv]; simp), htk]
  have key : ∃ kind, kind ≠ 0 ∧ sects (body lo hi data ts code) b.length ⟨4, 0, C0⟩ = .ok ⟨(body lo hi data ts code).length, kind, ⟨lo, hi, data, ts, code⟩⟩ := by
    rw [show b.length = (b.length - 4 + 3) + 1 by omega]
    obtain ⟨f1, k1, e1, g1, z1, s1⟩ := sects_one magic (lens lo hi) (one 2 (tabBytes ts) ++ one 3 data ++ one 4 code) 1 0 (b.length - 4 + 3) C0 ⟨lo, hi, [], [], []⟩ (by omega) (by omega) (by omega) (Or.inr ⟨rfl, hlen0⟩)
      (fun _ => hlen4) (by omega) (by omega) (by
        unfold cont
        rw [if_pos rfl, elo, ehi, if_neg (by omega)]
        simp only [C0, Except.ok.injEq, C.mk.injEq]
        refine ⟨by omega, by omega, by simp⟩) (fun h => absurd h hlen0)
    obtain ⟨f2, k2, e2, g2, z2, s2⟩ := sects_one (magic ++ one 1 (lens lo hi)) (tabBytes ts) (one 3 data ++ one 4 code) 2 k1 (f1 - 1) ⟨lo, hi, [], [], []⟩ ⟨lo, hi, [], ts, []⟩ (by rw [tab_length]; omega) (by omega) (by omega) (Or.inl z1)
      (by omega) (fun _ => by rw [tab_length]; omega) (by omega) (by
        unfold cont
        rw [if_neg (by omega), if_pos rfl, tabs_back ts _ h5]
        simp) (fun h => by
        have : ts = [] := by have e := tab_length ts; rw [h] at e; cases ts with | nil => rfl | cons _ _ => simp at e
        rw [this])
    obtain ⟨f3, k3, e3, g3, z3, s3⟩ := sects_one (magic ++ one 1 (lens lo hi) ++ one 2 (tabBytes ts)) data (one 4 code) 3 k2 (f2 - 1) ⟨lo, hi, [], ts, []⟩ ⟨lo, hi, data, ts, []⟩ (by omega) (by omega) (by omega) (Or.inl z2)
      (by omega) (by omega) (fun _ => h6) (by
        unfold cont
        rw [if_neg (by omega), if_neg (by omega), if_pos rfl]) (fun h => by rw [h])
    obtain ⟨f4, k4, e4, g4, z4, s4⟩ := sects_one (magic ++ one 1 (lens lo hi) ++ one 2 (tabBytes ts) ++ one 3 data) code [] 4 k3 (f3 - 1) ⟨lo, hi, data, ts, []⟩ ⟨lo, hi, data, ts, code⟩ (by omega) (by omega) (by omega) (Or.inl z3)
      (by omega) (by omega) (by omega) (by
        unfold cont
        rw [if_neg (by omega), if_neg (by omega), if_neg (by omega)]) (fun h => by rw [h])
    refine ⟨k4, z4, ?_⟩
    have b1 : body lo hi data ts code = magic ++ one 1 (lens lo hi) ++ (one 2 (tabBytes ts) ++ one 3 data ++ one 4 code) := by simp [body]
    have b2 : body lo hi data ts code = magic ++ one 1 (lens lo hi) ++ one 2 (tabBytes ts) ++ (one 3 data ++ one 4 code) := by simp [body]
    have b3 : body lo hi data ts code = magic ++ one 1 (lens lo hi) ++ one 2 (tabBytes ts) ++ one 3 data ++ (one 4 code) := by simp [body]
    have b4 : body lo hi data ts code = magic ++ one 1 (lens lo hi) ++ one 2 (tabBytes ts) ++ one 3 data ++ one 4 code ++ [] := by simp [body]
    have n1 : ((1 : Nat) : Int) = 1 := rfl
    have n2 : ((2 : Nat) : Int) = 2 := rfl
    have n3 : ((3 : Nat) : Int) = 3 := rfl
    have n4 : ((4 : Nat) : Int) = 4 := rfl
    have m4 : magic.length = 4 := rfl
    rw [n1, ← b1, m4] at s1
    rw [n2, ← b2, show f1 - 1 + 1 = f1 by omega] at s2
    rw [n3, ← b3, show f2 - 1 + 1 = f2 by omega] at s3
    rw [n4, ← b4, show f3 - 1 + 1 = f3 by omega] at s4
    rw [s1, s2, s3, s4]
    have : body lo hi data ts code = magic ++ one 1 (lens lo hi) ++ one 2 (tabBytes ts) ++ one 3 data ++ one 4 code := by simp [body]
    rw [← this]
    exact sects_end _ (by simp)
  obtain ⟨kind, hk, e⟩ := key
  rw [e]
  simp [hk]

end Go.Proofs.Ytfcbedkidjclhaa.Pk
