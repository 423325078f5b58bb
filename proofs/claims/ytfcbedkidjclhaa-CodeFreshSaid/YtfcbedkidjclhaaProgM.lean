/-
  What package pack's Program, Check and Of compute, in plain Lean; the plain laws of programs and containers: what is read is written again, programs there and back, what is turned is refused. No program in sight.
  No condition beyond those each statement names.
-/
import Derived.Test.YtfcbedkidjclhaaPackL
import Derived.Test.YtfcbedkidjclhaaCodeL4
namespace Go.Proofs.Ytfcbedkidjclhaa.Pk
set_option linter.unusedSimpArgs false
set_option linter.unusedVariables false

/-- a program -/
structure P where
  lo : Int
  hi : Int
  data : List UInt8
  ts : List (Int × Int)
  code : List Cd.Ins

def P0 : P := ⟨0, 0, [], [], []⟩

/-- does an instruction point beyond the data? -/
def reachB (n : Nat) (x : Cd.Ins) : Bool := decide (x.op = 21) && decide ((n : Int) < x.imm)
/-- the first that does -/
def reaches (l : List Cd.Ins) (n : Nat) : Option Nat := l.findIdx? (reachB n)

/-- Check: where, the error -/
def pcheck (p : P) : Nat × Int :=
  if sizes p.lo p.hi p.data.length p.ts ≠ 0 then (0, sizes p.lo p.hi p.data.length p.ts)
  else if (Cd.check p.code).2 ≠ 0 then Cd.check p.code
  else if p.code = [] then (0, 26)
  else match reaches p.code p.data.length with
    | some i => (i, 123)
    | none => (0, 0)
/-- Of: the container, where, the error -/
def pof (p : P) : C × Nat × Int :=
  if (pcheck p).2 ≠ 0 then (C0, pcheck p)
  else (⟨p.lo, p.hi, p.data, p.ts, (Cd.encode p.code).1⟩, 0, 0)
/-- Program: the program, where, the error -/
def pprog (k : C) : P × Nat × Int :=
  if sizes k.lo k.hi k.data.length k.ts ≠ 0 then (P0, 0, sizes k.lo k.hi k.data.length k.ts)
  else if (Cd.decode k.code).2.2 ≠ 0 then (P0, (Cd.decode k.code).2)
  else if (Cd.decode k.code).1 = [] then (P0, 0, 26)
  else match reaches (Cd.decode k.code).1 k.data.length with
    | some i => (P0, (Cd.units (Cd.decode k.code).1).getD i 0, 123)
    | none => (⟨k.lo, k.hi, k.data, k.ts, (Cd.decode k.code).1⟩, 0, 0)

theorem reaches_lt {l : List Cd.Ins} {n i : Nat} (h : reaches l n = some i) : i < l.length ∧ ∃ x, l[i]? = some x ∧ reachB n x = true := by
  unfold reaches at h
  rw [List.findIdx?_eq_some_iff_getElem] at h
  obtain ⟨h1, h2, _⟩ := h
  exact ⟨h1, l[i], by simp [h1], h2⟩

theorem units_le : ∀ (l : List Cd.Ins) (n i : Nat), i ≤ l.length → n ≤ (Cd.unitsFrom n l).getD i 0 ∧ (Cd.unitsFrom n l).getD i 0 ≤ n + Cd.wid l
  | [], n, i, h => by
    obtain rfl : i = 0 := by simpa using h
    simp [Cd.unitsFrom, Cd.wid]
  | x :: l, n, 0, h => by simp [Cd.unitsFrom]
  | x :: l, n, i + 1, h => by
    have := units_le l (n + Cd.width x) i (by simpa using h)
    have hw := Cd.width_pos x
    simp only [Cd.unitsFrom, List.getD_cons_succ, Cd.wid] at this ⊢
    omega

/-- what goes wrong of a program: places -/
theorem prog_bad {k : C} {p : P} {a : Nat} {e : Int} (h : pprog k = (p, a, e)) (he : e ≠ 0) : p = P0 ∧ a ≤ k.code.length / 8 := by
  unfold pprog at h
  split at h
  · cases h; exact ⟨rfl, by omega⟩
  · split at h
    · rename_i h1 h2
      obtain ⟨l, u, f, hd⟩ : ∃ l u f, Cd.decode k.code = (l, u, f) := ⟨_, _, _, rfl⟩
      rw [hd] at h h2
      cases h
      have := Cd.decode_bad hd he
      exact ⟨rfl, by omega⟩
    · split at h
      · cases h; exact ⟨rfl, by omega⟩
      · rename_i h1 h2 h3
        obtain ⟨l, u, f, hd⟩ : ∃ l u f, Cd.decode k.code = (l, u, f) := ⟨_, _, _, rfl⟩
        rw [hd] at h h2
        simp only [ne_eq, Decidable.not_not] at h2
        subst h2
        have hk := Cd.decode_ok hd
        split at h
        · rename_i i hr
          have hi : i < l.length := (reaches_lt hr).1
          cases h
          refine ⟨rfl, ?_⟩
          have := (units_le l 0 i (by omega)).2
          show (Cd.units l).getD i 0 ≤ _
          have e1 := Cd.flat_length l
          rw [hk.2.2.2.1] at e1
          unfold Cd.units
          omega
        · cases h; exact absurd rfl he

/-- what Program reads, Of writes again -/
theorem prog_ok {k : C} {p : P} {a : Nat} (h : pprog k = (p, a, 0)) : a = 0 ∧ pof p = (k, 0, 0) ∧ pcheck p = (0, 0) ∧ Cd.encode p.code = (k.code, 0, 0) ∧ p.code ≠ [] ∧ p.code.length ≤ 4096 ∧ p = ⟨k.lo, k.hi, k.data, k.ts, p.code⟩ ∧ Cd.AllIn p.code := by
  unfold pprog at h
  split at h
  · rename_i h1; exact absurd (congrArg (fun z => z.2.2) h) h1
  · split at h
    · rename_i h1 h2
      obtain ⟨l, u, f, hd⟩ : ∃ l u f, Cd.decode k.code = (l, u, f) := ⟨_, _, _, rfl⟩
      rw [hd] at h h2
      cases h
      exact absurd rfl h2
    · split at h
      · cases h
      · rename_i h1 h2 h3
        obtain ⟨l, u, f, hd⟩ : ∃ l u f, Cd.decode k.code = (l, u, f) := ⟨_, _, _, rfl⟩
        rw [hd] at h h2 h3
        simp only [ne_eq, Decidable.not_not] at h2 h1
        subst h2
        have hk := Cd.decode_ok hd
        split at h
        · cases h
        · rename_i hr
          cases h
          have he := Cd.encode_ok hk.2.1 hk.2.2.2.2
          have hc := Cd.check_zero hk.2.1 hk.2.2.2.2
          have hp : pcheck ⟨k.lo, k.hi, k.data, k.ts, l⟩ = (0, 0) := by
            unfold pcheck
            simp only
            rw [if_neg (by rw [h1]; simp), if_neg (by rw [hc]; simp), if_neg h3, hr]
          refine ⟨rfl, ?_, hp, ?_, h3, hk.2.2.2.2, rfl, hk.2.2.1⟩
          · unfold pof
            rw [hp, if_neg (by simp)]
            simp only
            rw [he, hk.2.2.2.1]
          · rw [he, hk.2.2.2.1]

/-- what Check takes -/
theorem check_fine {p : P} (h : (pcheck p).2 = 0) : pcheck p = (0, 0) ∧ sizes p.lo p.hi p.data.length p.ts = 0 ∧ Cd.AllRight p.code ∧ p.code.length ≤ 4096 ∧ p.code ≠ [] ∧ reaches p.code p.data.length = none := by
  unfold pcheck at h ⊢
  by_cases h1 : sizes p.lo p.hi p.data.length p.ts = 0
  · rw [if_neg (by simpa using h1)] at h ⊢
    by_cases h2 : (Cd.check p.code).2 = 0
    · rw [if_neg (by simpa using h2)] at h ⊢
      by_cases h3 : p.code = []
      · rw [if_pos h3] at h; cases h
      · rw [if_neg h3] at h ⊢
        cases hr : reaches p.code p.data.length with
        | some i => rw [hr] at h; cases h
        | none => exact ⟨rfl, h1, (Cd.check_ok.mp h2).1, (Cd.check_ok.mp h2).2, h3, rfl⟩
    · rw [if_pos h2] at h; exact absurd h h2
  · rw [if_pos h1] at h; exact absurd h h1

theorem one_lenP (k : Int) (c : List UInt8) : (one k c).length ≤ c.length + 4 := by
  unfold one; split <;> simp [low_length]; omega
theorem wid_le2 (l : List Cd.Ins) : Cd.wid l ≤ 2 * l.length := by
  induction l with
  | nil => simp [Cd.wid]
  | cons x l ih => simp only [Cd.wid, List.length_cons]; unfold Cd.width; split <;> omega

/-- what Of makes -/
theorem of_ok {p : P} (h : (pcheck p).2 = 0) (hin : Cd.AllIn p.code) : pof p = (⟨p.lo, p.hi, p.data, p.ts, Cd.flat p.code⟩, 0, 0) ∧ (Cd.flat p.code).length ≤ 65536 ∧
    encode p.lo p.hi p.data p.ts (Cd.flat p.code) = (bytes p.lo p.hi p.data p.ts (Cd.flat p.code), 0) ∧
    decode (bytes p.lo p.hi p.data p.ts (Cd.flat p.code)) = (⟨p.lo, p.hi, p.data, p.ts, Cd.flat p.code⟩, 0, 0) ∧
    pprog ⟨p.lo, p.hi, p.data, p.ts, Cd.flat p.code⟩ = (p, 0, 0) := by
  obtain ⟨h1, h2, h3, h4, h5, h6⟩ := check_fine h
  have he := Cd.encode_ok h3 h4
  have hl : (Cd.flat p.code).length ≤ 65536 := by have := Cd.flat_length p.code; have := wid_le2 p.code; omega
  obtain ⟨s1, s2, s3, s4, s5, s6⟩ := sizes_ok h2
  have hb : (bytes p.lo p.hi p.data p.ts (Cd.flat p.code)).length ≤ 131072 := by
    have a1 := one_lenP 1 (lens p.lo p.hi)
    have a2 := one_lenP 2 (tabBytes p.ts)
    have a3 := one_lenP 3 p.data
    have a4 := one_lenP 4 (Cd.flat p.code)
    rw [lens_length] at a1
    rw [tab_length] at a2
    have hm : magic.length = 4 := rfl
    unfold bytes body
    simp only [List.length_append, low_length]
    omega
  refine ⟨?_, hl, ?_, decode_bytes _ _ _ _ _ h2 hb, ?_⟩
  · unfold pof
    rw [h1, if_neg (by simp), he]
  · unfold encode short
    rw [if_neg (by simpa using h2), if_neg (by omega), if_neg (by omega)]
  · have hd := Cd.decode_flat h3 hin h4
    unfold pprog
    simp only
    rw [hd, if_neg (by simpa using h2), if_neg (by simp), if_neg h5, h6]

theorem low_val : ∀ (l : List UInt8), low l.length (val l : Int) = l
  | [] => rfl
  | b :: l => by
    have hb := b.toNat_lt
    have e1 : byte (val (b :: l) : Int) = b := by
      apply UInt8.toNat_inj.mp
      rw [byte_nat]
      simp only [val]
      omega
    have e2 : (val (b :: l) : Int) / 256 = (val l : Int) := by simp only [val]; omega
    rw [List.length_cons, low, e1, e2, low_val l]
theorem low_val_of {n : Nat} {l : List UInt8} (h : l.length = n) : low n (val l : Int) = l := by subst h; exact low_val l

theorem tabs_ok : ∀ (s : Nat) (c : List UInt8) (ts : List (Int × Int)), tabs s c = .ok ts → c.length % 2 = 0 → tabBytes ts = c ∧ ts.any wrongB = false
  | s, [], ts, h, _ => by simp [tabs] at h; subst h; exact ⟨rfl, rfl⟩
  | s, [a], ts, h, h2 => by simp at h2
  | s, a :: b :: l, ts, h, h2 => by
    rw [tabs] at h
    split at h
    · cases h
    · split at h
      · cases h
      · rename_i h3 h4
        cases ht : tabs (s + 2) l with
        | error e => rw [ht] at h; cases h
        | ok t =>
          rw [ht] at h
          simp only [Except.ok.injEq] at h
          subst h
          obtain ⟨i1, i2⟩ := tabs_ok (s + 2) l t ht (by simp only [List.length_cons] at h2; omega)
          have e : tabBytes (((a.toNat : Int), (b.toNat : Int)) :: t) = byte a.toNat :: byte b.toNat :: tabBytes t := rfl
          have ba : byte (a.toNat : Int) = a := by apply UInt8.toNat_inj.mp; rw [byte_nat]; have := a.toNat_lt; omega
          have bb : byte (b.toNat : Int) = b := by apply UInt8.toNat_inj.mp; rw [byte_nat]; have := b.toNat_lt; omega
          refine ⟨by rw [e, ba, bb, i1], ?_⟩
          simp only [badB, Bool.or_eq_true, decide_eq_true_eq, not_or] at h3 h4
          rw [List.any_cons, i2]
          simp only [wrongB, Bool.or_false, Bool.or_eq_false_iff, decide_eq_false_iff_not]
          omega
theorem tabs_bad : ∀ (s : Nat) (c : List UInt8) (q : Nat) (e : Int), tabs s c = .error (q, e) → q ≤ s + c.length ∧ e = 122
  | s, [], q, e, h => by simp [tabs] at h
  | s, [a], q, e, h => by simp [tabs] at h
  | s, a :: b :: l, q, e, h => by
    rw [tabs] at h
    split at h
    · cases h; exact ⟨by omega, rfl⟩
    · split at h
      · cases h; exact ⟨by simp only [List.length_cons]; omega, rfl⟩
      · cases ht : tabs (s + 2) l with
        | error e' =>
          rw [ht] at h
          obtain ⟨q', e''⟩ := e'
          cases h
          have := tabs_bad (s + 2) l _ _ ht
          exact ⟨by simp only [List.length_cons]; omega, this.2⟩
        | ok t => rw [ht] at h; cases h

/-- what stands ahead of the reader -/
def ahead (k : Nat) (c : C) : List UInt8 := magic ++ (if k = 0 then [] else one 1 (lens c.lo c.hi)) ++ one 2 (tabBytes c.ts) ++ one 3 c.data ++ one 4 c.code
structure Inv (bs : List UInt8) (r : R) : Prop where
  le : r.pos ≤ bs.length
  took : bs.take r.pos = ahead r.kind r.c
  k0 : r.kind = 0 → r.c = C0
  k2 : r.kind < 2 → r.c.ts = []
  k3 : r.kind < 3 → r.c.data = []
  k4 : r.kind < 4 → r.c.code = []
  lens : 0 ≤ r.c.lo ∧ r.c.lo ≤ r.c.hi ∧ r.c.hi ≤ 65535
  tabl : r.c.ts.length ≤ 8
  tabw : r.c.ts.any wrongB = false
  data : r.c.data.length ≤ 4096

theorem val2 (l : List UInt8) (h : l.length ≤ 2) : val l ≤ 65535 := by
  have h1 := val_lt l
  have h2 : 256 ^ l.length ≤ 256 ^ 2 := Nat.pow_le_pow_right (by omega) h
  omega

theorem sectP_bad {bs : List UInt8} {r : R} {q : Nat} {e : Int} (h : sect bs r = .error (q, e)) (hp : r.pos ≤ bs.length) : q ≤ bs.length ∧ e ≠ 0 := by
  unfold sect at h
  dsimp only at h
  split at h
  · cases h; exact ⟨hp, by omega⟩
  · split at h
    · cases h; exact ⟨by omega, by omega⟩
    · split at h
      · cases h; exact ⟨by omega, by omega⟩
      · split at h
        · cases h; exact ⟨by omega, by omega⟩
        · split at h
          · cases h; exact ⟨by omega, by omega⟩
          · split at h
            · cases h; exact ⟨by omega, by omega⟩
            · rename_i h1 h2 h3 h4 h5 h6
              generalize hk : (bs.getD r.pos 0).toNat = k at *
              generalize hz : val ((bs.drop (r.pos + 1)).take 3) = z at *
              generalize hc : ((bs.drop (r.pos + 4)).take z) = c at *
              have hcl : c.length ≤ z := by rw [← hc]; simp; omega
              cases hcon : cont k c (r.pos + 4) r.c with
              | ok x => rw [hcon] at h; cases h
              | error x =>
                rw [hcon] at h
                cases h
                unfold cont at hcon
                split at hcon
                · split at hcon
                  · cases hcon; exact ⟨by omega, by omega⟩
                  · cases hcon
                · split at hcon
                  · cases ht : tabs (r.pos + 4) c with
                    | ok t => rw [ht] at hcon; cases hcon
                    | error t =>
                      rw [ht] at hcon
                      cases hcon
                      have := tabs_bad _ _ _ _ ht
                      exact ⟨by omega, by omega⟩
                  · split at hcon <;> cases hcon

theorem sectP_ok {bs : List UInt8} {r r' : R} (h : sect bs r = .ok r') (hi : Inv bs r) (hlt : r.pos < bs.length) : Inv bs r' ∧ r.pos < r'.pos ∧ r'.kind ≠ 0 := by
  unfold sect at h
  dsimp only at h
  split at h
  · cases h
  · split at h
    · cases h
    · split at h
      · cases h
      · split at h
        · cases h
        · split at h
          · cases h
          · split at h
            · cases h
            · rename_i h1 h2 h3 h4 h5 h6
              generalize hk : (bs.getD r.pos 0).toNat = k at *
              generalize hz : val ((bs.drop (r.pos + 1)).take 3) = z at *
              generalize hc : ((bs.drop (r.pos + 4)).take z) = c at *
              have hcl : c.length = z := by rw [← hc]; simp; omega
              have h3l : ((bs.drop (r.pos + 1)).take 3).length = 3 := by simp; omega
              have hz3 : low 3 (z : Int) = (bs.drop (r.pos + 1)).take 3 := by rw [← hz]; exact low_val_of h3l
              have hb0 : byte (k : Int) = bs.getD r.pos 0 := by
                apply UInt8.toNat_inj.mp
                rw [byte_nat, hk]
                omega
              have htake : bs.take (r.pos + 4 + z) = bs.take r.pos ++ one k c := by
                rw [one_pos _ _ (by intro e; rw [e] at hcl; simp at hcl; omega), hcl, hb0, hz3, ← hc]
                rw [show r.pos + 4 + z = r.pos + (1 + (3 + z)) by omega, List.take_add, List.take_add, List.take_add, List.drop_drop, List.drop_drop]
                rw [show r.pos + 1 + 3 = r.pos + 4 by omega]
                congr 1
                rw [List.getD_eq_getElem?_getD, List.getElem?_eq_getElem hlt, show (bs.drop r.pos).take 1 = [bs[r.pos]] by rw [List.drop_eq_getElem_cons hlt]; rfl]
                rfl
              cases hcon : cont k c (r.pos + 4) r.c with
              | error x => rw [hcon] at h; cases h
              | ok x =>
                rw [hcon] at h
                simp only [Except.ok.injEq] at h
                subst h
                refine ⟨?_, by dsimp only; omega, by dsimp only; omega⟩
                unfold cont at hcon
                split at hcon
                · rename_i e1
                  subst e1
                  split at hcon
                  · cases hcon
                  · rename_i hlh
                    simp only [Except.ok.injEq] at hcon
                    subst hcon
                    have hc4 : c.length = 4 := by omega
                    have hr0 : r.kind = 0 := by omega
                    have hC := hi.k0 hr0
                    have elens : Pk.lens (val (c.take 2) : Int) (val (c.drop 2) : Int) = c := by
                      unfold Pk.lens
                      rw [low_val_of (by simp; omega), low_val_of (by simp; omega), List.take_append_drop]
                    have g1 := val2 (c.drop 2) (by simp; omega)
                    constructor
                    · dsimp only; omega
                    · dsimp only
                      rw [htake, hi.took, hr0, hC]
                      unfold ahead
                      simp only [C0, if_true, if_neg (show ¬ (1 = 0) by decide)]
                      rw [elens]
                      simp [one_nil, tabBytes]
                    · intro e; cases e
                    · intro _; dsimp only; rw [hC]; rfl
                    · intro _; dsimp only; rw [hC]; rfl
                    · intro _; dsimp only; rw [hC]; rfl
                    · dsimp only; omega
                    · exact hi.tabl
                    · exact hi.tabw
                    · exact hi.data
                · split at hcon
                  · rename_i e1 e2
                    subst e2
                    cases ht : tabs (r.pos + 4) c with
                    | error t => rw [ht] at hcon; cases hcon
                    | ok t =>
                      rw [ht] at hcon
                      simp only [Except.ok.injEq] at hcon
                      subst hcon
                      obtain ⟨t1, t2⟩ := tabs_ok _ _ _ ht (by omega)
                      have hr1 : r.kind ≠ 0 := by omega
                      have q2 := hi.k2 (by omega)
                      have q3 := hi.k3 (by omega)
                      have q4 := hi.k4 (by omega)
                      have tl := tab_length t
                      constructor
                      · dsimp only; omega
                      · dsimp only
                        rw [htake, hi.took]
                        unfold ahead
                        simp only [if_neg hr1, if_neg (show ¬ (2 = 0) by decide), q2, q3, q4, List.nil_append, t1]
                        simp [one_nil, tabBytes]
                      · intro e; cases e
                      · intro e; dsimp only at e; omega
                      · intro _; exact q3
                      · intro _; exact q4
                      · exact hi.lens
                      · dsimp only; rw [q2, List.nil_append]; rw [t1, hcl] at tl; omega
                      · dsimp only; rw [q2, List.nil_append]; exact t2
                      · exact hi.data
                  · split at hcon
                    · rename_i e1 e2 e3
                      subst e3
                      simp only [Except.ok.injEq] at hcon
                      subst hcon
                      have hr1 : r.kind ≠ 0 := by omega
                      have q3 := hi.k3 (by omega)
                      have q4 := hi.k4 (by omega)
                      constructor
                      · dsimp only; omega
                      · dsimp only
                        rw [htake, hi.took]
                        unfold ahead
                        simp only [if_neg hr1, if_neg (show ¬ (3 = 0) by decide), q3, q4]
                        simp [one_nil]
                      · intro e; cases e
                      · intro e; dsimp only at e; omega
                      · intro e; dsimp only at e; omega
                      · intro _; exact q4
                      · exact hi.lens
                      · exact hi.tabl
                      · exact hi.tabw
                      · dsimp only; omega
                    · rename_i e1 e2 e3
                      have e4 : k = 4 := by omega
                      subst e4
                      simp only [Except.ok.injEq] at hcon
                      subst hcon
                      have hr1 : r.kind ≠ 0 := by omega
                      have q4 := hi.k4 (by omega)
                      constructor
                      · dsimp only; omega
                      · dsimp only
                        rw [htake, hi.took]
                        unfold ahead
                        simp only [if_neg hr1, if_neg (show ¬ (4 = 0) by decide), q4]
                        simp [one_nil]
                      · intro e; cases e
                      · intro e; dsimp only at e; omega
                      · intro e; dsimp only at e; omega
                      · intro e; dsimp only at e; omega
                      · exact hi.lens
                      · exact hi.tabl
                      · exact hi.tabw
                      · exact hi.data

theorem sects_bad (bs : List UInt8) : ∀ (f : Nat) (r : R) (q : Nat) (e : Int), Inv bs r → sects bs f r = .error (q, e) → q ≤ bs.length ∧ e ≠ 0
  | 0, r, q, e, _, h => by cases h
  | f + 1, r, q, e, hi, h => by
    rw [sects] at h
    split at h
    · rename_i hlt
      cases hs : sect bs r with
      | error x => rw [hs] at h; cases h; exact sectP_bad hs hi.le
      | ok r' => rw [hs] at h; exact sects_bad bs f r' q e (sectP_ok hs hi hlt).1 h
    · cases h
theorem sects_ok (bs : List UInt8) : ∀ (f : Nat) (r r' : R), Inv bs r → sects bs f r = .ok r' → bs.length ≤ f + r.pos → Inv bs r' ∧ bs.length ≤ r'.pos
  | 0, r, r', hi, h, hf => by cases h; exact ⟨hi, by omega⟩
  | f + 1, r, r', hi, h, hf => by
    rw [sects] at h
    split at h
    · rename_i hlt
      cases hs : sect bs r with
      | error x => rw [hs] at h; cases h
      | ok r1 =>
        rw [hs] at h
        have h1 := sectP_ok hs hi hlt
        exact sects_ok bs f r1 r' h1.1 h (by omega)
    · cases h; exact ⟨hi, by omega⟩

theorem inv0 {b : List UInt8} (h8 : 8 ≤ b.length) (hm : b.take 4 = magic) : Inv (b.take (b.length - 4)) ⟨4, 0, C0⟩ := by
  constructor
  · simp; omega
  · dsimp only
    rw [List.take_take, Nat.min_eq_left (by omega), hm]
    simp [ahead, C0, one_nil, tabBytes]
  · intro _; rfl
  · intro _; rfl
  · intro _; rfl
  · intro _; rfl
  · exact ⟨by decide, by decide, by decide⟩
  · exact Nat.zero_le _
  · rfl
  · exact Nat.zero_le _

/-- a fault is at a place of the bytes, and nothing is told beside it -/
theorem decode_bad {b : List UInt8} {k : C} {a : Nat} {e : Int} (h : decode b = (k, a, e)) (he : e ≠ 0) : k = C0 ∧ a ≤ b.length := by
  unfold decode at h
  split at h
  · cases h; exact ⟨rfl, by omega⟩
  · split at h
    · cases h; exact ⟨rfl, by omega⟩
    · split at h
      · cases h; exact ⟨rfl, by omega⟩
      · split at h
        · cases h; exact ⟨rfl, by omega⟩
        · rename_i h1 h2 h3 h4
          have hi := inv0 (b := b) (by omega) (by simpa using h3)
          cases hs : sects (b.take (b.length - 4)) b.length ⟨4, 0, C0⟩ with
          | error x =>
            rw [hs] at h
            cases h
            have := (sects_bad _ _ _ _ _ hi hs).1
            simp at this
            exact ⟨rfl, by omega⟩
          | ok r =>
            rw [hs] at h
            dsimp only at h
            split at h
            · cases h; exact ⟨rfl, by omega⟩
            · cases h; exact absurd rfl he

/-- what is read is written as just these bytes -/
theorem decode_ok {b : List UInt8} {k : C} {a : Nat} (h : decode b = (k, a, 0)) : a = 0 ∧ encode k.lo k.hi k.data k.ts k.code = (b, 0) := by
  unfold decode at h
  split at h
  · cases h
  · split at h
    · cases h
    · split at h
      · cases h
      · split at h
        · cases h
        · rename_i h1 h2 h3 h4
          have hi := inv0 (b := b) (by omega) (by simpa using h3)
          cases hs : sects (b.take (b.length - 4)) b.length ⟨4, 0, C0⟩ with
          | error x =>
            rw [hs] at h
            obtain ⟨q, e⟩ := x
            have := (sects_bad _ _ _ _ _ hi hs).2
            exact absurd (congrArg (fun z => z.2.2) h) this
          | ok r =>
            rw [hs] at h
            dsimp only at h
            split at h
            · cases h
            · rename_i h5
              cases h
              obtain ⟨j, j2⟩ := sects_ok _ _ _ _ hi hs (by simp; omega)
              refine ⟨rfl, ?_⟩
              obtain ⟨l1, l2, l3⟩ := j.lens
              have hz : sizes r.c.lo r.c.hi r.c.data.length r.c.ts = 0 := by
                unfold sizes
                rw [if_neg (by omega), if_neg, if_neg (by have := j.data; omega)]
                rintro (e | e)
                · have := j.tabl; omega
                · rw [j.tabw] at e; cases e
              have hbody : b.take (b.length - 4) = body r.c.lo r.c.hi r.c.data r.c.ts r.c.code := by
                have e := j.took
                rw [List.take_of_length_le j2] at e
                rw [e]
                unfold ahead body
                rw [if_neg h5]
              have hsum : low 4 (sum (body r.c.lo r.c.hi r.c.data r.c.ts r.c.code) : Int) = b.drop (b.length - 4) := by
                rw [← hbody, Decidable.not_not.mp h4]
                exact low_val_of (by simp; omega)
              have hb : bytes r.c.lo r.c.hi r.c.data r.c.ts r.c.code = b := by
                unfold bytes
                rw [hsum, ← hbody, List.take_append_drop]
              have hcode : r.c.code.length ≤ b.length := by
                rw [← hb]
                unfold bytes body
                simp only [List.length_append]
                have : r.c.code.length ≤ (one 4 r.c.code).length := by
                  unfold one
                  split
                  · omega
                  · simp only [List.length_cons, List.length_append]; omega
                omega
              unfold encode short
              rw [if_neg (by simpa using hz), if_neg (by omega), hb, if_neg (by omega)]

theorem bad_check {p : P} {e : Int} (h : sizes p.lo p.hi p.data.length p.ts = e) (he : e ≠ 0) : pcheck p = (0, e) ∧ pof p = (C0, 0, e) := by
  have h1 : pcheck p = (0, e) := by
    unfold pcheck
    rw [h, if_pos he]
  refine ⟨h1, ?_⟩
  unfold pof
  rw [h1, if_pos he]
theorem bad_pack {k : C} {e : Int} (h : sizes k.lo k.hi k.data.length k.ts = e) (he : e ≠ 0) : encode k.lo k.hi k.data k.ts k.code = ([], e) ∧ pprog k = (P0, 0, e) := by
  constructor
  · unfold encode
    rw [h, if_pos he]
  · unfold pprog
    rw [h, if_pos he]
theorem sizes_lens {lo hi : Int} {nd : Nat} {ts : List (Int × Int)} (h : lo < 0 ∨ hi < lo ∨ 65535 < hi) : sizes lo hi nd ts = 121 := by
  unfold sizes
  rw [if_pos h]
theorem sizes_table {lo hi : Int} {nd : Nat} {ts : List (Int × Int)} (h0 : 0 ≤ lo) (h1 : lo ≤ hi) (h2 : hi ≤ 65535) (t : Int × Int) (h : wrongB t = true) : sizes lo hi nd (ts ++ [t]) = 122 := by
  unfold sizes
  rw [if_neg (by omega), if_pos]
  right
  rw [List.any_append]
  simp [h]
theorem sizes_data {lo hi : Int} {nd nd' : Nat} {ts : List (Int × Int)} (h : sizes lo hi nd ts = 0) (h' : 4096 < nd') : sizes lo hi nd' ts = 123 := by
  obtain ⟨h1, h2, h3, h4, h5, h6⟩ := sizes_ok h
  unfold sizes
  rw [if_neg (by omega), if_neg (by rintro (e | e); omega; rw [h5] at e; cases e), if_pos h']
theorem right_data {v : Int} (h0 : 0 ≤ v) (h1 : v ≤ 2147483647) : Cd.right ⟨21, false, false, 0, 0, 0, 0, v⟩ = 0 := by
  have hf : Cd.formed ⟨21, false, false, 0, 0, 0, 0, v⟩ = true := rfl
  have hd : Cd.usesDst ⟨21, false, false, 0, 0, 0, 0, v⟩ = true := rfl
  have hs : Cd.usesSrc ⟨21, false, false, 0, 0, 0, 0, v⟩ = false := rfl
  have ho : Cd.usesOff ⟨21, false, false, 0, 0, 0, 0, v⟩ = false := rfl
  have hi : Cd.usesImm ⟨21, false, false, 0, 0, 0, 0, v⟩ = true := rfl
  have hm : Cd.immFits ⟨21, false, false, 0, 0, 0, 0, v⟩ = true := by
    unfold Cd.immFits
    dsimp only
    rw [if_neg (by decide), if_neg (by omega), if_neg (by decide), if_neg (by decide), if_neg (by decide), if_pos rfl]
    simpa using h0
  have hr : Cd.isReg 0 (Cd.writesDst 21) = true := rfl
  unfold Cd.right
  rw [hf, hd, hs, ho, hi, hm]
  dsimp only
  rw [hr]
  simp
theorem beyond {p : P} (h : (pcheck p).2 = 0) (hl : p.code.length < 4096) (y : Int) (h0 : 0 ≤ y) (h1 : y ≤ 65535) :
    pcheck { p with code := p.code ++ [⟨21, false, false, 0, 0, 0, 0, (p.data.length : Int) + 1 + y⟩] } = (p.code.length, 123) ∧
    pof { p with code := p.code ++ [⟨21, false, false, 0, 0, 0, 0, (p.data.length : Int) + 1 + y⟩] } = (C0, p.code.length, 123) := by
  obtain ⟨c1, c2, c3, c4, c5, c6⟩ := check_fine h
  obtain ⟨s1, s2, s3, s4, s5, s6⟩ := sizes_ok c2
  have hr : Cd.AllRight (p.code ++ [⟨21, false, false, 0, 0, 0, 0, (p.data.length : Int) + 1 + y⟩]) := by
    refine Cd.AllRight.append c3 ?_
    intro z hz
    simp only [List.mem_singleton] at hz
    subst hz
    exact right_data (by omega) (by omega)
  have hre : reaches (p.code ++ [⟨21, false, false, 0, 0, 0, 0, (p.data.length : Int) + 1 + y⟩]) p.data.length = some p.code.length := by
    unfold reaches at c6 ⊢
    rw [List.findIdx?_append, c6]
    have : reachB p.data.length ⟨21, false, false, 0, 0, 0, 0, (p.data.length : Int) + 1 + y⟩ = true := by
      unfold reachB
      simp
      omega
    simp [List.findIdx?_cons, this]
  have h1 : pcheck { p with code := p.code ++ [⟨21, false, false, 0, 0, 0, 0, (p.data.length : Int) + 1 + y⟩] } = (p.code.length, 123) := by
    unfold pcheck
    dsimp only
    rw [if_neg (by simpa using c2), Cd.check_zero hr (by simp; omega), if_neg (by simp), if_neg (by simp), hre]
  refine ⟨h1, ?_⟩
  unfold pof
  rw [h1, if_pos (show (123 : Int) ≠ 0 by decide)]
theorem none_law {p : P} (h : (pcheck p).2 = 0) : pprog ⟨p.lo, p.hi, p.data, p.ts, []⟩ = (P0, 0, 26) := by
  obtain ⟨c1, c2, c3, c4, c5, c6⟩ := check_fine h
  have hd : Cd.decode [] = ([], 0, 0) := rfl
  unfold pprog
  dsimp only
  rw [if_neg (by simpa using c2), hd, if_neg (by decide), if_pos rfl]

end Go.Proofs.Ytfcbedkidjclhaa.Pk
