/-
  What package pack computes, in plain Lean: sums, numbers as bytes, sizes, containers as bytes and back. No program in sight.
  No condition: definitions and lemmas on lists and numbers.
-/
namespace Go.Proofs.Ytfcbedkidjclhaa.Pk

/-- a number's lowest byte -/
def byte (v : Int) : UInt8 := UInt8.ofNat (v % 256).toNat

theorem byte_toNat (v : Int) : ((byte v).toNat : Int) = v % 256 := by
  have h1 : 0 ≤ v % 256 := Int.emod_nonneg _ (by omega)
  have h2 : v % 256 < 256 := Int.emod_lt_of_pos _ (by omega)
  unfold byte
  rw [UInt8.toNat_ofNat_of_lt' (by simp [UInt8.size]; omega)]
  omega

/-- a number's lowest bytes, lowest first -/
def low : Nat → Int → List UInt8
  | 0, _ => []
  | n + 1, v => byte v :: low n (v / 256)

theorem low_step {s k : Nat} {v v' : Int} {don : List UInt8} (hk : k < s) (h : low s v = don ++ low (s - k) v') : low s v = (don ++ [byte v']) ++ low (s - (k + 1)) (v' / 256) := by
  have e : s - k = (s - (k + 1)) + 1 := by omega
  rw [e, low] at h
  rw [h]
  simp

/-- the number of some bytes, lowest first -/
def val : List UInt8 → Nat
  | [] => 0
  | b :: l => b.toNat + 256 * val l

/-- the sum of some bytes, from a beginning -/
def seed : Nat := 2166136261
def step (s : Nat) (b : UInt8) : Nat := ((s ^^^ b.toNat) * 16777619) % 4294967296
def sumFrom (s : Nat) (l : List UInt8) : Nat := l.foldl step s
def sum (l : List UInt8) : Nat := sumFrom seed l

theorem low_length : ∀ (n : Nat) (v : Int), (low n v).length = n
  | 0, _ => rfl
  | n + 1, v => by simp [low, low_length n]

theorem step_lt (s : Nat) (b : UInt8) : step s b < 4294967296 := by unfold step; exact Nat.mod_lt _ (by omega)
theorem sumFrom_lt (s : Nat) (hs : s < 4294967296) : ∀ l : List UInt8, sumFrom s l < 4294967296 := by
  intro l
  induction l generalizing s with
  | nil => exact hs
  | cons b l ih =>
    unfold sumFrom
    simp only [List.foldl_cons]
    exact ih _ (step_lt _ _)
theorem sum_lt (l : List UInt8) : sum l < 4294967296 := sumFrom_lt _ (by unfold seed; omega) l

theorem fold_snoc {α β : Type} (f : α → β → α) (s : α) (l : List β) (x : β) : (l ++ [x]).foldl f s = f (l.foldl f s) x := by simp
theorem sumFrom_snoc (s : Nat) (l : List UInt8) (x : UInt8) : sumFrom s (l ++ [x]) = step (sumFrom s l) x := fold_snoc step s l x
theorem sum_snoc (l : List UInt8) (x : UInt8) : sum (l ++ [x]) = step (sum l) x := sumFrom_snoc seed l x
theorem sum_step (l : List UInt8) (k : Nat) (h : k < l.length) : sum (l.take (k + 1)) = step (sum (l.take k)) l[k] :=
  (congrArg sum (List.take_succ_eq_append_getElem h)).trans (sum_snoc _ _)

theorem val_lt : ∀ l : List UInt8, val l < 256 ^ l.length
  | [] => by simp [val]
  | b :: l => by
    have := val_lt l
    have := b.toNat_lt
    simp only [val, List.length_cons, Nat.pow_succ]
    omega

theorem val_small (l : List UInt8) (h : l.length ≤ 4) : val l < 4294967296 := by
  have h1 := val_lt l
  have h2 : 256 ^ l.length ≤ 256 ^ 4 := Nat.pow_le_pow_right (by omega) h
  omega
theorem val_drop (l : List UInt8) (j : Nat) (h : j < l.length) : val (l.drop j) = l[j].toNat + 256 * val (l.drop (j + 1)) := by
  rw [List.drop_eq_getElem_cons h, val]

def one (k : Int) (c : List UInt8) : List UInt8 := if c.length = 0 then [] else byte k :: (low 3 c.length ++ c)

/-- may a table not be so? -/
def wrongB (t : Int × Int) : Bool := decide (t.1 < 1) || decide (64 < t.1) || decide (t.2 < 1) || decide (64 < t.2)

/-- the error of the sizes -/
def sizes (lo hi : Int) (nd : Nat) (ts : List (Int × Int)) : Int :=
  if lo < 0 ∨ hi < lo ∨ 65535 < hi then 121
  else if 8 < ts.length ∨ ts.any wrongB = true then 122
  else if 4096 < nd then 123 else 0

def tabBytes (ts : List (Int × Int)) : List UInt8 := ts.flatMap fun t => [byte t.1, byte t.2]

def magic : List UInt8 := [87, 80, 75, 49]
def lens (lo hi : Int) : List UInt8 := low 2 lo ++ low 2 hi
def body (lo hi : Int) (data : List UInt8) (ts : List (Int × Int)) (code : List UInt8) : List UInt8 :=
  magic ++ one 1 (lens lo hi) ++ one 2 (tabBytes ts) ++ one 3 data ++ one 4 code
def bytes (lo hi : Int) (data : List UInt8) (ts : List (Int × Int)) (code : List UInt8) : List UInt8 :=
  body lo hi data ts code ++ low 4 (sum (body lo hi data ts code))

theorem lens_length (lo hi : Int) : (lens lo hi).length = 4 := by simp [lens, low_length]
theorem tab_snoc (ts : List (Int × Int)) (k : Nat) (h : k < ts.length) : tabBytes (ts.take (k + 1)) = tabBytes (ts.take k) ++ [byte ts[k].1, byte ts[k].2] := by
  rw [List.take_succ_eq_append_getElem h]
  simp only [tabBytes, List.flatMap_append, List.flatMap_cons, List.flatMap_nil, List.append_nil]
theorem tab_length (ts : List (Int × Int)) : (tabBytes ts).length = 2 * ts.length := by
  induction ts with
  | nil => rfl
  | cons a l ih => simp only [tabBytes, List.flatMap_cons, List.length_append, List.length_cons, List.length_nil] at ih ⊢; omega
/-- bytes, if they are not too many -/
def short (l : List UInt8) : List UInt8 × Int := if 131072 < l.length then ([], 2) else (l, 0)
/-- what Encode answers -/
def encode (lo hi : Int) (data : List UInt8) (ts : List (Int × Int)) (code : List UInt8) : List UInt8 × Int :=
  if sizes lo hi data.length ts ≠ 0 then ([], sizes lo hi data.length ts)
  else if 131072 < code.length then ([], 2)
  else short (bytes lo hi data ts code)

end Go.Proofs.Ytfcbedkidjclhaa.Pk
