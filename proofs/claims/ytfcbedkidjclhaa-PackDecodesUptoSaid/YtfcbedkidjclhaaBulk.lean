/-
  What the bound of an '..UptoSaid' gives: how long the lists that come in are.
  No condition beyond those each statement names.
-/
import Derived.Test.YtfcbedkidjclhaaRow
import Derived.Deep.CondSized
namespace Go.Proofs.Ytfcbedkidjclhaa.Bulk
open Go.RowKit
set_option maxRecDepth 100000
set_option linter.unusedSimpArgs false
set_option linter.unusedVariables false

theorem one_le {H : Type} (d : DataW H) : 1 ≤ Rows.uptoBulk d := by
  cases d with
  | lit l => cases l <;> simp [Rows.uptoBulk]
  | nil => simp [Rows.uptoBulk]
  | ptr d => simp [Rows.uptoBulk]
  | slice elems spare => simp [Rows.uptoBulk]
  | agg parts => simp [Rows.uptoBulk]
  | iface t d => simp [Rows.uptoBulk]
  | map entries => simp [Rows.uptoBulk]
  | held h => simp [Rows.uptoBulk]
theorem length_le {H : Type} (l : List (DataW H)) : l.length ≤ Rows.uptoBulkAll l := by
  induction l with
  | nil => simp [Rows.uptoBulkAll]
  | cons x r ih => have := one_le x; simp only [Rows.uptoBulkAll, List.length_cons]; omega
theorem part_le {H : Type} {d : DataW H} {l : List (DataW H)} (h : d ∈ l) : Rows.uptoBulk d ≤ Rows.uptoBulkAll l := by
  induction l with
  | nil => cases h
  | cons x r ih =>
    simp only [Rows.uptoBulkAll]
    cases List.mem_cons.1 h with
    | inl e => subst e; omega
    | inr e => have := ih e; omega
theorem bound {H : Type} {l : List (DataW H)} (hk : Rows.uptoSmall H l = true) : Rows.uptoBulkAll l ≤ 1048576 := of_decide_eq_true hk

/-- the elements of a type's slices, as far down as it goes -/
def Fine (P : Program) (M : Nat) : Nat → TypeId → Bool
  | 0, _ => false
  | f + 1, t => match P.underlying t with
    | some (.slice e) => decide (P.bytesOf e ≤ M) && Fine P M f e
    | some (.struct fs) => fs.toList.all fun x => Fine P M f x.type
    | some (.array _ e) => Fine P M f e
    | some (.pointer e) => Fine P M f e
    | some (.map _ _) => false
    | _ => true

mutual
theorem weights_le {H : Type} {P : Program} {M : Nat} (hM : 1 ≤ M) : ∀ (d : DataW H) (f : Nat) (t : TypeId), Fine P M f t = true → ∀ q ∈ DataW.weights P t d, q ≤ M * Rows.uptoBulk d
  | .lit l, _, _, _ => fun q hq => by
    cases l <;> simp [DataW.weights] at hq
    subst hq
    simp only [Rows.uptoBulk]
    rename_i bytes
    have : 1 * (bytes.length + 1) ≤ M * (bytes.length + 1) := Nat.mul_le_mul_right _ hM
    omega
  | .nil, _, _, _ => fun q hq => by simp [DataW.weights] at hq
  | .held _, _, _, _ => fun q hq => by simp [DataW.weights] at hq
  | .iface _ _, _, _, _ => fun q hq => by simp [DataW.weights] at hq
  | .ptr d, f, t, h => fun q hq => by
    cases f with
    | zero => simp [Fine] at h
    | succ f =>
      simp only [DataW.weights] at hq
      simp only [Fine] at h
      cases hu : P.underlying t with
      | none => simp [hu] at hq
      | some u =>
        rw [hu] at hq h
        cases u <;> simp at hq
        rename_i e
        have := weights_le hM d f e h q hq
        simp only [Rows.uptoBulk]
        have h2 := Nat.mul_le_mul_left M (show Rows.uptoBulk d ≤ Rows.uptoBulk d + 1 by omega)
        omega
  | .map entries, f, t, h => fun q hq => by
    cases f with
    | zero => simp [Fine] at h
    | succ f =>
      simp only [DataW.weights] at hq
      simp only [Fine] at h
      cases hu : P.underlying t with
      | none => simp [hu] at hq
      | some u =>
        rw [hu] at hq h
        cases u <;> simp at hq h
  | .slice elems spare, f, t, h => fun q hq => by
    cases f with
    | zero => simp [Fine] at h
    | succ f =>
      simp only [DataW.weights] at hq
      simp only [Fine] at h
      cases hu : P.underlying t with
      | none => simp [hu] at hq
      | some u =>
        rw [hu] at hq h
        cases u <;> simp at hq
        rename_i e
        simp only [Bool.and_eq_true, decide_eq_true_eq] at h
        simp only [Rows.uptoBulk]
        have l1 := length_le elems
        have l2 := length_le spare
        rcases hq with rfl | hq | hq
        · have a1 := Nat.mul_le_mul (show elems.length + spare.length ≤ Rows.uptoBulkAll elems + Rows.uptoBulkAll spare + 1 by omega) h.1
          rw [Nat.mul_comm M]
          exact a1
        · have := weightsAll_le hM elems f e h.2 q hq
          have a1 := Nat.mul_le_mul_left M (show Rows.uptoBulkAll elems ≤ Rows.uptoBulkAll elems + Rows.uptoBulkAll spare + 1 by omega)
          omega
        · have := weightsAll_le hM spare f e h.2 q hq
          have a1 := Nat.mul_le_mul_left M (show Rows.uptoBulkAll spare ≤ Rows.uptoBulkAll elems + Rows.uptoBulkAll spare + 1 by omega)
          omega
  | .agg parts, f, t, h => fun q hq => by
    cases f with
    | zero => simp [Fine] at h
    | succ f =>
      simp only [DataW.weights] at hq
      simp only [Fine] at h
      cases hu : P.underlying t with
      | none => simp [hu] at hq
      | some u =>
        rw [hu] at hq h
        simp only [Rows.uptoBulk]
        have a1 := Nat.mul_le_mul_left M (show Rows.uptoBulkAll parts ≤ Rows.uptoBulkAll parts + 1 by omega)
        cases u <;> simp at hq
        · rename_i e
          have := weightsAll_le hM parts f e h q hq
          omega
        · rename_i fs
          have := weightsEach_le hM (fs.toList.map (·.type)) parts f (fun t ht => by
            obtain ⟨x, hx, rfl⟩ := List.mem_map.mp ht
            exact List.all_eq_true.mp h x hx) q (by simpa using hq)
          omega
theorem weightsAll_le {H : Type} {P : Program} {M : Nat} (hM : 1 ≤ M) : ∀ (l : List (DataW H)) (f : Nat) (t : TypeId), Fine P M f t = true → ∀ q ∈ DataW.weightsAll P t l, q ≤ M * Rows.uptoBulkAll l
  | [], _, _, _ => fun q hq => by simp [DataW.weightsAll] at hq
  | d :: r, f, t, h => fun q hq => by
    simp only [DataW.weightsAll, List.mem_append] at hq
    simp only [Rows.uptoBulkAll, Nat.mul_add]
    rcases hq with hq | hq
    · have := weights_le hM d f t h q hq; omega
    · have := weightsAll_le hM r f t h q hq; omega
theorem weightsEach_le {H : Type} {P : Program} {M : Nat} (hM : 1 ≤ M) : ∀ (ts : List TypeId) (l : List (DataW H)) (f : Nat), (∀ t ∈ ts, Fine P M f t = true) → ∀ q ∈ DataW.weightsEach P ts l, q ≤ M * Rows.uptoBulkAll l
  | [], _, _, _ => fun q hq => by simp [DataW.weightsEach] at hq
  | t :: ts, [], _, _ => fun q hq => by simp [DataW.weightsEach] at hq
  | t :: ts, d :: r, f, h => fun q hq => by
    simp only [DataW.weightsEach, List.mem_append] at hq
    simp only [Rows.uptoBulkAll, Nat.mul_add]
    rcases hq with hq | hq
    · have := weights_le hM d f t (h t List.mem_cons_self) q hq; omega
    · have := weightsEach_le hM ts r f (fun t ht => h t (List.mem_cons_of_mem _ ht)) q hq; omega
end

theorem fine22 : Fine Try.prog 80 4 22 = true := by kernel_rfl
theorem fine25 : Fine Try.prog 80 4 25 = true := by kernel_rfl
theorem fine90 : Fine Try.prog 80 4 90 = true := by kernel_rfl
theorem fine31 : Fine Try.prog 80 4 31 = true := by kernel_rfl
/-- what a handed-in datum's slices weigh -/
theorem small {H : Type} {l : List (DataW H)} (hk : Rows.uptoSmall H l = true) {d : DataW H} (hm : d ∈ l) {t : TypeId} (hf : Fine Try.prog 80 4 t = true) : ∀ q ∈ DataW.weights Try.prog t d, q ≤ 83886080 := fun q hq => by
  have h1 := weights_le (M := 80) (by omega) d 4 t hf q hq
  have h2 := part_le hm
  have h3 := bound hk
  omega

end Go.Proofs.Ytfcbedkidjclhaa.Bulk
