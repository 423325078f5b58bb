/-
  Instructions that are handed in, opened: a list that can be read; and that they read as before where only new memory was made.
  No condition beyond those each statement names.
-/
import Derived.Test.YtfcbedkidjclhaaDoorRowB
import Derived.Test.YtfcbedkidjclhaaDoorCode6
import Derived.Test.YtfcbedkidjclhaaDoorCodeL4
namespace Go.Proofs.YtfcbedkidjclhaaDoor
open Go.Joins Go.ChangeShapes Go.WideShapes Go.ChangeAt Go.RowKit Go.Deep
set_option maxRecDepth 100000
set_option linter.unusedSimpArgs false
set_option linter.unusedVariables false

theorem cells64 : Tryd.prog.cellsOf 35 = 8 := by kernel_rfl
theorem cells4 : Tryd.prog.cellsOf 4 = 1 := by kernel_rfl
theorem bytes64 : Tryd.prog.bytesOf 35 = 56 := by kernel_rfl

theorem stays57 {H : Type} {enc : TypeId × Value → H} {W W' : World} {sp : Nat → Bool} {v : Value} {d : DataW H} {ps : List MemPlace} (hX : Ext W W') (h : DataW.Trod enc Tryd.prog W 0 (fun _ => true) true 22 v d ps)
    (hlt : ∀ x ∈ ps, x.block < W.heap.size) (hsp : ∀ x ∈ ps, sp x.block = true) : DataW.Trod enc Tryd.prog W' 0 sp true 22 v d ps :=
  WideElems.Trod_stays Tryd.laidOut (by kernel_rfl) (by decide +kernel) h (fun x hx => Below.same hX (hlt x hx)) hsp

section
variable {H : Type} {enc : TypeId × Value → H} {W : World} {base : Nat} {sp : Nat → Bool} {held : Bool}

theorem wf_i64 {z : Int} (h : (Lit.int .i64 z).wf = true) : -9223372036854775808 ≤ z ∧ z < 9223372036854775808 := by
  simp only [Lit.wf, Bool.and_eq_true, decide_eq_true_eq] at h
  have a1 : IntKind.min .i64 = -9223372036854775808 := by decide
  have a2 : IntKind.max .i64 = 9223372036854775807 := by decide
  rw [a1, a2] at h
  omega

/-- one instruction's cells -/
theorem open_ins {fuel : Nat} {cs : List Value} {x : DataW H × List MemPlace} (hl : cs.length = 8) (h : DataW.trod enc Tryd.prog W base sp held fuel 35 cs = some x) : ∃ i : Cd.Ins, cs = (insC i).toList ∧ Cd.InR i := by
  obtain ⟨xs, k, _, _, _, hxl, hf⟩ := DataW.trod_struct Tryd.underlying35 h
  match cs, hl with
  | [v0, v1, v2, v3, v4, v5, v6, v7], _ =>
    match xs, hxl with
    | [y0, y1, y2, y3, y4, y5, y6, y7], _ =>
      have g0 := hf 0 _ rfl
      have g1 := hf 1 _ rfl
      have g2 := hf 2 _ rfl
      have g3 := hf 3 _ rfl
      have g4 := hf 4 _ rfl
      have g5 := hf 5 _ rfl
      have g6 := hf 6 _ rfl
      have g7 := hf 7 _ rfl
      simp [cells3, cells4] at g0 g1 g2 g3 g4 g5 g6 g7
      obtain ⟨z0, e0, _, w0⟩ := DataW.trod_int Tryd.underlying3 g0
      obtain ⟨b1, e1, _⟩ := DataW.trod_bool Tryd.underlying4 g1
      obtain ⟨b2, e2, _⟩ := DataW.trod_bool Tryd.underlying4 g2
      obtain ⟨z3, e3, _, w3⟩ := DataW.trod_int Tryd.underlying3 g3
      obtain ⟨z4, e4, _, w4⟩ := DataW.trod_int Tryd.underlying3 g4
      obtain ⟨z5, e5, _, w5⟩ := DataW.trod_int Tryd.underlying3 g5
      obtain ⟨z6, e6, _, w6⟩ := DataW.trod_int Tryd.underlying3 g6
      obtain ⟨z7, e7, _, w7⟩ := DataW.trod_int Tryd.underlying3 g7
      simp only [List.cons.injEq, and_true] at e0 e1 e2 e3 e4 e5 e6 e7
      subst e0 e1 e2 e3 e4 e5 e6 e7
      exact ⟨⟨z0, b1, b2, z3, z4, z5, z6, z7⟩, rfl, wf_i64 w7⟩

theorem open_code {fuel : Nat} {v : Value} {x : DataW H × List MemPlace} (h : DataW.trod enc Tryd.prog W base sp held fuel 22 [v] = some x) :
    ∃ A n c l, v = .slice A n c ∧ n ≤ c ∧ Rd W 8 A n (cv l) ∧ Cd.AllIn l ∧ ∀ m, (∀ q ∈ DataW.weights Tryd.prog 22 x.1, q ≤ m) → n * 56 ≤ m := by
  rcases open_slice Tryd.underlying22 h with ⟨h1, h2⟩ | ⟨a, len, cap, m, n, D, Pl, h1, hb, hl, hm, hmm, hx, hi⟩
  · simp only [List.cons.injEq, and_true] at h1
    exact ⟨none, 0, 0, [], h1, Nat.le_refl _, Rd.nil_, fun x hx => (by cases hx), fun _ _ => by omega⟩
  · simp only [List.cons.injEq, and_true] at h1
    have hlm : len ≤ m := by rw [hmm]; split <;> omega
    have each : ∀ i, i < len → ∃ q : Cd.Ins, (∀ j u, (insC q)[j]? = some u → W.cell? (a.add (i * 8 + j)) = some u) ∧ Cd.InR q := by
      intro i hil
      obtain ⟨cs', c1, c2⟩ := hi i (by omega)
      rw [cells64] at c1
      obtain ⟨_, hlen, hcell⟩ := World.cells?_some c1
      obtain ⟨q, hq, hr⟩ := open_ins hlen c2
      refine ⟨q, fun j u hu => ?_, hr⟩
      have hj : j < 8 := by
        have := (Array.getElem?_eq_some_iff.1 hu).1
        simpa [insC] using this
      have := hcell j (by omega)
      rw [add_add'] at this
      rw [this]
      simp only [hq]
      simpa using hu
    letI : Inhabited Cd.Ins := ⟨Cd.I0⟩
    obtain ⟨q, hq⟩ := choose_lt each
    have hql : ((List.range len).map q).length = len := by simp
    refine ⟨some a, len, cap, (List.range len).map q, h1, hl, ⟨by rw [cv_length, hql], fun _ => ⟨a, rfl, fun j u hj => ?_⟩⟩, fun y hy => ?_, fun mm hmm2 => ?_⟩
    · have hjl : j < len * 8 := by
        have := (List.getElem?_eq_some_iff.1 hj).1
        rw [cv_length, hql] at this
        exact this
      have hj8 : j = j / 8 * 8 + j % 8 := by omega
      have hk : j / 8 < len := by omega
      rw [hj8, cv_get _ (j / 8) (j % 8) (by rw [hql]; exact hk) (by omega)] at hj
      simp only [List.getElem_map, List.getElem_range] at hj
      rw [hj8]
      exact (hq (j / 8) hk).1 (j % 8) u hj
    · obtain ⟨i, hi2, rfl⟩ := List.mem_map.1 hy
      exact (hq i (List.mem_range.1 hi2)).2
    · rw [hx] at hmm2
      have := hmm2 _ (by simp only [DataW.weights, Tryd.underlying22]; exact List.mem_cons_self)
      rw [bytes64] at this
      simp only [List.length_map, List.length_range] at this
      omega
end
end Go.Proofs.YtfcbedkidjclhaaDoor
