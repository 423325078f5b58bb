/-
  What is handed in, opened: bytes, tables, a container: as lists that can be read. And the row's last step where only blocks of before are kept.
  No condition beyond those of the given statement.
  Bytes that are handed in: their reach; and that they read as before where only new memory was made.
  No condition beyond those each statement names.
  Instructions that are handed in, opened: a list that can be read; and that they read as before where only new memory was made.
  No condition beyond those each statement names.
  Three things that keep what was handed out (a pile, a book, a ledger), and what is kept aside: they lie apart.
  Conditions: as named.
  The walk of CodeFresh: it answers true.
  Conditions: the texts and the lists can be read and take no more than 2^47 bytes each.
  Texts, and lists of instructions, that are handed in as rows of slices, opened; and that they read as before where only new memory was made.
  No condition beyond those each statement names.
  CodeFresh answers true of every texts and lists: what package code hands out is new memory, its spare room too.
  Conditions: none beyond those of the given statement.
-/
import Derived.Test.YtfcbedkidjclhaaBase
import Derived.Test.YtfcbedkidjclhaaRows
import Derived.Test.YtfcbedkidjclhaaChecked
import Derived.ProofKit
import Derived.SizedLaws
import Derived.Carry
import Derived.Deep.SlicePairs
import Derived.Lib.SmallJoins
import Derived.ChangeSame
import Derived.Test.YtfcbedkidjclhaaFacts
import Derived.Test.YtfcbedkidjclhaaCode6
import Derived.Test.YtfcbedkidjclhaaCodeL4
import Derived.Test.YtfcbedkidjclhaaFrG
import Derived.Test.YtfcbedkidjclhaaFrP
import Derived.Test.YtfcbedkidjclhaaRefL
import Derived.Test.YtfcbedkidjclhaaRef9
import Derived.Test.YtfcbedkidjclhaaPsize
import Derived.Test.YtfcbedkidjclhaaCode17
namespace Go.Proofs.Ytfcbedkidjclhaa
open Go.Joins Go.ChangeShapes Go.WideShapes Go.RowKit Go.Deep
set_option maxRecDepth 100000
set_option linter.unusedSimpArgs false
set_option linter.unusedVariables false

theorem Try.own : ownKnob Try.prog.godebug = none := by kernel_rfl
theorem Try.laidOut : laidOutB Try.prog = true := by kernel_rfl
theorem cells5 : Try.prog.cellsOf 5 = 1 := by kernel_rfl
theorem cells3 : Try.prog.cellsOf 3 = 1 := by kernel_rfl
theorem cells54 : Try.prog.cellsOf 54 = 2 := by kernel_rfl
theorem cells25 : Try.prog.cellsOf 25 = 5 := by kernel_rfl
theorem bytes5 : Try.prog.bytesOf 5 = 1 := by kernel_rfl
theorem bytes54 : Try.prog.bytesOf 54 = 16 := by kernel_rfl

section
variable {H : Type} {enc : TypeId × Value → H} {P : Program} {w : World} {base : Nat} {spare : Nat → Bool} {held : Bool}
theorem open_agg5 {r : Reach} {b0 : Nat} {t : TypeId} {f0 f1 f2 f3 f4 : Field} {v : Value} {d : DataW H} {p : List MemPlace} (hs : P.underlying t = some (.struct #[f0, f1, f2, f3, f4])) (hone : oneCellFields P #[f0, f1, f2, f3, f4] = true) (hC : P.cellsOf t = 5)
    (hv : Value.okWide P w r b0 t v) (h : DataW.Trod enc P w base spare held t v d p) :
    ∃ (v0 v1 v2 v3 v4 : Value) (y0 y1 y2 y3 y4 : DataW H × List MemPlace) (n : Nat), v = .agg #[v0, v1, v2, v3, v4] ∧ d = .agg [y0.1, y1.1, y2.1, y3.1, y4.1] ∧ p = y0.2 ++ (y1.2 ++ (y2.2 ++ (y3.2 ++ y4.2))) ∧
      DataW.trod enc P w base spare held n f0.type [v0] = some y0 ∧ DataW.trod enc P w base spare held n f1.type [v1] = some y1 ∧ DataW.trod enc P w base spare held n f2.type [v2] = some y2 ∧ DataW.trod enc P w base spare held n f3.type [v3] = some y3 ∧ DataW.trod enc P w base spare held n f4.type [v4] = some y4 := by
  obtain ⟨cs, rfl, hsz⟩ := okWide_struct hs hv
  obtain ⟨l⟩ := cs
  match l, hsz.trans hC with
  | [c0, c1, c2, c3, c4], _ =>
    obtain ⟨fuel, hf⟩ := h
    obtain ⟨xs, n, _, hx, _, hlen, hg⟩ := DataW.trod_struct hs hf
    obtain ⟨o0, k0⟩ := hone_of hone 0 f0 rfl
    obtain ⟨o1, k1⟩ := hone_of hone 1 f1 rfl
    obtain ⟨o2, k2⟩ := hone_of hone 2 f2 rfl
    obtain ⟨o3, k3⟩ := hone_of hone 3 f3 rfl
    obtain ⟨o4, k4⟩ := hone_of hone 4 f4 rfl
    match xs, hlen with
    | [y0, y1, y2, y3, y4], _ =>
      simp only [Prod.mk.injEq] at hx
      exact ⟨c0, c1, c2, c3, c4, y0, y1, y2, y3, y4, n, rfl, by simpa using hx.1, by simpa using hx.2, by simpa [Value.cells, o0, k0] using hg 0 f0 rfl, by simpa [Value.cells, o1, k1] using hg 1 f1 rfl, by simpa [Value.cells, o2, k2] using hg 2 f2 rfl, by simpa [Value.cells, o3, k3] using hg 3 f3 rfl, by simpa [Value.cells, o4, k4] using hg 4 f4 rfl⟩
theorem post_of_below {f : Func} {s : ChangeSpec} {apart fresh handsOn again : Bool} {W W' : World} {args : Array Value} {v : Value} {ds gs : List (DataW H)} {before pa pv : List MemPlace}
    (hW : DataW.Whole enc P f.params.toList s.vars apart W args.toList ds gs before)
    (hres : ∀ (b : Nat) (sp : Nat → Bool) (hd : Bool), DataW.TrodAll enc P W' b sp hd f.resultTypes.toList (v.resultList f.resultTypes.size) (s.fn H (ds ++ gs)).results [])
    (hargs : ∀ sp : Nat → Bool, (∀ p ∈ before, sp p.block = true) → DataW.TrodAll enc P W' 0 sp true f.params.toList args.toList (s.fn H (ds ++ gs)).args pa)
    (hvars : ∀ sp : Nat → Bool, (∀ p ∈ before, sp p.block = true) → DataW.TrodVars enc P W' sp s.vars (s.fn H (ds ++ gs)).vars pv)
    (hps : before = pa ++ pv) (hb : Below W.heap.size W W')
    (hok : ∀ (j : Nat) (t : TypeId) (r : Value), f.resultTypes[j]? = some t → (v.resultList f.resultTypes.size)[j]? = some r → Value.okWide P W' .any 0 t r) :
    s.post enc P f apart fresh handsOn again W args v W' := by
  have hlt : ∀ p ∈ before, p.block < W.heap.size := fun p hp => hW.lt p hp
  have hold : ∀ p ∈ before, (fun b => decide (b < W.heap.size)) p.block = true := fun p hp => by simpa using hlt p hp
  refine ⟨ds, gs, before, [], pa, pv, hW, hres _ _ _, hargs _ hold, hvars _ hold, World.keptBut_mono (fun p hp => ⟨hp, ?_⟩) (hb.frame (· ∈ before)), fun _ => ?_⟩
  · rw [hps, List.mem_append] at hp
    exact Or.inr hp
  · obtain ⟨_, _, _, _, _, hz, hn⟩ := hW
    refine ⟨hok, _, _, ([] ++ pa) ++ pv, ⟨[] ++ pa, pv, trodAll_append (hargs _ (fun _ _ => rfl)) (hres _ _ _), hvars _ (fun _ _ => rfl), rfl, ?_, ?_⟩, ?_⟩
    · intro b off hp
      have hin : MemPlace.cell b off ∈ before := by rw [hps]; simpa using hp
      rw [hb.frozen (hlt _ hin)]
      exact hz b off hin
    · intro ha
      have := hn ha
      rw [hps] at this
      simpa using this
    · intro p hp _
      rw [hps]
      simpa using hp
end

section
variable {H : Type} {enc : TypeId × Value → H} {W : World} {base : Nat} {sp : Nat → Bool} {held : Bool}

theorem open_bytes {fuel : Nat} {v : Value} {x : DataW H × List MemPlace} (h : DataW.trod enc Try.prog W base sp held fuel 22 [v] = some x) :
    ∃ A n c bs, v = .slice A n c ∧ n ≤ c ∧ Rd W 1 A n (bv bs) ∧ ∀ m, (∀ q ∈ DataW.weights Try.prog 22 x.1, q ≤ m) → n ≤ m := by
  rcases open_ints Try.underlying22 Try.underlying5 cells5 h with ⟨h1, h2⟩ | ⟨a, len, cap, zs, h1, hb, hl, hm, hz, hx, hc, hw⟩
  · simp only [List.cons.injEq, and_true] at h1
    exact ⟨none, 0, 0, [], h1, Nat.le_refl _, Rd.nil_, fun _ _ => Nat.zero_le _⟩
  · simp only [List.cons.injEq, and_true] at h1
    have hlz : len ≤ zs.length := by rw [hz]; split <;> omega
    refine ⟨some a, len, cap, (zs.take len).map fun z => UInt8.ofNat z.toNat, h1, hl, ⟨by simp [bv_length]; omega, fun _ => ⟨a, rfl, fun j u hj => ?_⟩⟩, fun m hq => ?_⟩
    · have hjl : j < len := by
        have := (List.getElem?_eq_some_iff.1 hj).1
        simp [bv_length] at this
        omega
      have hj2 : j < zs.length := by omega
      rw [bv_get _ j (by simp; omega)] at hj
      injection hj with hj
      rw [← hj, hc j hj2]
      have hwz := hw (zs[j]) (List.getElem_mem _)
      simp only [Lit.wf, Bool.and_eq_true, decide_eq_true_eq] at hwz
      have e1 : zs.getD j 0 = zs[j] := by simp [List.getD, hj2]
      rw [e1]
      simp only [List.getElem_map, List.getElem_take, Option.some.injEq, Value.int.injEq, true_and]
      have h0 : 0 ≤ zs[j] ∧ zs[j] < 256 := by
        have a1 : IntKind.min .u8 = 0 := by decide
        have a2 : IntKind.max .u8 = 255 := by decide
        rw [a1, a2] at hwz
        omega
      rw [UInt8.toNat_ofNat_of_lt' (by simp [UInt8.size]; omega)]
      omega
    · rw [hx] at hq
      have := hq _ (by simp only [DataW.weights, Try.underlying22]; exact List.mem_cons_self)
      rw [bytes5] at this
      simp only [lits, List.length_map, List.length_take, List.length_drop] at this
      omega

theorem open_tabs {fuel : Nat} {v : Value} {x : DataW H × List MemPlace} (h : DataW.trod enc Try.prog W base sp held fuel 23 [v] = some x) :
    ∃ A n c ts, v = .slice A n c ∧ n ≤ c ∧ Rd W 2 A n (tv ts) ∧ ∀ m, (∀ q ∈ DataW.weights Try.prog 23 x.1, q ≤ m) → n * 16 ≤ m := by
  rcases open_slice_pairs Try.underlying23 Try.underlying54 cells54 rfl rfl cells3 cells3 h with ⟨h1, h2⟩ | ⟨a, len, cap, m, n, V0, V1, D0, D1, P0, P1, h1, hb, hl, hm, hmm, hx, hi⟩
  · simp only [List.cons.injEq, and_true] at h1
    exact ⟨none, 0, 0, [], h1, Nat.le_refl _, Rd.nil_, fun _ _ => by omega⟩
  · simp only [List.cons.injEq, and_true] at h1
    have hlm : len ≤ m := by rw [hmm]; split <;> omega
    have hv : ∀ i, i < m → V0 i = .int .i64 (intOf (V0 i)) ∧ V1 i = .int .i64 (intOf (V1 i)) := by
      intro i him
      obtain ⟨_, _, t0, t1⟩ := hi i him
      obtain ⟨z0, e0, _, _⟩ := DataW.trod_int Try.underlying3 t0
      obtain ⟨z1, e1, _, _⟩ := DataW.trod_int Try.underlying3 t1
      simp only [List.cons.injEq, and_true] at e0 e1
      rw [e0, e1]
      exact ⟨rfl, rfl⟩
    have htl : ((List.range len).map fun i => (intOf (V0 i), intOf (V1 i))).length = len := by simp
    refine ⟨some a, len, cap, (List.range len).map fun i => (intOf (V0 i), intOf (V1 i)), h1, hl, ⟨by rw [tv_length, htl], fun _ => ⟨a, rfl, fun j u hj => ?_⟩⟩, fun q hq => ?_⟩
    · have hjl : j < len * 2 := by
        have := (List.getElem?_eq_some_iff.1 hj).1
        rw [tv_length, htl] at this
        exact this
      have hk : j / 2 < len := by omega
      obtain ⟨c0, c1, _, _⟩ := hi (j / 2) (by omega)
      obtain ⟨v0, v1⟩ := hv (j / 2) (by omega)
      rcases (by omega : j = j / 2 * 2 ∨ j = j / 2 * 2 + 1) with e | e
      · rw [e, tv_get0 _ (j / 2) (by rw [htl]; exact hk)] at hj
        rw [e, c0, v0, ← hj]
        simp
      · rw [e, tv_get1 _ (j / 2) (by rw [htl]; exact hk)] at hj
        rw [e, c1, v1, ← hj]
        simp
    · rw [hx] at hq
      have := hq _ (by simp only [DataW.weights, Try.underlying23]; exact List.mem_cons_self)
      rw [bytes54] at this
      simp only [List.length_map, List.length_range] at this
      omega

/-- a container that is handed in -/
theorem open_pack {r : Reach} {b0 : Nat} {v : Value} {d : DataW H} {p : List MemPlace} (hv : Value.okWide Try.prog W r b0 25 v) (h : DataW.Trod enc Try.prog W base sp held 25 v d p) :
    ∃ lo hi A1 n1 c1 A2 n2 c2 A3 n3 c3 data ts code, v = .agg #[.int .i64 lo, .int .i64 hi, .slice A1 n1 c1, .slice A2 n2 c2, .slice A3 n3 c3] ∧ n1 ≤ c1 ∧ n2 ≤ c2 ∧ n3 ≤ c3 ∧ Rd W 1 A1 n1 (bv data) ∧ Rd W 2 A2 n2 (tv ts) ∧ Rd W 1 A3 n3 (bv code) ∧
      ∀ m, (∀ q ∈ DataW.weights Try.prog 25 d, q ≤ m) → n1 ≤ m ∧ n2 * 16 ≤ m ∧ n3 ≤ m := by
  obtain ⟨v0, v1, v2, v3, v4, y0, y1, y2, y3, y4, n, rfl, rfl, rfl, t0, t1, t2, t3, t4⟩ := open_agg5 Try.underlying25 (by kernel_rfl) cells25 hv h
  obtain ⟨lo, e0, _, _⟩ := DataW.trod_int Try.underlying3 t0
  obtain ⟨hi, e1, _, _⟩ := DataW.trod_int Try.underlying3 t1
  simp only [List.cons.injEq, and_true] at e0 e1
  subst e0 e1
  obtain ⟨A1, n1, c1, data, rfl, l1, r1, m1⟩ := open_bytes t2
  obtain ⟨A2, n2, c2, ts, rfl, l2, r2, m2⟩ := open_tabs t3
  obtain ⟨A3, n3, c3, code, rfl, l3, r3, m3⟩ := open_bytes t4
  refine ⟨lo, hi, A1, n1, c1, A2, n2, c2, A3, n3, c3, data, ts, code, rfl, l1, l2, l3, r1, r2, r3, fun m hm => ?_⟩
  simp only [DataW.weights, Try.underlying25, DataW.weightsEach, List.map_cons, List.map_nil, List.append_nil, List.mem_append] at hm
  exact ⟨m1 m fun q hq => hm q (by simp [hq]), m2 m fun q hq => hm q (by simp [hq]), m3 m fun q hq => hm q (by simp [hq])⟩
end
end Go.Proofs.Ytfcbedkidjclhaa
namespace Go.Proofs.Ytfcbedkidjclhaa
open Go.ChangeShapes Go.WideShapes Go.ChangeAt Go.RowKit
set_option maxRecDepth 100000
set_option linter.unusedSimpArgs false
set_option linter.unusedVariables false

theorem reach_ty {H : Type} {ts : List TypeId} {ds : List (DataW H)} (h : (DataW.weightsEach Try.prog ts ds).all (· ≤ reachBytes) = true) {j : Nat} {t : TypeId} {d : DataW H} (ht : ts[j]? = some t) (hd : ds[j]? = some d) :
    ∀ q ∈ DataW.weights Try.prog t d, q ≤ 140737488351232 := fun q hq => by
  have := List.all_eq_true.1 h _ (DataW.weights_mem_each ht hd q hq)
  have h2 := of_decide_eq_true this
  simpa [reachBytes] using h2

theorem stays22 {H : Type} {enc : TypeId × Value → H} {W W' : World} {sp : Nat → Bool} {v : Value} {d : DataW H} {ps : List MemPlace} (hX : Ext W W') (h : DataW.Trod enc Try.prog W 0 (fun _ => true) true 22 v d ps)
    (hlt : ∀ x ∈ ps, x.block < W.heap.size) (hsp : ∀ x ∈ ps, sp x.block = true) : DataW.Trod enc Try.prog W' 0 sp true 22 v d ps :=
  WideElems.Trod_stays Try.laidOut (by kernel_rfl) (by decide +kernel) h (fun x hx => Below.same hX (hlt x hx)) hsp

end Go.Proofs.Ytfcbedkidjclhaa
namespace Go.Proofs.Ytfcbedkidjclhaa
open Go.Joins Go.ChangeShapes Go.WideShapes Go.ChangeAt Go.RowKit Go.Deep
set_option maxRecDepth 100000
set_option linter.unusedSimpArgs false
set_option linter.unusedVariables false

theorem cells64 : Try.prog.cellsOf 64 = 8 := by kernel_rfl
theorem cells4 : Try.prog.cellsOf 4 = 1 := by kernel_rfl
theorem bytes64 : Try.prog.bytesOf 64 = 56 := by kernel_rfl

theorem stays57 {H : Type} {enc : TypeId × Value → H} {W W' : World} {sp : Nat → Bool} {v : Value} {d : DataW H} {ps : List MemPlace} (hX : Ext W W') (h : DataW.Trod enc Try.prog W 0 (fun _ => true) true 57 v d ps)
    (hlt : ∀ x ∈ ps, x.block < W.heap.size) (hsp : ∀ x ∈ ps, sp x.block = true) : DataW.Trod enc Try.prog W' 0 sp true 57 v d ps :=
  WideElems.Trod_stays Try.laidOut (by kernel_rfl) (by decide +kernel) h (fun x hx => Below.same hX (hlt x hx)) hsp

section
variable {H : Type} {enc : TypeId × Value → H} {W : World} {base : Nat} {sp : Nat → Bool} {held : Bool}

theorem wf_i64 {z : Int} (h : (Lit.int .i64 z).wf = true) : -9223372036854775808 ≤ z ∧ z < 9223372036854775808 := by
  simp only [Lit.wf, Bool.and_eq_true, decide_eq_true_eq] at h
  have a1 : IntKind.min .i64 = -9223372036854775808 := by decide
  have a2 : IntKind.max .i64 = 9223372036854775807 := by decide
  rw [a1, a2] at h
  omega

/-- one instruction's cells -/
theorem open_ins {fuel : Nat} {cs : List Value} {x : DataW H × List MemPlace} (hl : cs.length = 8) (h : DataW.trod enc Try.prog W base sp held fuel 64 cs = some x) : ∃ i : Cd.Ins, cs = (insC i).toList ∧ Cd.InR i := by
  obtain ⟨xs, k, _, _, _, hxl, hf⟩ := DataW.trod_struct Try.underlying64 h
  match cs, hl with
  | [v0, v1, v2, v3, v4, v5, v6, v7], _ =>
    match xs, hxl with
    | [y0, y1, y2, y3, y4, y5, y6, y7], _ =>
      have g0 := hf 0 _ rfl
      have g1 := hf 1 _ rfl
      have g2 := hf 2 _ rfl
      have g3 := hf 3 _ rfl
      have g4 := hf 4 _ rfl
      have g5 := hf 5 _ rfl
      have g6 := hf 6 _ rfl
      have g7 := hf 7 _ rfl
      simp [cells3, cells4] at g0 g1 g2 g3 g4 g5 g6 g7
      obtain ⟨z0, e0, _, w0⟩ := DataW.trod_int Try.underlying3 g0
      obtain ⟨b1, e1, _⟩ := DataW.trod_bool Try.underlying4 g1
      obtain ⟨b2, e2, _⟩ := DataW.trod_bool Try.underlying4 g2
      obtain ⟨z3, e3, _, w3⟩ := DataW.trod_int Try.underlying3 g3
      obtain ⟨z4, e4, _, w4⟩ := DataW.trod_int Try.underlying3 g4
      obtain ⟨z5, e5, _, w5⟩ := DataW.trod_int Try.underlying3 g5
      obtain ⟨z6, e6, _, w6⟩ := DataW.trod_int Try.underlying3 g6
      obtain ⟨z7, e7, _, w7⟩ := DataW.trod_int Try.underlying3 g7
      simp only [List.cons.injEq, and_true] at e0 e1 e2 e3 e4 e5 e6 e7
      subst e0 e1 e2 e3 e4 e5 e6 e7
      exact ⟨⟨z0, b1, b2, z3, z4, z5, z6, z7⟩, rfl, wf_i64 w7⟩

theorem open_code {fuel : Nat} {v : Value} {x : DataW H × List MemPlace} (h : DataW.trod enc Try.prog W base sp held fuel 57 [v] = some x) :
    ∃ A n c l, v = .slice A n c ∧ n ≤ c ∧ Rd W 8 A n (cv l) ∧ Cd.AllIn l ∧ ∀ m, (∀ q ∈ DataW.weights Try.prog 57 x.1, q ≤ m) → n * 56 ≤ m := by
  rcases open_slice Try.underlying57 h with ⟨h1, h2⟩ | ⟨a, len, cap, m, n, D, Pl, h1, hb, hl, hm, hmm, hx, hi⟩
  · simp only [List.cons.injEq, and_true] at h1
    exact ⟨none, 0, 0, [], h1, Nat.le_refl _, Rd.nil_, fun x hx => (by cases hx), fun _ _ => by omega⟩
  · simp only [List.cons.injEq, and_true] at h1
    have hlm : len ≤ m := by rw [hmm]; split <;> omega
    have each : ∀ i, i < len → ∃ q : Cd.Ins, (∀ j u, (insC q)[j]? = some u → W.cell? (a.add (i * 8 + j)) = some u) ∧ Cd.InR q := by
      intro i hil
      obtain ⟨cs', c1, c2⟩ := hi i (by omega)
      rw [cells64] at c1
      obtain ⟨_, hlen, hcell⟩ := World.cells?_some c1
      obtain ⟨q, hq, hr⟩ := open_ins hlen c2
      refine ⟨q, fun j u hu => ?_, hr⟩
      have hj : j < 8 := by
        have := (Array.getElem?_eq_some_iff.1 hu).1
        simpa [insC] using this
      have := hcell j (by omega)
      rw [add_add'] at this
      rw [this]
      simp only [hq]
      simpa using hu
    letI : Inhabited Cd.Ins := ⟨Cd.I0⟩
    obtain ⟨q, hq⟩ := choose_lt each
    have hql : ((List.range len).map q).length = len := by simp
    refine ⟨some a, len, cap, (List.range len).map q, h1, hl, ⟨by rw [cv_length, hql], fun _ => ⟨a, rfl, fun j u hj => ?_⟩⟩, fun y hy => ?_, fun mm hmm2 => ?_⟩
    · have hjl : j < len * 8 := by
        have := (List.getElem?_eq_some_iff.1 hj).1
        rw [cv_length, hql] at this
        exact this
      have hj8 : j = j / 8 * 8 + j % 8 := by omega
      have hk : j / 8 < len := by omega
      rw [hj8, cv_get _ (j / 8) (j % 8) (by rw [hql]; exact hk) (by omega)] at hj
      simp only [List.getElem_map, List.getElem_range] at hj
      rw [hj8]
      exact (hq (j / 8) hk).1 (j % 8) u hj
    · obtain ⟨i, hi2, rfl⟩ := List.mem_map.1 hy
      exact (hq i (List.mem_range.1 hi2)).2
    · rw [hx] at hmm2
      have := hmm2 _ (by simp only [DataW.weights, Try.underlying57]; exact List.mem_cons_self)
      rw [bytes64] at this
      simp only [List.length_map, List.length_range] at this
      omega
end
end Go.Proofs.Ytfcbedkidjclhaa
namespace Go.Proofs.Ytfcbedkidjclhaa
open Go.RowKit
set_option maxRecDepth 100000
set_option linter.unusedSimpArgs false
set_option linter.unusedVariables false

structure Tri (w W : World) (K : Nat → Prop) (g1 g2 g3 c1 c2 c3 : Nat) (S1 S2 S3 : Nat → Prop) : Prop where
  ext : Ext w W
  b1 : Pl.BookOk W S1 g1 c1
  b2 : BookOk W S2 g2 c2
  b3 : Lg.BookOk W S3 g3 c3
  l1 : ∀ b, S1 b → w.heap.size ≤ b ∧ b < W.heap.size
  l2 : ∀ b, S2 b → w.heap.size ≤ b ∧ b < W.heap.size
  l3 : ∀ b, S3 b → w.heap.size ≤ b ∧ b < W.heap.size
  d12 : ∀ b, S1 b → ¬ S2 b
  d13 : ∀ b, S1 b → ¬ S3 b
  d23 : ∀ b, S2 b → ¬ S3 b
  k : ∀ b, K b → b < W.heap.size ∧ ¬ S1 b ∧ ¬ S2 b ∧ ¬ S3 b

section
variable {w W W1 W2 : World} {K K' : Nat → Prop} {g1 g2 g3 c1 c2 c3 : Nat} {S1 S2 S3 : Nat → Prop}
theorem Tri.mem (h : Tri w W K g1 g2 g3 c1 c2 c3 S1 S2 S3) (k : Ext W W1) : Tri w W1 K g1 g2 g3 c1 c2 c3 S1 S2 S3 := by
  have hs := k.size
  refine ⟨h.ext.trans k, h.b1.ext k, h.b2.ext k, h.b3.ext k, fun b hb => ?_, fun b hb => ?_, fun b hb => ?_, h.d12, h.d13, h.d23, fun b hb => ?_⟩
  · have := h.l1 b hb; exact ⟨this.1, by omega⟩
  · have := h.l2 b hb; exact ⟨this.1, by omega⟩
  · have := h.l3 b hb; exact ⟨this.1, by omega⟩
  · have := h.k b hb; exact ⟨by omega, this.2⟩
theorem Tri.less (h : Tri w W K g1 g2 g3 c1 c2 c3 S1 S2 S3) (hK : ∀ b, K' b → K b) : Tri w W K' g1 g2 g3 c1 c2 c3 S1 S2 S3 :=
  ⟨h.ext, h.b1, h.b2, h.b3, h.l1, h.l2, h.l3, h.d12, h.d13, h.d23, fun b hb => h.k b (hK b hb)⟩
/-- what lies in new memory is apart from all -/
def Frs (w W : World) (K S1 S2 S3 : Nat → Prop) (v : Value) : Prop := ∀ b, v.ownBlock = some b → w.heap.size ≤ b ∧ b < W.heap.size ∧ ¬ K b ∧ ¬ S1 b ∧ ¬ S2 b ∧ ¬ S3 b
theorem Tri.fresh (h : Tri w W K g1 g2 g3 c1 c2 c3 S1 S2 S3) {e : TypeId} {sz n : Nat} {v : Value} {xs : List Value} (own : W1.ownsRow W.heap.size e sz v n xs) : Frs w W1 K S1 S2 S3 v := by
  intro b hb
  have h1 := own.lt b hb
  have h2 := h.ext.size
  refine ⟨by omega, h1.2, fun e => ?_, fun e => ?_, fun e => ?_, fun e => ?_⟩
  · have := (h.k b e).1; omega
  · have := (h.l1 b e).2; omega
  · have := (h.l2 b e).2; omega
  · have := (h.l3 b e).2; omega
theorem Frs.ext {v : Value} (h : Frs w W K S1 S2 S3 v) (k : Ext W W1) : Frs w W1 K S1 S2 S3 v := fun b hb => by
  have := h b hb
  have hs := k.size
  exact ⟨this.1, by omega, this.2.2⟩
/-- more is kept aside -/
theorem Tri.more (h : Tri w W K g1 g2 g3 c1 c2 c3 S1 S2 S3) {v : Value} (f : Frs w W K S1 S2 S3 v) : Tri w W (fun b => K b ∨ v.ownBlock = some b) g1 g2 g3 c1 c2 c3 S1 S2 S3 :=
  ⟨h.ext, h.b1, h.b2, h.b3, h.l1, h.l2, h.l3, h.d12, h.d13, h.d23, fun b hb => hb.elim (h.k b) fun e => ⟨(f b e).2.1, (f b e).2.2.2⟩⟩
/-- what is kept aside stands -/
theorem Tri.stays {e : TypeId} {sz n : Nat} {v : Value} {xs : List Value} (own : W.ownsRow 0 e sz v n xs) (k : Kp (fun b => ¬ K b) W W2) (hv : ∀ b, v.ownBlock = some b → K b) : W2.ownsRow 0 e sz v n xs :=
  k.own own fun b hb hn => hn (hv b hb)

theorem Tri.own1 (h : Tri w W K g1 g2 g3 c1 c2 c3 S1 S2 S3) {v : Value} (f : Frs w W K S1 S2 S3 v) {e : Ending} (hO : Pl.OwnPost W S1 v g1 c1 e W2) :
    e = .returned (.bool true) ∧ (∃ S1', Tri w W2 K g1 g2 g3 (c1 + 1) c2 c3 S1' S2 S3) ∧ Kp (fun b => ¬ K b) W W2 := by
  obtain ⟨he, S1', hb, hl, hk⟩ := hO
  have hsz := hk.size
  have hw := h.ext.size
  have far : ∀ b, S1' b → b < W.heap.size → S1 b ∨ v.ownBlock = some b := fun b hb hlt => by
    rcases (hl b hb).1 with e | e | e
    · exact .inl e
    · exact .inr e
    · omega
  refine ⟨he, ⟨S1', hk.ext h.ext ?_, hb, h.b2.keep hk ?_, h.b3.keep hk ?_, ?_, ?_, ?_, ?_, ?_, h.d23, ?_⟩, ?_⟩
  · rintro b (e | e)
    · exact (h.l1 b e).1
    · exact (f b e).1
  · rintro b e (e2 | e2)
    · exact h.d12 b e2 e
    · exact (f b e2).2.2.2.2.1 e
  · rintro b e (e2 | e2)
    · exact h.d13 b e2 e
    · exact (f b e2).2.2.2.2.2 e
  · intro b hb
    refine ⟨?_, (hl b hb).2⟩
    rcases (hl b hb).1 with e | e | e
    · exact (h.l1 b e).1
    · exact (f b e).1
    · omega
  · intro b e; have := h.l2 b e; exact ⟨this.1, by omega⟩
  · intro b e; have := h.l3 b e; exact ⟨this.1, by omega⟩
  · intro b hb e
    rcases far b hb (h.l2 b e).2 with e2 | e2
    · exact h.d12 b e2 e
    · exact (f b e2).2.2.2.2.1 e
  · intro b hb e
    rcases far b hb (h.l3 b e).2 with e2 | e2
    · exact h.d13 b e2 e
    · exact (f b e2).2.2.2.2.2 e
  · intro b e
    have := h.k b e
    refine ⟨by omega, fun hb => ?_, this.2.2⟩
    rcases far b hb this.1 with e2 | e2
    · exact this.2.1 e2
    · exact (f b e2).2.2.1 e
  · refine hk.mono fun b _ e hK => ?_
    rcases e with e | e
    · exact (h.k b hK).2.1 e
    · exact (f b e).2.2.1 hK
theorem Tri.own2 (h : Tri w W K g1 g2 g3 c1 c2 c3 S1 S2 S3) {v : Value} (f : Frs w W K S1 S2 S3 v) {e : Ending} (hO : OwnPost W S2 v g2 c2 e W2) :
    e = .returned (.bool true) ∧ (∃ S2', Tri w W2 K g1 g2 g3 c1 (c2 + 1) c3 S1 S2' S3) ∧ Kp (fun b => ¬ K b) W W2 := by
  obtain ⟨he, S2', hb, hl, hk⟩ := hO
  have hsz := hk.size
  have hw := h.ext.size
  have far : ∀ b, S2' b → b < W.heap.size → S2 b ∨ v.ownBlock = some b := fun b hb hlt => by
    rcases (hl b hb).1 with e | e | e
    · exact .inl e
    · exact .inr e
    · omega
  refine ⟨he, ⟨S2', hk.ext h.ext ?_, h.b1.keep hk ?_, hb, h.b3.keep hk ?_, ?_, ?_, ?_, ?_, h.d13, ?_, ?_⟩, ?_⟩
  · rintro b (e | e)
    · exact (h.l2 b e).1
    · exact (f b e).1
  · rintro b e (e2 | e2)
    · exact h.d12 b e e2
    · exact (f b e2).2.2.2.1 e
  · rintro b e (e2 | e2)
    · exact h.d23 b e2 e
    · exact (f b e2).2.2.2.2.2 e
  · intro b e; have := h.l1 b e; exact ⟨this.1, by omega⟩
  · intro b hb
    refine ⟨?_, (hl b hb).2⟩
    rcases (hl b hb).1 with e | e | e
    · exact (h.l2 b e).1
    · exact (f b e).1
    · omega
  · intro b e; have := h.l3 b e; exact ⟨this.1, by omega⟩
  · intro b e hb
    rcases far b hb (h.l1 b e).2 with e2 | e2
    · exact h.d12 b e e2
    · exact (f b e2).2.2.2.1 e
  · intro b hb e
    rcases far b hb (h.l3 b e).2 with e2 | e2
    · exact h.d23 b e2 e
    · exact (f b e2).2.2.2.2.2 e
  · intro b e
    have := h.k b e
    refine ⟨by omega, this.2.1, fun hb => ?_, this.2.2.2⟩
    rcases far b hb this.1 with e2 | e2
    · exact this.2.2.1 e2
    · exact (f b e2).2.2.1 e
  · refine hk.mono fun b _ e hK => ?_
    rcases e with e | e
    · exact (h.k b hK).2.2.1 e
    · exact (f b e).2.2.1 hK
theorem Tri.own3 (h : Tri w W K g1 g2 g3 c1 c2 c3 S1 S2 S3) {v : Value} (f : Frs w W K S1 S2 S3 v) {e : Ending} (hO : Lg.OwnPost W S3 v g3 c3 e W2) :
    e = .returned (.bool true) ∧ (∃ S3', Tri w W2 K g1 g2 g3 c1 c2 (c3 + 1) S1 S2 S3') ∧ Kp (fun b => ¬ K b) W W2 := by
  obtain ⟨he, S3', hb, hl, hk⟩ := hO
  have hsz := hk.size
  have hw := h.ext.size
  have far : ∀ b, S3' b → b < W.heap.size → S3 b ∨ v.ownBlock = some b := fun b hb hlt => by
    rcases (hl b hb).1 with e | e | e
    · exact .inl e
    · exact .inr e
    · omega
  refine ⟨he, ⟨S3', hk.ext h.ext ?_, h.b1.keep hk ?_, h.b2.keep hk ?_, hb, ?_, ?_, ?_, h.d12, ?_, ?_, ?_⟩, ?_⟩
  · rintro b (e | e)
    · exact (h.l3 b e).1
    · exact (f b e).1
  · rintro b e (e2 | e2)
    · exact h.d13 b e e2
    · exact (f b e2).2.2.2.1 e
  · rintro b e (e2 | e2)
    · exact h.d23 b e e2
    · exact (f b e2).2.2.2.2.1 e
  · intro b e; have := h.l1 b e; exact ⟨this.1, by omega⟩
  · intro b e; have := h.l2 b e; exact ⟨this.1, by omega⟩
  · intro b hb
    refine ⟨?_, (hl b hb).2⟩
    rcases (hl b hb).1 with e | e | e
    · exact (h.l3 b e).1
    · exact (f b e).1
    · omega
  · intro b e hb
    rcases far b hb (h.l1 b e).2 with e2 | e2
    · exact h.d13 b e e2
    · exact (f b e2).2.2.2.1 e
  · intro b e hb
    rcases far b hb (h.l2 b e).2 with e2 | e2
    · exact h.d23 b e e2
    · exact (f b e2).2.2.2.2.1 e
  · intro b e
    have := h.k b e
    refine ⟨by omega, this.2.1, this.2.2.1, fun hb => ?_⟩
    rcases far b hb this.1 with e2 | e2
    · exact this.2.2.2 e2
    · exact (f b e2).2.2.1 e
  · refine hk.mono fun b _ e hK => ?_
    rcases e with e | e
    · exact (h.k b hK).2.2.2 e
    · exact (f b e).2.2.1 hK
end

end Go.Proofs.Ytfcbedkidjclhaa
namespace Go.Proofs.Ytfcbedkidjclhaa
open Go.RowKit
set_option maxRecDepth 100000
set_option linter.unusedSimpArgs false
set_option linter.unusedVariables false

structure TX where
  A : Option Addr
  n : Nat
  c : Nat
  bs : List UInt8
def TX.v (x : TX) : Value := .slice x.A x.n x.c
structure LX where
  A : Option Addr
  n : Nat
  c : Nat
  l : List Cd.Ins
def LX.v (x : LX) : Value := .slice x.A x.n x.c

theorem encode_len (l : List Cd.Ins) : (Cd.encode l).1.length ≤ 1000000 := by
  by_cases h : (Cd.check l).2 = 0
  · obtain ⟨h1, h2⟩ := Cd.check_ok.mp h
    rw [Cd.encode_ok h1 h2]
    show (Cd.flat l).length ≤ _
    rw [Cd.flat_length]
    have := Pk.wid_le2 l
    omega
  · unfold Cd.encode
    rw [if_pos h]
    simp

def Ints (l : List Nat) : List Int := l.map fun (n : Nat) => (n : Int)

set_option maxHeartbeats 8000000 in
theorem CodeFresh_any (A1 A2 : Option Addr) (n1 n2 c1 c2 : Nat) (T : List TX) (L : List LX) (w : World) (h1 : Rd w 1 A1 n1 (T.map TX.v)) (h2 : Rd w 1 A2 n2 (L.map LX.v))
    (hT : ∀ x ∈ T, Rd w 1 x.A x.n (bv x.bs) ∧ x.n ≤ x.c ∧ x.n ≤ 281474976710656) (hL : ∀ x ∈ L, Rd w 8 x.A x.n (cv x.l) ∧ x.n * 56 ≤ 140737488355328) (hn1 : n1 ≤ 281474976710656) (hn2 : n2 ≤ 281474976710656) :
    Calls Try.prog 18 #[.slice A1 n1 c1, .slice A2 n2 c2] w fun e w' => e = .returned (.bool true) ∧ Ext w w' := by
  have HT := hd hT
  have HL := hd hL
  have hl1 : T.length = n1 := by have := h1.1; rw [List.length_map] at this; omega
  have hl2 : L.length = n2 := by have := h2.1; rw [List.length_map] at this; omega
  have HT1 := hd hl1
  have HL2 := hd hl2
  clear hT hL hl1 hl2
  go_enter Try.func18, Try.ntmps18
  go_upto_region 3 with (go_at_call 40; (with_reducible refine (known_any _).mono ?_); rintro e W0 ⟨rfl, hX0⟩)
  go_upto_region 4 with (fail)
  refine wp_world (fun W => Tri w W (fun _ => False) W0.heap.size (W0.heap.size + 1) (W0.heap.size + 2) 0 0 0 (fun b => b = W0.heap.size) (fun b => b = W0.heap.size + 1) (fun b => b = W0.heap.size + 2)) ?_ ?_
  · have hs := hX0.size
    refine ⟨((hX0.alloc _).alloc _).alloc _, Pl.BookOk.new (((Blk.new _ _ _).alloc _).alloc _), BookOk.new (by simpa using (Blk.new (W0.alloc _) 33 _).alloc _), Lg.BookOk.new (by simpa using Blk.new ((W0.alloc _).alloc _) 83 _), ?_, ?_, ?_, ?_, ?_, ?_, ?_⟩
    · rintro b rfl; simp; omega
    · rintro b rfl; simp; omega
    · rintro b rfl; simp; omega
    · rintro b rfl; omega
    · rintro b rfl; omega
    · rintro b rfl; omega
    · rintro b h; cases h
  generalize (fun b => b = W0.heap.size) = S10
  generalize (fun b => b = W0.heap.size + 1) = S20
  generalize (fun b => b = W0.heap.size + 2) = S30
  obtain ⟨g3, hg3⟩ : ∃ g, W0.heap.size + 2 = g := ⟨_, rfl⟩
  rw [hg3]
  clear hg3
  obtain ⟨g2, hg2⟩ : ∃ g, W0.heap.size + 1 = g := ⟨_, rfl⟩
  rw [hg2]
  clear hg2
  obtain ⟨g1, hg1⟩ : ∃ g, W0.heap.size = g := ⟨_, rfl⟩
  rw [hg1]
  clear hg1 hX0
  rintro W1 hTri
  go_wp2
  go_loopw [8, 9, 10, 11, 12, 13, 14, 15] (fun i _ _ _ _ _ _ _ wr => ∃ (k : Nat) (S1 S2 S3 : Nat → Prop), i = .int .i64 (k : Int) ∧ k ≤ 8 ∧ Tri w wr (fun _ => False) g1 g2 g3 (3 * k) 0 0 S1 S2 S3) (fun i _ _ _ _ _ _ _ _ => 8 - (intOf i).toNat)
  case atStart => exact ⟨0, _, _, _, rfl, by omega, hTri⟩
  case round =>
    obtain ⟨k, S1, S2, S3, rfl, hk, hTr⟩ := hrel
    clear hTri
    by_cases hlt : k < n1 ∧ k < 8
    · have e1 : (k : Int) < (n1 : Int) := by omega
      have e2 : (k : Int) < 8 := by omega
      have hkT : k < T.length := by have := HT1.out; omega
      obtain ⟨bT, oT, rfl, hcell⟩ := h1.form (by omega) (by omega)
      have pT0 := hcell k _ (by rw [List.getElem?_map, List.getElem?_eq_getElem hkT]; rfl)
      obtain ⟨ht1, ht2, ht3⟩ := HT.out T[k] (List.getElem_mem hkT)
      generalize T[k] = x at pT0 ht1 ht2 ht3
      obtain ⟨A, n, c, bs⟩ := x
      simp only [TX.v] at pT0 ht1 ht2 ht3
      obtain ⟨⟨dl, dp, de⟩, hD⟩ : ∃ D, Cd.decode bs = D := ⟨_, rfl⟩
      have hdl := decode_lenP hD
      have HD := hd hD
      clear hcell hD
      have pT := hTr.ext.cell pT0
      go_upto_region 8 with (go_at_call 43; (with_reducible refine (RDecode_any A n c bs _ (ht1.ext hTr.ext) ht2 ht3).mono ?_); rw [HD.out]; rintro e W2 ⟨B, m, d, hm, rfl, own2, hX2⟩)
      try simp only at hm own2
      subst hm
      have hTr2 := (hTr.mem hX2).more (hTr.fresh own2)
      have own2' := own_base own2 (Nat.zero_le _)
      clear hTr own2 hX2 pT
      go_wp2
      go_loopw [12, 13, 14, 15] (fun i _ _ _ wr => ∃ (j : Nat) (S1 S2 S3 : Nat → Prop), i = .int .i64 (j : Int) ∧ j ≤ 3 ∧ Tri w wr (fun b => False ∨ (Value.slice B dl.length d).ownBlock = some b) g1 g2 g3 (3 * k + j) 0 0 S1 S2 S3 ∧ wr.ownsRow 0 64 8 (.slice B dl.length d) dl.length (cv dl)) (fun i _ _ _ _ => 3 - (intOf i).toNat)
      case atStart => exact ⟨0, _, _, _, rfl, by omega, hTr2, own2'⟩
      case round =>
        obtain ⟨j, S1, S2, S3, rfl, hj, hTj, ownj⟩ := hrel
        clear hTr2 own2'
        by_cases hlj : j < 3
        · have e3 : (j : Int) < 3 := by omega
          have pTj := hTj.ext.cell pT0
          go_upto_region 12 with (go_at_call 42; (with_reducible refine (CDecode_any A n c bs _ (ht1.ext hTj.ext) ht2 ht3).mono ?_); rw [HD.out]; rintro e W3 ⟨B3, m3, d3, hm3, rfl, own3, hX3⟩)
          try simp only at hm3 own3
          subst hm3
          have hT3 := hTj.mem hX3
          have hF3 := hTj.fresh own3
          go_wp2_with (first | (go_at_call 44; (with_reducible refine (same_any B3 B dl.length dl.length d3 d dl dl _ (Rd.of_own own3) (Rd.of_own (hX3.own ownj)) (by omega) (by omega)).mono ?_); rintro e W4 ⟨r, hr, rfl, hX4⟩; obtain rfl : r = true := hr.mpr rfl) | (go_at_call 52; have Q0 := Pl.Own_any W4 S1 g1 (3 * k + j) B3 dl.length d3 dl (hT3.mem hX4).b1 (by omega) (own_base (hX4.own own3) (Nat.zero_le _)) (fun b hb => ((hF3.ext hX4) b hb).2.2.2.1) (by omega); (with_reducible refine Q0.mono ?_); intro e W5 hO; obtain ⟨rfl, ⟨S1', hT5⟩, hK5⟩ := (hT3.mem hX4).own1 (hF3.ext hX4) hO))
          go_roundw
          case rel => exact ⟨j + 1, S1', S2, S3, by go_num, by omega, hT5, Tri.stays ((hX3.trans hX4).own ownj) hK5 (fun b hb => .inr hb)⟩
          case measure => simp [intOf]; omega
        · obtain rfl : j = 3 := by omega
          have e3 : ¬ (3 : Int) < 3 := by omega
          go_wp2
          go_roundw
          case rel => exact ⟨k + 1, S1, S2, S3, by go_num, by omega, hTj.less (fun b h => h.elim)⟩
          case measure => simp [intOf]; omega
    · go_upto_region 5 with (fail)
      go_cut [41] from 34 to 41 (fun v W => v = .bool false ∧ W = wr)
      case first =>
        by_cases hc1 : k < n1
        · have e1 : (k : Int) < (n1 : Int) := by omega
          have e2 : ¬ (k : Int) < 8 := by omega
          go_wp2
          go_meet
          case rel => exact ⟨congrArg Value.bool (by first | rfl | (simp; omega)), rfl⟩
        · have e1 : ¬ (k : Int) < (n1 : Int) := by omega
          go_wp2
          go_meet
          case rel => exact ⟨congrArg Value.bool (by first | rfl | (simp; omega)), rfl⟩
      case rest =>
      obtain ⟨rfl, hwc⟩ := hcut
      rw [hwc]
      clear hwc hlt
      obtain ⟨cA, hcA⟩ : ∃ cA, 3 * k = cA := ⟨_, rfl⟩
      have hcA2 : cA ≤ 24 := by omega
      rw [hcA] at hTr
      clear hcA hk
      go_wp2
      go_loopw [16, 17, 18, 19, 20, 21, 22, 23, 24, 25] (fun i _ _ _ _ _ _ _ _ _ wr => ∃ (k : Nat) (S1 S2 S3 : Nat → Prop), i = .int .i64 (k : Int) ∧ k ≤ 8 ∧ Tri w wr (fun _ => False) g1 g2 g3 cA (3 * k) (3 * k) S1 S2 S3) (fun i _ _ _ _ _ _ _ _ _ _ => 8 - (intOf i).toNat)
      case atStart => exact ⟨0, _, _, _, rfl, by omega, hTr⟩
      case round =>
        obtain ⟨k, S1, S2, S3, rfl, hk, hTr⟩ := hrel
        by_cases hlt : k < n2 ∧ k < 8
        · have e1 : (k : Int) < (n2 : Int) := by omega
          have e2 : (k : Int) < 8 := by omega
          have hkT : k < L.length := by have := HL2.out; omega
          obtain ⟨bT, oT, rfl, hcell⟩ := h2.form (by omega) (by omega)
          have pT0 := hcell k _ (by rw [List.getElem?_map, List.getElem?_eq_getElem hkT]; rfl)
          obtain ⟨ht1, ht2⟩ := HL.out L[k] (List.getElem_mem hkT)
          generalize L[k] = x at pT0 ht1 ht2
          obtain ⟨A, n, c, l⟩ := x
          simp only [LX.v] at pT0 ht1 ht2
          have hel := encode_len l
          obtain ⟨⟨eb, ep, ee⟩, hE⟩ : ∃ E, Cd.encode l = E := ⟨_, rfl⟩
          rw [hE] at hel
          try simp only at hel
          have HE := hd hE
          clear hcell hE
          have pT := hTr.ext.cell pT0
          go_upto_region 18 with (go_at_call 53; (with_reducible refine (REncode_any A n c l _ (ht1.ext hTr.ext) ht2).mono ?_); rw [HE.out]; rintro e W2 ⟨Ae, ce, rfl, owne, hXe⟩)
          try simp only at owne
          have hTe := (hTr.mem hXe).more (hTr.fresh owne)
          have pTe := hTe.ext.cell pT0
          go_upto_region 19 with (go_at_call 54; (with_reducible refine (RUnits_any A n c l _ (ht1.ext hTe.ext) ht2).mono ?_); rintro e W3 ⟨Bu, du, rfl, ownu, hXu⟩)
          have hTu := (hTe.mem hXu).more (hTe.fresh ownu)
          have owne' := own_base (hXu.own owne) (Nat.zero_le _)
          have ownu' := own_base ownu (Nat.zero_le _)
          clear hTr hTe owne ownu hXe hXu pT pTe
          go_wp2
          go_loopw [21, 22, 23, 24, 25] (fun i _ _ _ _ wr => ∃ (j : Nat) (S1 S2 S3 : Nat → Prop), i = .int .i64 (j : Int) ∧ j ≤ 3 ∧ Tri w wr (fun b => (False ∨ (Value.slice Ae eb.length ce).ownBlock = some b) ∨ (Value.slice Bu (n + 1) du).ownBlock = some b) g1 g2 g3 cA (3 * k + j) (3 * k + j) S1 S2 S3 ∧ wr.ownsRow 0 5 1 (.slice Ae eb.length ce) eb.length (bv eb) ∧ wr.ownsRow 0 3 1 (.slice Bu (n + 1) du) (n + 1) (nv (Cd.units l))) (fun i _ _ _ _ _ => 3 - (intOf i).toNat)
          case atStart => exact ⟨0, _, _, _, rfl, by omega, hTu, owne', ownu'⟩
          case round =>
            obtain ⟨j, S1, S2, S3, rfl, hj, hTj, owne, ownu⟩ := hrel
            clear hTu owne' ownu'
            by_cases hlj : j < 3
            · have e3 : (j : Int) < 3 := by omega
              have pTj := hTj.ext.cell pT0
              go_upto_region 23 with (go_at_call 50; (with_reducible refine (CEncode_any A n c l _ (ht1.ext hTj.ext) ht2).mono ?_); rw [HE.out]; rintro e W4 ⟨A4, c4, rfl, own4, hX4⟩)
              try simp only at own4
              have hT4 := hTj.mem hX4
              have f4 := hTj.fresh own4
              have pT4 := hT4.ext.cell pT0
              go_upto_region 24 with (go_at_call 51; (with_reducible refine (Units_any A n c l _ (ht1.ext hT4.ext) ht2).mono ?_); rintro e W5 ⟨B5, d5, rfl, own5, hX5⟩)
              have f5 := hT4.fresh own5
              have hT5 := (hT4.mem hX5).more f5
              have f4K : Frs w W5 (fun b => ((False ∨ (Value.slice Ae eb.length ce).ownBlock = some b) ∨ (Value.slice Bu (n + 1) du).ownBlock = some b) ∨ (Value.slice B5 (n + 1) d5).ownBlock = some b) S1 S2 S3 (.slice A4 eb.length c4) := fun b hb => by
                have a := f4 b hb
                have hs := hX5.size
                refine ⟨a.1, by omega, fun e => e.elim a.2.2.1 fun e => ?_, a.2.2.2⟩
                have := (own5.lt b e).1
                omega
              have hu1 : Rd W5 1 B5 (n + 1) (iv (Ints (Cd.units l))) := Rd.of_own own5
              have hu2 : Rd W5 1 Bu (n + 1) (iv (Ints (Cd.units l))) := Rd.of_own ((hX4.trans hX5).own ownu)
              have hbb : (eb == eb) = true := beq_self_eq_true eb
              go_wp2_with (first | (go_at_call 45; (with_reducible refine (sameBytes_any A4 Ae eb.length eb.length c4 ce eb eb _ (Rd.of_own (hX5.own own4)) (Rd.of_own ((hX4.trans hX5).own owne))).mono ?_); rw [hbb]; rintro e v1 ⟨rfl, rfl⟩) | (go_at_call 55; (with_reducible refine (sameInts_any B5 Bu (n + 1) (n + 1) d5 du _ _ _ hu1 hu2 (by omega) (by omega)).mono ?_); rintro e W6 ⟨r, hr, rfl, hX6⟩; obtain rfl : r = true := hr.mpr rfl) | (go_at_call 34; have Q0 := Own_any W6 S2 g2 (3 * k + j) A4 eb.length c4 eb (hT5.mem hX6).b2 (by omega) (own_base ((hX5.trans hX6).own own4) (Nat.zero_le _)) (fun b hb => (f4K b hb).2.2.2.2.1) (by omega); (with_reducible refine Q0.mono ?_); intro e W7 hO; obtain ⟨rfl, ⟨S2', hT7⟩, hK7⟩ := (hT5.mem hX6).own2 (f4K.ext hX6) hO) | (go_at_call 56; have Q0 := Lg.Own_any W7 S3 g3 (3 * k + j) B5 (n + 1) d5 (Ints (Cd.units l)) hT7.b3 (by omega) (Tri.stays (own_base (hX6.own own5) (Nat.zero_le _)) hK7 (fun b hb => .inr hb)) (fun b hb => (f5 b hb).2.2.2.2.2) (by omega); (with_reducible refine Q0.mono ?_); intro e W8 hO8; obtain ⟨rfl, ⟨S3', hT8⟩, hK8⟩ := (hT7.less (fun b hb => .inl hb)).own3 (fun b hb => ⟨(f5 b hb).1, (hT7.k b (.inr hb)).1, (f5 b hb).2.2.1, (hT7.k b (.inr hb)).2⟩) hO8))
              go_roundw
              case rel => exact ⟨j + 1, S1, S2', S3', by go_num, by omega, hT8, Tri.stays (Tri.stays (((hX4.trans hX5).trans hX6).own owne) hK7 (fun b hb => .inl (.inl (.inr hb)))) hK8 (fun b hb => .inl (.inr hb)), Tri.stays (Tri.stays (((hX4.trans hX5).trans hX6).own ownu) hK7 (fun b hb => .inl (.inr hb))) hK8 (fun b hb => .inr hb)⟩
              case measure => simp [intOf]; omega
            · obtain rfl : j = 3 := by omega
              have e3 : ¬ (3 : Int) < 3 := by omega
              go_wp2
              go_roundw
              case rel => exact ⟨k + 1, S1, S2, S3, by go_num, by omega, hTj.less (fun b h => h.elim)⟩
              case measure => simp [intOf]; omega
        · go_upto_region 15 with (fail)
          go_cut [93] from 86 to 93 (fun v W => v = .bool false ∧ W = wr)
          case first =>
            by_cases hc1 : k < n2
            · have e1 : (k : Int) < (n2 : Int) := by omega
              have e2 : ¬ (k : Int) < 8 := by omega
              go_wp2
              go_meet
              case rel => exact ⟨congrArg Value.bool (by first | rfl | (simp; omega)), rfl⟩
            · have e1 : ¬ (k : Int) < (n2 : Int) := by omega
              go_wp2
              go_meet
              case rel => exact ⟨congrArg Value.bool (by first | rfl | (simp; omega)), rfl⟩
          case rest =>
          obtain ⟨rfl, hwc⟩ := hcut
          rw [hwc]
          clear hwc hlt
          go_wp2_with (first | (go_at_call 57; (with_reducible refine (Pl.Done_any _ S1 g1 cA hTr.b1 (by omega)).mono ?_); rintro e V1 ⟨rfl, k1⟩; have hb2 := hTr.b2.keep k1 (fun b e1 e2 => hTr.d12 b e2 e1); have hb3 := hTr.b3.keep k1 (fun b e1 e2 => hTr.d13 b e2 e1); have hV1 := k1.ext hTr.ext (fun b e => (hTr.l1 b e).1)) | (go_at_call 35; (with_reducible refine (Done_any _ S2 g2 (3 * k) hb2 (by omega)).mono ?_); rintro e V2 ⟨rfl, k2⟩; have hb3' := hb3.keep k2 (fun b e1 e2 => hTr.d23 b e2 e1); have hV2 := k2.ext hV1 (fun b e => (hTr.l2 b e).1)) | (go_at_call 58; (with_reducible refine (Lg.Done_any _ S3 g3 (3 * k) hb3' (by omega)).mono ?_); rintro e V3 ⟨rfl, k3⟩; have hV3 := k3.ext hV2 (fun b e => (hTr.l3 b e).1)))
          go_ret
          exact ⟨rfl, hV3⟩

end Go.Proofs.Ytfcbedkidjclhaa
namespace Go.Proofs.Ytfcbedkidjclhaa
open Go.Joins Go.ChangeShapes Go.WideShapes Go.ChangeAt Go.RowKit Go.Deep
set_option maxRecDepth 100000
set_option linter.unusedSimpArgs false
set_option linter.unusedVariables false

theorem cells22S : Try.prog.cellsOf 22 = 1 := by kernel_rfl
theorem cells57S : Try.prog.cellsOf 57 = 1 := by kernel_rfl
theorem bytes22S : Try.prog.bytesOf 22 = 24 := by kernel_rfl
theorem bytes57S : Try.prog.bytesOf 57 = 24 := by kernel_rfl
theorem stays30 {H : Type} {enc : TypeId × Value → H} {W W' : World} {sp : Nat → Bool} {v : Value} {d : DataW H} {ps : List MemPlace} (hX : Ext W W') (h : DataW.Trod enc Try.prog W 0 (fun _ => true) true 30 v d ps)
    (hlt : ∀ x ∈ ps, x.block < W.heap.size) (hsp : ∀ x ∈ ps, sp x.block = true) : DataW.Trod enc Try.prog W' 0 sp true 30 v d ps :=
  WideElems.Trod_stays Try.laidOut (by kernel_rfl) (by decide +kernel) h (fun x hx => Below.same hX (hlt x hx)) hsp
theorem stays76 {H : Type} {enc : TypeId × Value → H} {W W' : World} {sp : Nat → Bool} {v : Value} {d : DataW H} {ps : List MemPlace} (hX : Ext W W') (h : DataW.Trod enc Try.prog W 0 (fun _ => true) true 76 v d ps)
    (hlt : ∀ x ∈ ps, x.block < W.heap.size) (hsp : ∀ x ∈ ps, sp x.block = true) : DataW.Trod enc Try.prog W' 0 sp true 76 v d ps :=
  WideElems.Trod_stays Try.laidOut (by kernel_rfl) (by decide +kernel) h (fun x hx => Below.same hX (hlt x hx)) hsp

theorem weightsAll_mem {H : Type} {P : Program} {e : TypeId} : ∀ (l : List (DataW H)) {d : DataW H} {q : Nat}, d ∈ l → q ∈ DataW.weights P e d → q ∈ DataW.weightsAll P e l
  | [], _, _, hd, _ => by cases hd
  | x :: l, d, q, hd, hq => by
    rw [DataW.weightsAll]
    rcases List.mem_cons.1 hd with rfl | h
    · exact List.mem_append_left _ hq
    · exact List.mem_append_right _ (weightsAll_mem l h hq)

section
variable {H : Type} {enc : TypeId × Value → H} {W : World} {base : Nat} {sp : Nat → Bool} {held : Bool}
theorem open_texts {fuel : Nat} {v : Value} {x : DataW H × List MemPlace} (h : DataW.trod enc Try.prog W base sp held fuel 30 [v] = some x) :
    ∃ A n c T, v = .slice A n c ∧ n ≤ c ∧ Rd W 1 A n (List.map TX.v T) ∧ ∀ m, (∀ q ∈ DataW.weights Try.prog 30 x.1, q ≤ m) → n * 24 ≤ m ∧ ∀ y ∈ T, Rd W 1 y.A y.n (bv y.bs) ∧ y.n ≤ y.c ∧ y.n ≤ m := by
  rcases open_slice Try.underlying30 h with ⟨h1, h2⟩ | ⟨a, len, cap, m, n, D, Pl, h1, hb, hl, hm, hmm, hx, hi⟩
  · simp only [List.cons.injEq, and_true] at h1
    exact ⟨none, 0, 0, [], h1, Nat.le_refl _, Rd.nil_, fun _ _ => ⟨by omega, fun y hy => by cases hy⟩⟩
  · simp only [List.cons.injEq, and_true] at h1
    have hlm : len ≤ m := by rw [hmm]; split <;> omega
    have each : ∀ i, i < len → ∃ q : TX, W.cell? (a.add i) = some q.v ∧ Rd W 1 q.A q.n (bv q.bs) ∧ q.n ≤ q.c ∧ ∀ mm, (∀ z ∈ DataW.weights Try.prog 22 (D i), z ≤ mm) → q.n ≤ mm := by
      intro i hil
      obtain ⟨cs', e1, e2⟩ := hi i (by omega)
      rw [cells22S] at e1
      obtain ⟨_, hlen, hcell⟩ := World.cells?_some e1
      obtain ⟨u, rfl⟩ : ∃ u, cs' = [u] := List.length_eq_one_iff.1 hlen
      obtain ⟨A', n', c', bs, rfl, hc', hr, hm'⟩ := open_bytes e2
      refine ⟨⟨A', n', c', bs⟩, ?_, hr, hc', fun mm hmm => hm' mm hmm⟩
      have := hcell 0 (by omega)
      rw [add_add'] at this
      simpa [TX.v] using this
    letI : Inhabited TX := ⟨⟨none, 0, 0, []⟩⟩
    obtain ⟨q, hq⟩ := choose_lt each
    refine ⟨some a, len, cap, (List.range len).map q, h1, hl, ⟨by simp, fun _ => ⟨a, rfl, fun j u hj => ?_⟩⟩, fun mm hmm2 => ?_⟩
    · have hjl : j < len := by
        have := (List.getElem?_eq_some_iff.1 hj).1
        simpa using this
      have e := (hq j hjl).1
      rw [e]
      simpa [hjl] using hj
    · rw [hx] at hmm2
      refine ⟨?_, fun y hy => ?_⟩
      · have := hmm2 _ (by simp only [DataW.weights, Try.underlying30]; exact List.mem_cons_self)
        rw [bytes22S] at this
        simp only [List.length_map, List.length_range] at this
        omega
      · obtain ⟨i, hi2, rfl⟩ := List.mem_map.1 hy
        have hil := List.mem_range.1 hi2
        have hqi := hq i hil
        refine ⟨hqi.2.1, hqi.2.2.1, hqi.2.2.2 mm fun z hz => hmm2 z ?_⟩
        simp only [DataW.weights, Try.underlying30]
        exact List.mem_cons_of_mem _ (List.mem_append_left _ (weightsAll_mem _ (List.mem_map.2 ⟨i, hi2, rfl⟩) hz))
theorem open_codes {fuel : Nat} {v : Value} {x : DataW H × List MemPlace} (h : DataW.trod enc Try.prog W base sp held fuel 76 [v] = some x) :
    ∃ A n c T, v = .slice A n c ∧ n ≤ c ∧ Rd W 1 A n (List.map LX.v T) ∧ ∀ m, (∀ q ∈ DataW.weights Try.prog 76 x.1, q ≤ m) → n * 24 ≤ m ∧ ∀ y ∈ T, Rd W 8 y.A y.n (cv y.l) ∧ y.n * 56 ≤ m := by
  rcases open_slice Try.underlying76 h with ⟨h1, h2⟩ | ⟨a, len, cap, m, n, D, Pl, h1, hb, hl, hm, hmm, hx, hi⟩
  · simp only [List.cons.injEq, and_true] at h1
    exact ⟨none, 0, 0, [], h1, Nat.le_refl _, Rd.nil_, fun _ _ => ⟨by omega, fun y hy => by cases hy⟩⟩
  · simp only [List.cons.injEq, and_true] at h1
    have hlm : len ≤ m := by rw [hmm]; split <;> omega
    have each : ∀ i, i < len → ∃ q : LX, W.cell? (a.add i) = some q.v ∧ Rd W 8 q.A q.n (cv q.l) ∧ ∀ mm, (∀ z ∈ DataW.weights Try.prog 57 (D i), z ≤ mm) → q.n * 56 ≤ mm := by
      intro i hil
      obtain ⟨cs', e1, e2⟩ := hi i (by omega)
      rw [cells57S] at e1
      obtain ⟨_, hlen, hcell⟩ := World.cells?_some e1
      obtain ⟨u, rfl⟩ : ∃ u, cs' = [u] := List.length_eq_one_iff.1 hlen
      obtain ⟨A', n', c', l, rfl, hc', hr, _, hm'⟩ := open_code e2
      refine ⟨⟨A', n', c', l⟩, ?_, hr, fun mm hmm => hm' mm hmm⟩
      have := hcell 0 (by omega)
      rw [add_add'] at this
      simpa [LX.v] using this
    letI : Inhabited LX := ⟨⟨none, 0, 0, []⟩⟩
    obtain ⟨q, hq⟩ := choose_lt each
    refine ⟨some a, len, cap, (List.range len).map q, h1, hl, ⟨by simp, fun _ => ⟨a, rfl, fun j u hj => ?_⟩⟩, fun mm hmm2 => ?_⟩
    · have hjl : j < len := by
        have := (List.getElem?_eq_some_iff.1 hj).1
        simpa using this
      have e := (hq j hjl).1
      rw [e]
      simpa [hjl] using hj
    · rw [hx] at hmm2
      refine ⟨?_, fun y hy => ?_⟩
      · have := hmm2 _ (by simp only [DataW.weights, Try.underlying76]; exact List.mem_cons_self)
        rw [bytes57S] at this
        simp only [List.length_map, List.length_range] at this
        omega
      · obtain ⟨i, hi2, rfl⟩ := List.mem_map.1 hy
        have hil := List.mem_range.1 hi2
        have hqi := hq i hil
        refine ⟨hqi.2.1, hqi.2.2 mm fun z hz => hmm2 z ?_⟩
        simp only [DataW.weights, Try.underlying76]
        exact List.mem_cons_of_mem _ (List.mem_append_left _ (weightsAll_mem _ (List.mem_map.2 ⟨i, hi2, rfl⟩) hz))
end
end Go.Proofs.Ytfcbedkidjclhaa
namespace Go.Proofs.Ytfcbedkidjclhaa
open Go.ChangeShapes Go.WideShapes Go.ChangeAt Go.RowKit
set_option maxRecDepth 100000
set_option linter.unusedSimpArgs false
set_option linter.unusedVariables false

theorem codeFresh_lifted (os : Os) (started : os.Started) (H : Type) (enc : TypeId × Value → H) :
    ReturnsInHanded {} Try.checked os 18 .any (Rows.codeFreshSpec.pre6 enc Try.prog Try.f18 Rows.codeFreshRow.domain false) (Rows.codeFreshSpec.post enc Try.prog Try.f18 false true false false) := by
  refine returnsInHanded_of_change_sized (C := Try.checked) Try.own started (by kernel_rfl) Try.func18
    (ChangeSpec.witness6 (enc := enc) (C := Try.checked) false ⟨#[], #[.slice none 0 0, .slice none 0 0], []⟩ 8 (by kernel_rfl) (by kernel_rfl) (by kernel_rfl) (by kernel_rfl)) ?_
  intro W base args ds gs before hval0 hW hcnd hsz0 _
  have hval : ∀ (j : Nat) t v, Try.f18.params[j]? = some t → args[j]? = some v → Value.okWide Try.prog W .any base t v := hval0
  have hsz : (DataW.weightsEach Try.prog (Try.f18.params.toList ++ Rows.codeFreshSpec.plain.varTypes Try.prog) (ds ++ gs)).all (· ≤ reachBytes) = true := hsz0
  have hW' := hW
  obtain ⟨p, q, hA0, hV, rfl, hfz, hnd⟩ := hW
  have hA : DataW.TrodAll enc Try.prog W 0 (fun _ => true) true Try.f18.params.toList args.toList ds p := hA0
  rw [Try.params18] at hA hval hsz
  obtain ⟨v0, v1, d0, d1, p0, p1, rfl, rfl, rfl, h0, h1⟩ := trodAll_two hA
  obtain ⟨rfl, rfl⟩ := trodVars_none hV
  obtain ⟨fu0, hf0⟩ := id h0
  rw [show v0.cells.toList = [v0] by obtain ⟨_, _, _, hs⟩ := okWide_slice Try.underlying30 (hval 0 30 v0 rfl rfl); rw [hs]; rfl] at hf0
  obtain ⟨A, n, c, T, rfl, lc, rb, hm⟩ := open_texts hf0
  have mb := hm _ (reach_ty hsz (j := 0) rfl rfl)
  obtain ⟨fu1, hf1⟩ := id h1
  rw [show v1.cells.toList = [v1] by obtain ⟨_, _, _, hs⟩ := okWide_slice Try.underlying76 (hval 1 76 v1 rfl rfl); rw [hs]; rfl] at hf1
  obtain ⟨A', n', c', T', rfl, lc', rb', hm'⟩ := open_codes hf1
  have mb' := hm' _ (reach_ty hsz (j := 1) rfl rfl)
  clear hA0 hval0 hsz0
  simp only [List.append_nil] at hW'
  refine (CodeFresh_any A A' n n' c c' T T' W rb rb' (fun x hx => ⟨(mb.2 x hx).1, (mb.2 x hx).2.1, by have := (mb.2 x hx).2.2; omega⟩) (fun x hx => ⟨(mb'.2 x hx).1, by have := (mb'.2 x hx).2; omega⟩) (by have := mb.1; omega) (by have := mb'.1; omega)).mono fun e W' ⟨he, hX⟩ => ?_
  subst he
  have hlt := fun x hx => hW'.lt x hx
  exact ⟨_, rfl, post_of_below (pa := p0 ++ p1) (pv := []) hW' (fun _ _ _ => trodAll_mk1 (shut_bool Try.underlying4 true))
    (fun sp hsp => trodAll_mk2 (stays30 hX h0 (fun x hx => hlt x (by simp [hx])) (fun x hx => hsp x (by simp [hx]))) (stays76 hX h1 (fun x hx => hlt x (by simp [hx])) (fun x hx => hsp x (by simp [hx])))) (fun _ _ => rfl) (by simp)
    hX (ok_one (by kernel_rfl) rfl (okWide_bool_mk Try.underlying4 true))⟩

theorem codeFresh_facts : joinedFacts Try.prog 18 Try.f18 Rows.codeFreshSpec Rows.codeFreshRow = true := by
  unfold joinedFacts
  have h1 := mayEnter
  have h2 := liftsFinal
  have h3 := makeCut
  generalize Try.prog.mayEnter = a at h1 ⊢
  generalize Try.prog.liftsFinal = b at h2 ⊢
  generalize Try.prog.make = m at h3 ⊢
  subst h1 h2 h3
  refine Eq.trans ?_ (Eq.refl true)
  kernel_rfl

theorem codeFresh_holds : Rows.CodeFreshSaid :=
  OpenClaim.holds_of_wide 18 Try.f18 rfl rfl rfl rfl rfl rfl rfl ⟨rfl, rfl, rfl, rfl, rfl⟩ rfl rfl rfl rfl rfl (by kernel_rfl) Try.func18 codeFresh_facts
    (of_decide_eq_true (by kernel_rfl)) (by unfold Func.isWrapper; first | (rw [if_pos (by decide +kernel)]; kernel_rfl) | (rw [if_neg (by decide +kernel)]; exact ⟨rfl, rfl⟩))
    (fun os started H enc _ => codeFresh_lifted os started H enc)

end Go.Proofs.Ytfcbedkidjclhaa
