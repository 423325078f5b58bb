/-
  What is handed in, opened: bytes, tables, a container: as lists that can be read. And the row's last step where only blocks of before are kept.
  No condition beyond those of the given statement.
  Bytes that are handed in: their reach; and that they read as before where only new memory was made.
  No condition beyond those each statement names.
  Instructions that are handed in, opened: a list that can be read; and that they read as before where only new memory was made.
  No condition beyond those each statement names.
  A container that is handed in: its reach; and that it reads as before where only new memory was made.
  No condition beyond those each statement names.
  A program that is handed in, opened; and that it reads as before where only new memory was made.
  No condition beyond those each statement names.
  What the bound of an '..UptoSaid' gives: how long the lists that come in are.
  No condition beyond those each statement names.
  PackOfs answers true of every program of bulk at most 1048576: package pack makes the container, or tells the fault, that the document tells, Check likewise; the program stays and the container's lists are the caller's.
  Conditions: none beyond those of the given statement.
-/
import Derived.Test.YtfcbedkidjclhaaBase
import Derived.Test.YtfcbedkidjclhaaRows
import Derived.Test.YtfcbedkidjclhaaChecked
import Derived.ProofKit
import Derived.SizedLaws
import Derived.Carry
import Derived.Deep.SlicePairs
import Derived.Lib.SmallJoins
import Derived.ChangeSame
import Derived.Test.YtfcbedkidjclhaaFacts
import Derived.Test.YtfcbedkidjclhaaCode6
import Derived.Test.YtfcbedkidjclhaaCodeL4
import Derived.Deep.CondSized
import Derived.Test.YtfcbedkidjclhaaOfX
namespace Go.Proofs.Ytfcbedkidjclhaa
open Go.Joins Go.ChangeShapes Go.WideShapes Go.RowKit Go.Deep
set_option maxRecDepth 100000
set_option linter.unusedSimpArgs false
set_option linter.unusedVariables false

theorem Try.own : ownKnob Try.prog.godebug = none := by kernel_rfl
theorem Try.laidOut : laidOutB Try.prog = true := by kernel_rfl
theorem cells5 : Try.prog.cellsOf 5 = 1 := by kernel_rfl
theorem cells3 : Try.prog.cellsOf 3 = 1 := by kernel_rfl
theorem cells54 : Try.prog.cellsOf 54 = 2 := by kernel_rfl
theorem cells25 : Try.prog.cellsOf 25 = 5 := by kernel_rfl
theorem bytes5 : Try.prog.bytesOf 5 = 1 := by kernel_rfl
theorem bytes54 : Try.prog.bytesOf 54 = 16 := by kernel_rfl

section
variable {H : Type} {enc : TypeId × Value → H} {P : Program} {w : World} {base : Nat} {spare : Nat → Bool} {held : Bool}
theorem open_agg5 {r : Reach} {b0 : Nat} {t : TypeId} {f0 f1 f2 f3 f4 : Field} {v : Value} {d : DataW H} {p : List MemPlace} (hs : P.underlying t = some (.struct #[f0, f1, f2, f3, f4])) (hone : oneCellFields P #[f0, f1, f2, f3, f4] = true) (hC : P.cellsOf t = 5)
    (hv : Value.okWide P w r b0 t v) (h : DataW.Trod enc P w base spare held t v d p) :
    ∃ (v0 v1 v2 v3 v4 : Value) (y0 y1 y2 y3 y4 : DataW H × List MemPlace) (n : Nat), v = .agg #[v0, v1, v2, v3, v4] ∧ d = .agg [y0.1, y1.1, y2.1, y3.1, y4.1] ∧ p = y0.2 ++ (y1.2 ++ (y2.2 ++ (y3.2 ++ y4.2))) ∧
      DataW.trod enc P w base spare held n f0.type [v0] = some y0 ∧ DataW.trod enc P w base spare held n f1.type [v1] = some y1 ∧ DataW.trod enc P w base spare held n f2.type [v2] = some y2 ∧ DataW.trod enc P w base spare held n f3.type [v3] = some y3 ∧ DataW.trod enc P w base spare held n f4.type [v4] = some y4 := by
  obtain ⟨cs, rfl, hsz⟩ := okWide_struct hs hv
  obtain ⟨l⟩ := cs
  match l, hsz.trans hC with
  | [c0, c1, c2, c3, c4], _ =>
    obtain ⟨fuel, hf⟩ := h
    obtain ⟨xs, n, _, hx, _, hlen, hg⟩ := DataW.trod_struct hs hf
    obtain ⟨o0, k0⟩ := hone_of hone 0 f0 rfl
    obtain ⟨o1, k1⟩ := hone_of hone 1 f1 rfl
    obtain ⟨o2, k2⟩ := hone_of hone 2 f2 rfl
    obtain ⟨o3, k3⟩ := hone_of hone 3 f3 rfl
    obtain ⟨o4, k4⟩ := hone_of hone 4 f4 rfl
    match xs, hlen with
    | [y0, y1, y2, y3, y4], _ =>
      simp only [Prod.mk.injEq] at hx
      exact ⟨c0, c1, c2, c3, c4, y0, y1, y2, y3, y4, n, rfl, by simpa using hx.1, by simpa using hx.2, by simpa [Value.cells, o0, k0] using hg 0 f0 rfl, by simpa [Value.cells, o1, k1] using hg 1 f1 rfl, by simpa [Value.cells, o2, k2] using hg 2 f2 rfl, by simpa [Value.cells, o3, k3] using hg 3 f3 rfl, by simpa [Value.cells, o4, k4] using hg 4 f4 rfl⟩
theorem post_of_below {f : Func} {s : ChangeSpec} {apart fresh handsOn again : Bool} {W W' : World} {args : Array Value} {v : Value} {ds gs : List (DataW H)} {before pa pv : List MemPlace}
    (hW : DataW.Whole enc P f.params.toList s.vars apart W args.toList ds gs before)
    (hres : ∀ (b : Nat) (sp : Nat → Bool) (hd : Bool), DataW.TrodAll enc P W' b sp hd f.resultTypes.toList (v.resultList f.resultTypes.size) (s.fn H (ds ++ gs)).results [])
    (hargs : ∀ sp : Nat → Bool, (∀ p ∈ before, sp p.block = true) → DataW.TrodAll enc P W' 0 sp true f.params.toList args.toList (s.fn H (ds ++ gs)).args pa)
    (hvars : ∀ sp : Nat → Bool, (∀ p ∈ before, sp p.block = true) → DataW.TrodVars enc P W' sp s.vars (s.fn H (ds ++ gs)).vars pv)
    (hps : before = pa ++ pv) (hb : Below W.heap.size W W')
    (hok : ∀ (j : Nat) (t : TypeId) (r : Value), f.resultTypes[j]? = some t → (v.resultList f.resultTypes.size)[j]? = some r → Value.okWide P W' .any 0 t r) :
    s.post enc P f apart fresh handsOn again W args v W' := by
  have hlt : ∀ p ∈ before, p.block < W.heap.size := fun p hp => hW.lt p hp
  have hold : ∀ p ∈ before, (fun b => decide (b < W.heap.size)) p.block = true := fun p hp => by simpa using hlt p hp
  refine ⟨ds, gs, before, [], pa, pv, hW, hres _ _ _, hargs _ hold, hvars _ hold, World.keptBut_mono (fun p hp => ⟨hp, ?_⟩) (hb.frame (· ∈ before)), fun _ => ?_⟩
  · rw [hps, List.mem_append] at hp
    exact Or.inr hp
  · obtain ⟨_, _, _, _, _, hz, hn⟩ := hW
    refine ⟨hok, _, _, ([] ++ pa) ++ pv, ⟨[] ++ pa, pv, trodAll_append (hargs _ (fun _ _ => rfl)) (hres _ _ _), hvars _ (fun _ _ => rfl), rfl, ?_, ?_⟩, ?_⟩
    · intro b off hp
      have hin : MemPlace.cell b off ∈ before := by rw [hps]; simpa using hp
      rw [hb.frozen (hlt _ hin)]
      exact hz b off hin
    · intro ha
      have := hn ha
      rw [hps] at this
      simpa using this
    · intro p hp _
      rw [hps]
      simpa using hp
end

section
variable {H : Type} {enc : TypeId × Value → H} {W : World} {base : Nat} {sp : Nat → Bool} {held : Bool}

theorem open_bytes {fuel : Nat} {v : Value} {x : DataW H × List MemPlace} (h : DataW.trod enc Try.prog W base sp held fuel 22 [v] = some x) :
    ∃ A n c bs, v = .slice A n c ∧ n ≤ c ∧ Rd W 1 A n (bv bs) ∧ ∀ m, (∀ q ∈ DataW.weights Try.prog 22 x.1, q ≤ m) → n ≤ m := by
  rcases open_ints Try.underlying22 Try.underlying5 cells5 h with ⟨h1, h2⟩ | ⟨a, len, cap, zs, h1, hb, hl, hm, hz, hx, hc, hw⟩
  · simp only [List.cons.injEq, and_true] at h1
    exact ⟨none, 0, 0, [], h1, Nat.le_refl _, Rd.nil_, fun _ _ => Nat.zero_le _⟩
  · simp only [List.cons.injEq, and_true] at h1
    have hlz : len ≤ zs.length := by rw [hz]; split <;> omega
    refine ⟨some a, len, cap, (zs.take len).map fun z => UInt8.ofNat z.toNat, h1, hl, ⟨by simp [bv_length]; omega, fun _ => ⟨a, rfl, fun j u hj => ?_⟩⟩, fun m hq => ?_⟩
    · have hjl : j < len := by
        have := (List.getElem?_eq_some_iff.1 hj).1
        simp [bv_length] at this
        omega
      have hj2 : j < zs.length := by omega
      rw [bv_get _ j (by simp; omega)] at hj
      injection hj with hj
      rw [← hj, hc j hj2]
      have hwz := hw (zs[j]) (List.getElem_mem _)
      simp only [Lit.wf, Bool.and_eq_true, decide_eq_true_eq] at hwz
      have e1 : zs.getD j 0 = zs[j] := by simp [List.getD, hj2]
      rw [e1]
      simp only [List.getElem_map, List.getElem_take, Option.some.injEq, Value.int.injEq, true_and]
      have h0 : 0 ≤ zs[j] ∧ zs[j] < 256 := by
        have a1 : IntKind.min .u8 = 0 := by decide
        have a2 : IntKind.max .u8 = 255 := by decide
        rw [a1, a2] at hwz
        omega
      rw [UInt8.toNat_ofNat_of_lt' (by simp [UInt8.size]; omega)]
      omega
    · rw [hx] at hq
      have := hq _ (by simp only [DataW.weights, Try.underlying22]; exact List.mem_cons_self)
      rw [bytes5] at this
      simp only [lits, List.length_map, List.length_take, List.length_drop] at this
      omega

theorem open_tabs {fuel : Nat} {v : Value} {x : DataW H × List MemPlace} (h : DataW.trod enc Try.prog W base sp held fuel 23 [v] = some x) :
    ∃ A n c ts, v = .slice A n c ∧ n ≤ c ∧ Rd W 2 A n (tv ts) ∧ ∀ m, (∀ q ∈ DataW.weights Try.prog 23 x.1, q ≤ m) → n * 16 ≤ m := by
  rcases open_slice_pairs Try.underlying23 Try.underlying54 cells54 rfl rfl cells3 cells3 h with ⟨h1, h2⟩ | ⟨a, len, cap, m, n, V0, V1, D0, D1, P0, P1, h1, hb, hl, hm, hmm, hx, hi⟩
  · simp only [List.cons.injEq, and_true] at h1
    exact ⟨none, 0, 0, [], h1, Nat.le_refl _, Rd.nil_, fun _ _ => by omega⟩
  · simp only [List.cons.injEq, and_true] at h1
    have hlm : len ≤ m := by rw [hmm]; split <;> omega
    have hv : ∀ i, i < m → V0 i = .int .i64 (intOf (V0 i)) ∧ V1 i = .int .i64 (intOf (V1 i)) := by
      intro i him
      obtain ⟨_, _, t0, t1⟩ := hi i him
      obtain ⟨z0, e0, _, _⟩ := DataW.trod_int Try.underlying3 t0
      obtain ⟨z1, e1, _, _⟩ := DataW.trod_int Try.underlying3 t1
      simp only [List.cons.injEq, and_true] at e0 e1
      rw [e0, e1]
      exact ⟨rfl, rfl⟩
    have htl : ((List.range len).map fun i => (intOf (V0 i), intOf (V1 i))).length = len := by simp
    refine ⟨some a, len, cap, (List.range len).map fun i => (intOf (V0 i), intOf (V1 i)), h1, hl, ⟨by rw [tv_length, htl], fun _ => ⟨a, rfl, fun j u hj => ?_⟩⟩, fun q hq => ?_⟩
    · have hjl : j < len * 2 := by
        have := (List.getElem?_eq_some_iff.1 hj).1
        rw [tv_length, htl] at this
        exact this
      have hk : j / 2 < len := by omega
      obtain ⟨c0, c1, _, _⟩ := hi (j / 2) (by omega)
      obtain ⟨v0, v1⟩ := hv (j / 2) (by omega)
      rcases (by omega : j = j / 2 * 2 ∨ j = j / 2 * 2 + 1) with e | e
      · rw [e, tv_get0 _ (j / 2) (by rw [htl]; exact hk)] at hj
        rw [e, c0, v0, ← hj]
        simp
      · rw [e, tv_get1 _ (j / 2) (by rw [htl]; exact hk)] at hj
        rw [e, c1, v1, ← hj]
        simp
    · rw [hx] at hq
      have := hq _ (by simp only [DataW.weights, Try.underlying23]; exact List.mem_cons_self)
      rw [bytes54] at this
      simp only [List.length_map, List.length_range] at this
      omega

/-- a container that is handed in -/
theorem open_pack {r : Reach} {b0 : Nat} {v : Value} {d : DataW H} {p : List MemPlace} (hv : Value.okWide Try.prog W r b0 25 v) (h : DataW.Trod enc Try.prog W base sp held 25 v d p) :
    ∃ lo hi A1 n1 c1 A2 n2 c2 A3 n3 c3 data ts code, v = .agg #[.int .i64 lo, .int .i64 hi, .slice A1 n1 c1, .slice A2 n2 c2, .slice A3 n3 c3] ∧ n1 ≤ c1 ∧ n2 ≤ c2 ∧ n3 ≤ c3 ∧ Rd W 1 A1 n1 (bv data) ∧ Rd W 2 A2 n2 (tv ts) ∧ Rd W 1 A3 n3 (bv code) ∧
      ∀ m, (∀ q ∈ DataW.weights Try.prog 25 d, q ≤ m) → n1 ≤ m ∧ n2 * 16 ≤ m ∧ n3 ≤ m := by
  obtain ⟨v0, v1, v2, v3, v4, y0, y1, y2, y3, y4, n, rfl, rfl, rfl, t0, t1, t2, t3, t4⟩ := open_agg5 Try.underlying25 (by kernel_rfl) cells25 hv h
  obtain ⟨lo, e0, _, _⟩ := DataW.trod_int Try.underlying3 t0
  obtain ⟨hi, e1, _, _⟩ := DataW.trod_int Try.underlying3 t1
  simp only [List.cons.injEq, and_true] at e0 e1
  subst e0 e1
  obtain ⟨A1, n1, c1, data, rfl, l1, r1, m1⟩ := open_bytes t2
  obtain ⟨A2, n2, c2, ts, rfl, l2, r2, m2⟩ := open_tabs t3
  obtain ⟨A3, n3, c3, code, rfl, l3, r3, m3⟩ := open_bytes t4
  refine ⟨lo, hi, A1, n1, c1, A2, n2, c2, A3, n3, c3, data, ts, code, rfl, l1, l2, l3, r1, r2, r3, fun m hm => ?_⟩
  simp only [DataW.weights, Try.underlying25, DataW.weightsEach, List.map_cons, List.map_nil, List.append_nil, List.mem_append] at hm
  exact ⟨m1 m fun q hq => hm q (by simp [hq]), m2 m fun q hq => hm q (by simp [hq]), m3 m fun q hq => hm q (by simp [hq])⟩
end
end Go.Proofs.Ytfcbedkidjclhaa
namespace Go.Proofs.Ytfcbedkidjclhaa
open Go.ChangeShapes Go.WideShapes Go.ChangeAt Go.RowKit
set_option maxRecDepth 100000
set_option linter.unusedSimpArgs false
set_option linter.unusedVariables false

theorem reach_ty {H : Type} {ts : List TypeId} {ds : List (DataW H)} (h : (DataW.weightsEach Try.prog ts ds).all (· ≤ reachBytes) = true) {j : Nat} {t : TypeId} {d : DataW H} (ht : ts[j]? = some t) (hd : ds[j]? = some d) :
    ∀ q ∈ DataW.weights Try.prog t d, q ≤ 140737488351232 := fun q hq => by
  have := List.all_eq_true.1 h _ (DataW.weights_mem_each ht hd q hq)
  have h2 := of_decide_eq_true this
  simpa [reachBytes] using h2

theorem stays22 {H : Type} {enc : TypeId × Value → H} {W W' : World} {sp : Nat → Bool} {v : Value} {d : DataW H} {ps : List MemPlace} (hX : Ext W W') (h : DataW.Trod enc Try.prog W 0 (fun _ => true) true 22 v d ps)
    (hlt : ∀ x ∈ ps, x.block < W.heap.size) (hsp : ∀ x ∈ ps, sp x.block = true) : DataW.Trod enc Try.prog W' 0 sp true 22 v d ps :=
  WideElems.Trod_stays Try.laidOut (by kernel_rfl) (by decide +kernel) h (fun x hx => Below.same hX (hlt x hx)) hsp

end Go.Proofs.Ytfcbedkidjclhaa
namespace Go.Proofs.Ytfcbedkidjclhaa
open Go.Joins Go.ChangeShapes Go.WideShapes Go.ChangeAt Go.RowKit Go.Deep
set_option maxRecDepth 100000
set_option linter.unusedSimpArgs false
set_option linter.unusedVariables false

theorem cells64 : Try.prog.cellsOf 64 = 8 := by kernel_rfl
theorem cells4 : Try.prog.cellsOf 4 = 1 := by kernel_rfl
theorem bytes64 : Try.prog.bytesOf 64 = 56 := by kernel_rfl

theorem stays57 {H : Type} {enc : TypeId × Value → H} {W W' : World} {sp : Nat → Bool} {v : Value} {d : DataW H} {ps : List MemPlace} (hX : Ext W W') (h : DataW.Trod enc Try.prog W 0 (fun _ => true) true 57 v d ps)
    (hlt : ∀ x ∈ ps, x.block < W.heap.size) (hsp : ∀ x ∈ ps, sp x.block = true) : DataW.Trod enc Try.prog W' 0 sp true 57 v d ps :=
  WideElems.Trod_stays Try.laidOut (by kernel_rfl) (by decide +kernel) h (fun x hx => Below.same hX (hlt x hx)) hsp

section
variable {H : Type} {enc : TypeId × Value → H} {W : World} {base : Nat} {sp : Nat → Bool} {held : Bool}

theorem wf_i64 {z : Int} (h : (Lit.int .i64 z).wf = true) : -9223372036854775808 ≤ z ∧ z < 9223372036854775808 := by
  simp only [Lit.wf, Bool.and_eq_true, decide_eq_true_eq] at h
  have a1 : IntKind.min .i64 = -9223372036854775808 := by decide
  have a2 : IntKind.max .i64 = 9223372036854775807 := by decide
  rw [a1, a2] at h
  omega

/-- one instruction's cells -/
theorem open_ins {fuel : Nat} {cs : List Value} {x : DataW H × List MemPlace} (hl : cs.length = 8) (h : DataW.trod enc Try.prog W base sp held fuel 64 cs = some x) : ∃ i : Cd.Ins, cs = (insC i).toList ∧ Cd.InR i := by
  obtain ⟨xs, k, _, _, _, hxl, hf⟩ := DataW.trod_struct Try.underlying64 h
  match cs, hl with
  | [v0, v1, v2, v3, v4, v5, v6, v7], _ =>
    match xs, hxl with
    | [y0, y1, y2, y3, y4, y5, y6, y7], _ =>
      have g0 := hf 0 _ rfl
      have g1 := hf 1 _ rfl
      have g2 := hf 2 _ rfl
      have g3 := hf 3 _ rfl
      have g4 := hf 4 _ rfl
      have g5 := hf 5 _ rfl
      have g6 := hf 6 _ rfl
      have g7 := hf 7 _ rfl
      simp [cells3, cells4] at g0 g1 g2 g3 g4 g5 g6 g7
      obtain ⟨z0, e0, _, w0⟩ := DataW.trod_int Try.underlying3 g0
      obtain ⟨b1, e1, _⟩ := DataW.trod_bool Try.underlying4 g1
      obtain ⟨b2, e2, _⟩ := DataW.trod_bool Try.underlying4 g2
      obtain ⟨z3, e3, _, w3⟩ := DataW.trod_int Try.underlying3 g3
      obtain ⟨z4, e4, _, w4⟩ := DataW.trod_int Try.underlying3 g4
      obtain ⟨z5, e5, _, w5⟩ := DataW.trod_int Try.underlying3 g5
      obtain ⟨z6, e6, _, w6⟩ := DataW.trod_int Try.underlying3 g6
      obtain ⟨z7, e7, _, w7⟩ := DataW.trod_int Try.underlying3 g7
      simp only [List.cons.injEq, and_true] at e0 e1 e2 e3 e4 e5 e6 e7
      subst e0 e1 e2 e3 e4 e5 e6 e7
      exact ⟨⟨z0, b1, b2, z3, z4, z5, z6, z7⟩, rfl, wf_i64 w7⟩

theorem open_code {fuel : Nat} {v : Value} {x : DataW H × List MemPlace} (h : DataW.trod enc Try.prog W base sp held fuel 57 [v] = some x) :
    ∃ A n c l, v = .slice A n c ∧ n ≤ c ∧ Rd W 8 A n (cv l) ∧ Cd.AllIn l ∧ ∀ m, (∀ q ∈ DataW.weights Try.prog 57 x.1, q ≤ m) → n * 56 ≤ m := by
  rcases open_slice Try.underlying57 h with ⟨h1, h2⟩ | ⟨a, len, cap, m, n, D, Pl, h1, hb, hl, hm, hmm, hx, hi⟩
  · simp only [List.cons.injEq, and_true] at h1
    exact ⟨none, 0, 0, [], h1, Nat.le_refl _, Rd.nil_, fun x hx => (by cases hx), fun _ _ => by omega⟩
  · simp only [List.cons.injEq, and_true] at h1
    have hlm : len ≤ m := by rw [hmm]; split <;> omega
    have each : ∀ i, i < len → ∃ q : Cd.Ins, (∀ j u, (insC q)[j]? = some u → W.cell? (a.add (i * 8 + j)) = some u) ∧ Cd.InR q := by
      intro i hil
      obtain ⟨cs', c1, c2⟩ := hi i (by omega)
      rw [cells64] at c1
      obtain ⟨_, hlen, hcell⟩ := World.cells?_some c1
      obtain ⟨q, hq, hr⟩ := open_ins hlen c2
      refine ⟨q, fun j u hu => ?_, hr⟩
      have hj : j < 8 := by
        have := (Array.getElem?_eq_some_iff.1 hu).1
        simpa [insC] using this
      have := hcell j (by omega)
      rw [add_add'] at this
      rw [this]
      simp only [hq]
      simpa using hu
    letI : Inhabited Cd.Ins := ⟨Cd.I0⟩
    obtain ⟨q, hq⟩ := choose_lt each
    have hql : ((List.range len).map q).length = len := by simp
    refine ⟨some a, len, cap, (List.range len).map q, h1, hl, ⟨by rw [cv_length, hql], fun _ => ⟨a, rfl, fun j u hj => ?_⟩⟩, fun y hy => ?_, fun mm hmm2 => ?_⟩
    · have hjl : j < len * 8 := by
        have := (List.getElem?_eq_some_iff.1 hj).1
        rw [cv_length, hql] at this
        exact this
      have hj8 : j = j / 8 * 8 + j % 8 := by omega
      have hk : j / 8 < len := by omega
      rw [hj8, cv_get _ (j / 8) (j % 8) (by rw [hql]; exact hk) (by omega)] at hj
      simp only [List.getElem_map, List.getElem_range] at hj
      rw [hj8]
      exact (hq (j / 8) hk).1 (j % 8) u hj
    · obtain ⟨i, hi2, rfl⟩ := List.mem_map.1 hy
      exact (hq i (List.mem_range.1 hi2)).2
    · rw [hx] at hmm2
      have := hmm2 _ (by simp only [DataW.weights, Try.underlying57]; exact List.mem_cons_self)
      rw [bytes64] at this
      simp only [List.length_map, List.length_range] at this
      omega
end
end Go.Proofs.Ytfcbedkidjclhaa
namespace Go.Proofs.Ytfcbedkidjclhaa
open Go.ChangeShapes Go.WideShapes Go.ChangeAt Go.RowKit
set_option maxRecDepth 100000
set_option linter.unusedSimpArgs false
set_option linter.unusedVariables false

theorem reach_pack {H : Type} {ts : List TypeId} {ds : List (DataW H)} (h : (DataW.weightsEach Try.prog ts ds).all (· ≤ reachBytes) = true) {j : Nat} {d : DataW H} (ht : ts[j]? = some 25) (hd : ds[j]? = some d) :
    ∀ q ∈ DataW.weights Try.prog 25 d, q ≤ 140737488351232 := fun q hq => by
  have := List.all_eq_true.1 h _ (DataW.weights_mem_each ht hd q hq)
  have h2 := of_decide_eq_true this
  simpa [reachBytes] using h2

theorem stays25 {H : Type} {enc : TypeId × Value → H} {W W' : World} {sp : Nat → Bool} {v : Value} {d : DataW H} {ps : List MemPlace} (hX : Ext W W') (h : DataW.Trod enc Try.prog W 0 (fun _ => true) true 25 v d ps)
    (hlt : ∀ x ∈ ps, x.block < W.heap.size) (hsp : ∀ x ∈ ps, sp x.block = true) : DataW.Trod enc Try.prog W' 0 sp true 25 v d ps :=
  WideElems.Trod_stays Try.laidOut (by kernel_rfl) (by decide +kernel) h (fun x hx => Below.same hX (hlt x hx)) hsp

end Go.Proofs.Ytfcbedkidjclhaa
namespace Go.Proofs.Ytfcbedkidjclhaa
open Go.Joins Go.ChangeShapes Go.WideShapes Go.ChangeAt Go.RowKit Go.Deep
set_option maxRecDepth 100000
set_option linter.unusedSimpArgs false
set_option linter.unusedVariables false

theorem cells90 : Try.prog.cellsOf 90 = 5 := by kernel_rfl

theorem open_prog {H : Type} {enc : TypeId × Value → H} {W : World} {base : Nat} {sp : Nat → Bool} {held : Bool} {r : Reach} {b0 : Nat} {v : Value} {d : DataW H} {p : List MemPlace} (hv : Value.okWide Try.prog W r b0 90 v) (h : DataW.Trod enc Try.prog W base sp held 90 v d p) :
    ∃ lo hi A1 n1 c1 A2 n2 c2 A3 n3 c3 data ts code, v = .agg #[.int .i64 lo, .int .i64 hi, .slice A1 n1 c1, .slice A2 n2 c2, .slice A3 n3 c3] ∧ n1 ≤ c1 ∧ n2 ≤ c2 ∧ n3 ≤ c3 ∧ Rd W 1 A1 n1 (bv data) ∧ Rd W 2 A2 n2 (tv ts) ∧ Rd W 8 A3 n3 (cv code) ∧ Cd.AllIn code ∧
      ∀ m, (∀ q ∈ DataW.weights Try.prog 90 d, q ≤ m) → n1 ≤ m ∧ n2 * 16 ≤ m ∧ n3 * 56 ≤ m := by
  obtain ⟨v0, v1, v2, v3, v4, y0, y1, y2, y3, y4, n, rfl, rfl, rfl, t0, t1, t2, t3, t4⟩ := open_agg5 Try.underlying90 (by kernel_rfl) cells90 hv h
  obtain ⟨lo, e0, _, _⟩ := DataW.trod_int Try.underlying3 t0
  obtain ⟨hi, e1, _, _⟩ := DataW.trod_int Try.underlying3 t1
  simp only [List.cons.injEq, and_true] at e0 e1
  subst e0 e1
  obtain ⟨A1, n1, c1, data, rfl, l1, r1, m1⟩ := open_bytes t2
  obtain ⟨A2, n2, c2, ts, rfl, l2, r2, m2⟩ := open_tabs t3
  obtain ⟨A3, n3, c3, code, rfl, l3, r3, hi3, m3⟩ := open_code t4
  refine ⟨lo, hi, A1, n1, c1, A2, n2, c2, A3, n3, c3, data, ts, code, rfl, l1, l2, l3, r1, r2, r3, hi3, fun m hm => ?_⟩
  simp only [DataW.weights, Try.underlying90, DataW.weightsEach, List.map_cons, List.map_nil, List.append_nil, List.mem_append] at hm
  exact ⟨m1 m fun q hq => hm q (by simp [hq]), m2 m fun q hq => hm q (by simp [hq]), m3 m fun q hq => hm q (by simp [hq])⟩

theorem stays90 {H : Type} {enc : TypeId × Value → H} {W W' : World} {sp : Nat → Bool} {v : Value} {d : DataW H} {ps : List MemPlace} (hX : Ext W W') (h : DataW.Trod enc Try.prog W 0 (fun _ => true) true 90 v d ps)
    (hlt : ∀ x ∈ ps, x.block < W.heap.size) (hsp : ∀ x ∈ ps, sp x.block = true) : DataW.Trod enc Try.prog W' 0 sp true 90 v d ps :=
  WideElems.Trod_stays Try.laidOut (by kernel_rfl) (by decide +kernel) h (fun x hx => Below.same hX (hlt x hx)) hsp

end Go.Proofs.Ytfcbedkidjclhaa
namespace Go.Proofs.Ytfcbedkidjclhaa.Bulk
open Go.RowKit
set_option maxRecDepth 100000
set_option linter.unusedSimpArgs false
set_option linter.unusedVariables false

theorem one_le {H : Type} (d : DataW H) : 1 ≤ Rows.uptoBulk d := by
  cases d with
  | lit l => cases l <;> simp [Rows.uptoBulk]
  | nil => simp [Rows.uptoBulk]
  | ptr d => simp [Rows.uptoBulk]
  | slice elems spare => simp [Rows.uptoBulk]
  | agg parts => simp [Rows.uptoBulk]
  | iface t d => simp [Rows.uptoBulk]
  | map entries => simp [Rows.uptoBulk]
  | held h => simp [Rows.uptoBulk]
theorem length_le {H : Type} (l : List (DataW H)) : l.length ≤ Rows.uptoBulkAll l := by
  induction l with
  | nil => simp [Rows.uptoBulkAll]
  | cons x r ih => have := one_le x; simp only [Rows.uptoBulkAll, List.length_cons]; omega
theorem part_le {H : Type} {d : DataW H} {l : List (DataW H)} (h : d ∈ l) : Rows.uptoBulk d ≤ Rows.uptoBulkAll l := by
  induction l with
  | nil => cases h
  | cons x r ih =>
    simp only [Rows.uptoBulkAll]
    cases List.mem_cons.1 h with
    | inl e => subst e; omega
    | inr e => have := ih e; omega
theorem bound {H : Type} {l : List (DataW H)} (hk : Rows.uptoSmall H l = true) : Rows.uptoBulkAll l ≤ 1048576 := of_decide_eq_true hk

/-- the elements of a type's slices, as far down as it goes -/
def Fine (P : Program) (M : Nat) : Nat → TypeId → Bool
  | 0, _ => false
  | f + 1, t => match P.underlying t with
    | some (.slice e) => decide (P.bytesOf e ≤ M) && Fine P M f e
    | some (.struct fs) => fs.toList.all fun x => Fine P M f x.type
    | some (.array _ e) => Fine P M f e
    | some (.pointer e) => Fine P M f e
    | some (.map _ _) => false
    | _ => true

mutual
theorem weights_le {H : Type} {P : Program} {M : Nat} (hM : 1 ≤ M) : ∀ (d : DataW H) (f : Nat) (t : TypeId), Fine P M f t = true → ∀ q ∈ DataW.weights P t d, q ≤ M * Rows.uptoBulk d
  | .lit l, _, _, _ => fun q hq => by
    cases l <;> simp [DataW.weights] at hq
    subst hq
    simp only [Rows.uptoBulk]
    rename_i bytes
    have : 1 * (bytes.length + 1) ≤ M * (bytes.length + 1) := Nat.mul_le_mul_right _ hM
    omega
  | .nil, _, _, _ => fun q hq => by simp [DataW.weights] at hq
  | .held _, _, _, _ => fun q hq => by simp [DataW.weights] at hq
  | .iface _ _, _, _, _ => fun q hq => by simp [DataW.weights] at hq
  | .ptr d, f, t, h => fun q hq => by
    cases f with
    | zero => simp [Fine] at h
    | succ f =>
      simp only [DataW.weights] at hq
      simp only [Fine] at h
      cases hu : P.underlying t with
      | none => simp [hu] at hq
      | some u =>
        rw [hu] at hq h
        cases u <;> simp at hq
        rename_i e
        have := weights_le hM d f e h q hq
        simp only [Rows.uptoBulk]
        have h2 := Nat.mul_le_mul_left M (show Rows.uptoBulk d ≤ Rows.uptoBulk d + 1 by omega)
        omega
  | .map entries, f, t, h => fun q hq => by
    cases f with
    | zero => simp [Fine] at h
    | succ f =>
      simp only [DataW.weights] at hq
      simp only [Fine] at h
      cases hu : P.underlying t with
      | none => simp [hu] at hq
      | some u =>
        rw [hu] at hq h
        cases u <;> simp at hq h
  | .slice elems spare, f, t, h => fun q hq => by
    cases f with
    | zero => simp [Fine] at h
    | succ f =>
      simp only [DataW.weights] at hq
      simp only [Fine] at h
      cases hu : P.underlying t with
      | none => simp [hu] at hq
      | some u =>
        rw [hu] at hq h
        cases u <;> simp at hq
        rename_i e
        simp only [Bool.and_eq_true, decide_eq_true_eq] at h
        simp only [Rows.uptoBulk]
        have l1 := length_le elems
        have l2 := length_le spare
        rcases hq with rfl | hq | hq
        · have a1 := Nat.mul_le_mul (show elems.length + spare.length ≤ Rows.uptoBulkAll elems + Rows.uptoBulkAll spare + 1 by omega) h.1
          rw [Nat.mul_comm M]
          exact a1
        · have := weightsAll_le hM elems f e h.2 q hq
          have a1 := Nat.mul_le_mul_left M (show Rows.uptoBulkAll elems ≤ Rows.uptoBulkAll elems + Rows.uptoBulkAll spare + 1 by omega)
          omega
        · have := weightsAll_le hM spare f e h.2 q hq
          have a1 := Nat.mul_le_mul_left M (show Rows.uptoBulkAll spare ≤ Rows.uptoBulkAll elems + Rows.uptoBulkAll spare + 1 by omega)
          omega
  | .agg parts, f, t, h => fun q hq => by
    cases f with
    | zero => simp [Fine] at h
    | succ f =>
      simp only [DataW.weights] at hq
      simp only [Fine] at h
      cases hu : P.underlying t with
      | none => simp [hu] at hq
      | some u =>
        rw [hu] at hq h
        simp only [Rows.uptoBulk]
        have a1 := Nat.mul_le_mul_left M (show Rows.uptoBulkAll parts ≤ Rows.uptoBulkAll parts + 1 by omega)
        cases u <;> simp at hq
        · rename_i e
          have := weightsAll_le hM parts f e h q hq
          omega
        · rename_i fs
          have := weightsEach_le hM (fs.toList.map (·.type)) parts f (fun t ht => by
            obtain ⟨x, hx, rfl⟩ := List.mem_map.mp ht
            exact List.all_eq_true.mp h x hx) q (by simpa using hq)
          omega
theorem weightsAll_le {H : Type} {P : Program} {M : Nat} (hM : 1 ≤ M) : ∀ (l : List (DataW H)) (f : Nat) (t : TypeId), Fine P M f t = true → ∀ q ∈ DataW.weightsAll P t l, q ≤ M * Rows.uptoBulkAll l
  | [], _, _, _ => fun q hq => by simp [DataW.weightsAll] at hq
  | d :: r, f, t, h => fun q hq => by
    simp only [DataW.weightsAll, List.mem_append] at hq
    simp only [Rows.uptoBulkAll, Nat.mul_add]
    rcases hq with hq | hq
    · have := weights_le hM d f t h q hq; omega
    · have := weightsAll_le hM r f t h q hq; omega
theorem weightsEach_le {H : Type} {P : Program} {M : Nat} (hM : 1 ≤ M) : ∀ (ts : List TypeId) (l : List (DataW H)) (f : Nat), (∀ t ∈ ts, Fine P M f t = true) → ∀ q ∈ DataW.weightsEach P ts l, q ≤ M * Rows.uptoBulkAll l
  | [], _, _, _ => fun q hq => by simp [DataW.weightsEach] at hq
  | t :: ts, [], _, _ => fun q hq => by simp [DataW.weightsEach] at hq
  | t :: ts, d :: r, f, h => fun q hq => by
    simp only [DataW.weightsEach, List.mem_append] at hq
    simp only [Rows.uptoBulkAll, Nat.mul_add]
    rcases hq with hq | hq
    · have := weights_le hM d f t (h t List.mem_cons_self) q hq; omega
    · have := weightsEach_le hM ts r f (fun t ht => h t (List.mem_cons_of_mem _ ht)) q hq; omega
end

theorem fine22 : Fine Try.prog 80 4 22 = true := by kernel_rfl
theorem fine25 : Fine Try.prog 80 4 25 = true := by kernel_rfl
theorem fine90 : Fine Try.prog 80 4 90 = true := by kernel_rfl
theorem fine31 : Fine Try.prog 80 4 31 = true := by kernel_rfl
/-- what a handed-in datum's slices weigh -/
theorem small {H : Type} {l : List (DataW H)} (hk : Rows.uptoSmall H l = true) {d : DataW H} (hm : d ∈ l) {t : TypeId} (hf : Fine Try.prog 80 4 t = true) : ∀ q ∈ DataW.weights Try.prog t d, q ≤ 83886080 := fun q hq => by
  have h1 := weights_le (M := 80) (by omega) d 4 t hf q hq
  have h2 := part_le hm
  have h3 := bound hk
  omega

end Go.Proofs.Ytfcbedkidjclhaa.Bulk
namespace Go.Proofs.Ytfcbedkidjclhaa
open Go.ChangeShapes Go.WideShapes Go.ChangeAt Go.RowKit
set_option maxRecDepth 100000
set_option linter.unusedSimpArgs false
set_option linter.unusedVariables false

theorem packOfs_lifted (os : Os) (started : os.Started) (H : Type) (enc : TypeId × Value → H) (F : Stop.Interp) :
    ReturnsInHanded {} Try.checked os 19 .any ((Rows.OpenSpec.upto Rows.packOfsSpec).pre6 enc Try.prog Try.f19 Rows.packOfsUptoRow.domain false) (((Rows.OpenSpec.upto Rows.packOfsSpec).at F).post enc Try.prog Try.f19 false true false false) := by
  refine returnsInHanded_of_cond_sized (C := Try.checked) (s := Rows.OpenSpec.upto Rows.packOfsSpec) (k := Rows.uptoSmall) rfl Try.own started (by kernel_rfl) Try.func19
    (OpenSpec.witness (enc := enc) (C := Try.checked) (s := Rows.OpenSpec.upto Rows.packOfsSpec) (k := Rows.uptoSmall) rfl false ⟨#[], #[.agg #[.int .i64 0, .int .i64 0, .slice none 0 0, .slice none 0 0, .slice none 0 0]], []⟩ 8 (by kernel_rfl) (by kernel_rfl) (by kernel_rfl)
      (x := ([.agg [.lit (.int .i64 0), .lit (.int .i64 0), .nil, .nil, .nil]], [], [])) (by kernel_rfl) rfl (by kernel_rfl)) ?_
  intro W base args ds gs before hval0 hW hcnd hk hsz0 _
  have hval : ∀ (j : Nat) t v, Try.f19.params[j]? = some t → args[j]? = some v → Value.okWide Try.prog W .any base t v := hval0
  have hW' := hW
  obtain ⟨p, q, hA0, hV, rfl, hfz, hnd⟩ := hW
  have hA : DataW.TrodAll enc Try.prog W 0 (fun _ => true) true Try.f19.params.toList args.toList ds p := hA0
  rw [Try.params19] at hA hval
  obtain ⟨v0, d0, rfl, rfl, h0⟩ := trodAll_one hA
  obtain ⟨rfl, rfl⟩ := trodVars_none hV
  obtain ⟨lo, hi, A1, n1, c1, A2, n2, c2, A3, n3, c3, data, ts, code, rfl, _, _, _, r1, r2, r3, hin, hm⟩ := open_prog (hval 0 90 v0 rfl rfl) h0
  obtain ⟨m1, m2, m3⟩ := hm _ (Bulk.small hk (d := d0) (by simp) Bulk.fine90)
  clear hA0 hval0 hsz0
  simp only [List.append_nil] at hW'
  refine (PackOfs_any lo hi A1 A2 A3 n1 n2 n3 c1 c2 c3 data code ts W r1 r2 r3 (by omega) (by omega) (by omega)).mono fun e W' ⟨he, hX⟩ => ?_
  subst he
  have hlt := fun x hx => hW'.lt x hx
  exact ⟨_, rfl, post_of_below (pa := p) (pv := []) hW' (fun _ _ _ => trodAll_mk1 (shut_bool Try.underlying4 true))
    (fun sp hsp => trodAll_mk1 (stays90 hX h0 (fun x hx => hlt x (by simp [hx])) (fun x hx => hsp x (by simp [hx])))) (fun _ _ => rfl) (by simp)
    hX (ok_one (by kernel_rfl) rfl (okWide_bool_mk Try.underlying4 true))⟩

theorem packOfs_facts : joinedFacts Try.prog 19 Try.f19 (Rows.OpenSpec.upto Rows.packOfsSpec).bare Rows.packOfsUptoRow = true := by
  unfold joinedFacts
  have h1 := mayEnter
  have h2 := liftsFinal
  have h3 := makeCut
  generalize Try.prog.mayEnter = a at h1 ⊢
  generalize Try.prog.liftsFinal = b at h2 ⊢
  generalize Try.prog.make = m at h3 ⊢
  subst h1 h2 h3
  refine Eq.trans ?_ (Eq.refl true)
  kernel_rfl

theorem packOfs_holds : Rows.PackOfsUptoSaid :=
  OpenClaim.holds_of_cond 19 Try.f19 rfl rfl rfl rfl rfl rfl rfl ⟨rfl, rfl, rfl, rfl, rfl⟩ rfl rfl rfl rfl rfl (by kernel_rfl) Try.func19 packOfs_facts
    (of_decide_eq_true (by kernel_rfl)) (by unfold Func.isWrapper; first | (rw [if_pos (by decide +kernel)]; kernel_rfl) | (rw [if_neg (by decide +kernel)]; exact ⟨rfl, rfl⟩))
    (fun os started H enc _ F => packOfs_lifted os started H enc F)

end Go.Proofs.Ytfcbedkidjclhaa
