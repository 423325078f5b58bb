/-
  The contracts of the lender of instructions: mark, Lend.
  Conditions: the instructions can be read, lie elsewhere than the lender's, and are not very many.
-/
import Derived.Test.YtfcbedkidjclhaaLend
import Derived.Test.YtfcbedkidjclhaaCode8
import Derived.Test.YtfcbedkidjclhaaCode16
import Derived.Deep.MidRow
import Derived.Deep.RegionLaw
namespace Go.Proofs.Ytfcbedkidjclhaa
open Go.RowKit
set_option maxRecDepth 100000
set_option linter.unusedSimpArgs false
set_option linter.unusedVariables false

/-- the mark at a place behind what is lent -/
def mkC (i : Nat) : Cd.Ins := ⟨-7 - (i : Int), false, false, 0, 0, 0, 0, (i : Int)⟩
def mksC (k : Nat) : List Cd.Ins := (List.range k).map mkC
theorem mksC_succ (k : Nat) : mksC (k + 1) = mksC k ++ [mkC k] := by simp [mksC, List.range_succ]
theorem mksC_length (k : Nat) : (mksC k).length = k := by simp [mksC]
theorem mksC_get {k i : Nat} (h : i < k) : (mksC k)[i]? = some (mkC i) := by simp [mksC, h]

theorem markC_any (i : Nat) (hi : i ≤ 4000000000) (w : World) : Calls Try.prog 105 #[.int .i64 i] w fun e w' => e = .returned (.agg #[.int .i64 (-7 - (i : Int)), .bool false, .bool false, .int .i64 0, .int .i64 0, .int .i64 0, .int .i64 0, .int .i64 (i : Int)]) ∧ Ext w w' := by
  go_enter Try.func105, Try.ntmps105
  go_wp2_with ((with_reducible refine wl_store64 _ _ w.heap.size ?_ ?_ (Blk.new w 64 _) ?_ ?_); exact rfl; exact ⟨_, _, _, _, _, _, _, _, rfl⟩; exact rfl; intro cells hcells; obtain rfl := Value.agg.inj hcells; clear hcells)
  obtain ⟨x0, x1, x2, x3, x4, x5, x6, x7⟩ := ((Blk.new w 64 #[.int .i64 0, .bool false, .bool false, .int .i64 0, .int .i64 0, .int .i64 0, .int .i64 0, .int .i64 0]).row #[.int .i64 (-7 - (i : Int)), .bool false, .bool false, .int .i64 0, .int .i64 0, .int .i64 0, .int .i64 0, .int .i64 (i : Int)]).c8
  refine bodyPost_ret (v := .agg #[.int .i64 (-7 - (i : Int)), .bool false, .bool false, .int .i64 0, .int .i64 0, .int .i64 0, .int .i64 0, .int .i64 (i : Int)]) ?_ rfl ⟨rfl, (Ext.new _ _).row (Nat.le_refl _) _⟩
  simp [results, Try.results105, go_sem, x0, x1, x2, x3, x4, x5, x6, x7]

/-! ### several cells of a block turned -/
def putAll : List Value → Nat → List Value → List Value
  | l, _, [] => l
  | l, o, v :: vs => putAll (l.set o v) (o + 1) vs
theorem Blk.setCells {g : Nat} {t : TypeId} : ∀ (vs : List Value) (o : Nat) (l : List Value) (w : World), Blk w g t l.toArray → Blk (w.setCells g o vs) g t (putAll l o vs).toArray
  | [], _, _, _, h => h
  | v :: vs, o, l, w, h => by
    rw [World.setCells, putAll]
    refine Blk.setCells vs (o + 1) (l.set o v) _ ?_
    have := h.set_ o v
    rwa [List.setIfInBounds_toArray] at this
theorem putAll_append_right : ∀ (vs a b : List Value) (o : Nat), putAll (a ++ b) (a.length + o) vs = a ++ putAll b o vs
  | [], _, _, _ => rfl
  | v :: vs, a, b, o => by
    rw [putAll, putAll, List.set_append_right _ _ (by omega), Nat.add_sub_cancel_left, Nat.add_assoc]
    exact putAll_append_right vs a _ (o + 1)
theorem putAll_cover : ∀ (vs a b : List Value), a.length = vs.length → putAll (a ++ b) 0 vs = vs ++ b
  | [], a, b, h => by rw [List.eq_nil_of_length_eq_zero h]; rfl
  | v :: vs, [], b, h => by simp at h
  | v :: vs, x :: a, b, h => by
    rw [putAll]
    have e : (x :: a ++ b).set 0 v = [v] ++ (a ++ b) := rfl
    rw [e, show 0 + 1 = [v].length + 0 from rfl, putAll_append_right, putAll_cover vs a b (by simpa using h)]
    rfl
theorem putAll_cv : ∀ (rs : List Cd.Ins) (k : Nat) (x : Cd.Ins), k < rs.length → putAll (cv rs) (k * 8) (insC x).toList = cv (rs.set k x)
  | [], k, x, h => by simp at h
  | a :: rs, 0, x, _ => by
    have e : cv (a :: rs) = (insC a).toList ++ cv rs := rfl
    rw [e, Nat.zero_mul, putAll_cover (insC x).toList (insC a).toList (cv rs) rfl]
    rfl
  | a :: rs, k + 1, x, h => by
    have e : cv (a :: rs) = (insC a).toList ++ cv rs := rfl
    have e2 : cv ((a :: rs).set (k + 1) x) = (insC a).toList ++ cv (rs.set k x) := rfl
    rw [e, e2, show (k + 1) * 8 = (insC a).toList.length + k * 8 by rw [insC_size]; omega, putAll_append_right, putAll_cv rs k x (by simpa using h)]
theorem Kp.setCells {S : Nat → Prop} {w0 : World} {g : Nat} (hg : S g ∨ w0.heap.size ≤ g) : ∀ (vs : List Value) (o : Nat) (w : World), Kp S w0 w → Kp S w0 (w.setCells g o vs)
  | [], _, _, h => h
  | v :: vs, o, w, h => by
    rw [World.setCells]
    exact Kp.setCells hg vs (o + 1) _ (h.set ⟨g, o, none⟩ hg v)
theorem Blk.far_cells {g g' : Nat} {t : TypeId} {cs : Array Value} (hne : g ≠ g') : ∀ (vs : List Value) (o : Nat) (w : World), Blk w g t cs → Blk (w.setCells g' o vs) g t cs
  | [], _, _, h => h
  | v :: vs, o, w, h => by
    rw [World.setCells]
    exact Blk.far_cells hne vs (o + 1) _ (h.far (p := ⟨g', o, none⟩) hne v)

/-- the lender's room: its box, where the room lies, what lies there -/
def LC (w : World) (g : Nat) : Option Nat → List Cd.Ins → Prop
  | none, rs => rs = [] ∧ Blk w g 92 #[.slice none 0 0]
  | some r, rs => Blk w g 92 #[.slice (some ⟨r, 0, none⟩) rs.length rs.length] ∧ Blk w r 64 (cv rs).toArray
section
variable {w w' : World} {g r : Nat} {o : Option Nat} {rs : List Cd.Ins}
theorem LC.ne (h : LC w g (some r) rs) : r ≠ g := Ne.symm (Blk.ne_ h.1 h.2 (by decide))
theorem LC.keep {S : Nat → Prop} (h : LC w g o rs) (k : Kp S w w') (hS : ∀ b, LS g o b → ¬ S b) : LC w' g o rs := by
  cases o with
  | none => exact ⟨h.1, k.blk h.2 (hS _ (.inl rfl))⟩
  | some r => exact ⟨k.blk h.1 (hS _ (.inl rfl)), k.blk h.2 (hS _ (.inr rfl))⟩
theorem LC.ext (h : LC w g o rs) (k : Ext w w') : LC w' g o rs := h.keep (S := fun _ => False) (Kp.of_ext k) fun _ _ e => e
theorem LC.lt (h : LC w g o rs) : ∀ b, LS g o b → b < w.heap.size := by
  intro b hb
  cases o with
  | none =>
    rcases hb with rfl | hb
    · exact h.2.lt
    · cases hb
  | some r =>
    rcases hb with rfl | hb
    · exact h.1.lt
    · injection hb with hb
      subst hb
      exact h.2.lt
theorem LC.put (h : LC w g (some r) rs) {j : Nat} (hj : j < rs.length) (x : Cd.Ins) : LC (w.setCells r (j * 8) (insC x).toList) g (some r) (rs.set j x) := by
  have hne := h.ne
  refine ⟨?_, ?_⟩
  · rw [List.length_set]
    exact Blk.far_cells (Ne.symm hne) _ _ _ h.1
  · have := Blk.setCells (insC x).toList (j * 8) (cv rs) w h.2
    rwa [putAll_cv rs j x hj] at this
theorem LC.rd (h : LC w g (some r) rs) : Rd w 8 (some ⟨r, 0, none⟩) rs.length (cv rs) := by
  refine ⟨by rw [cv_length], fun _ => ⟨_, rfl, fun j u hj => ?_⟩⟩
  rw [show (⟨r, 0, none⟩ : Addr).add j = ⟨r, j, none⟩ by unfold Addr.add; split <;> simp_all, h.2.cell j]
  simpa using hj
theorem LC.cell (h : LC w g (some r) rs) {i : Nat} (hi : i < rs.length * 8) : ∃ u, w.cell? ⟨r, i, none⟩ = some u := by
  rw [h.2.cell i]
  exact ⟨(cv rs)[i]'(by rw [cv_length]; exact hi), by simp⟩
theorem LC.at_ (h : LC w g (some r) rs) {j : Nat} {x : Cd.Ins} (hj : rs[j]? = some x) : w.cell? ⟨r, j * 8, none⟩ = some (.int .i64 x.op) ∧ w.cell? ⟨r, j * 8 + 1, none⟩ = some (.bool x.narrow) ∧ w.cell? ⟨r, j * 8 + 2, none⟩ = some (.bool x.reg) ∧ w.cell? ⟨r, j * 8 + 3, none⟩ = some (.int .i64 x.size) ∧
    w.cell? ⟨r, j * 8 + 4, none⟩ = some (.int .i64 x.dst) ∧ w.cell? ⟨r, j * 8 + 5, none⟩ = some (.int .i64 x.src) ∧ w.cell? ⟨r, j * 8 + 6, none⟩ = some (.int .i64 x.off) ∧ w.cell? ⟨r, j * 8 + 7, none⟩ = some (.int .i64 x.imm) := by
  obtain ⟨hl, rfl⟩ := List.getElem?_eq_some_iff.1 hj
  have hc : ∀ i u, (cv rs)[i]? = some u → w.cell? ⟨r, 0 + i, none⟩ = some u := fun i u hu => by
    rw [Nat.zero_add, Blk.cell h.2 i]
    simpa using hu
  have := ins_cells hc hl
  simpa only [Nat.zero_add] using this
theorem LC.free (h : LC w g (some r) rs) (i : Nat) : w.frozen? ⟨r, i, none⟩ = false := Blk.free h.2 i
theorem LC.there (h : LC w g (some r) rs) {j : Nat} (hj : j < rs.length) : w.there r (j * 8) 8 := fun i hi => by
  obtain ⟨u, hu⟩ := h.cell (i := j * 8 + i) (by omega)
  exact ⟨by rw [hu]; rfl, h.2.free _⟩
end
theorem setC_next {rs l : List Cd.Ins} {m : Nat} {x : Cd.Ins} (h : rs.take m = l) (hm : m < rs.length) : (rs.set m x).take (m + 1) = l ++ [x] := by
  rw [List.take_succ_eq_append_getElem (by rw [List.length_set]; exact hm), List.take_set_of_le (Nat.le_refl _), h]
  simp


theorem cv_oneC (l : List Cd.Ins) : ∀ u ∈ cv l, u.oneCell' = true := by
  intro u hu
  obtain ⟨i, _, h⟩ := List.mem_flatMap.1 hu
  exact insC_one i u h
theorem cv_drop : ∀ (l : List Cd.Ins) (n : Nat), (cv l).drop (n * 8) = cv (l.drop n)
  | l, 0 => by simp
  | [], n + 1 => by simp [cv]
  | a :: l, n + 1 => by
    have e : cv (a :: l) = (insC a).toList ++ cv l := rfl
    rw [e, show (n + 1) * 8 = (insC a).toList.length + n * 8 by rw [insC_size]; omega, List.drop_append, List.drop_eq_nil_of_le (by omega), Nat.add_sub_cancel_left, cv_drop l n]
    rfl
theorem slice_lendC (r m n : Nat) (h : n ≤ m) (v : World) :
    Sem.run Try.prog (Instr.slice 57 (.slice (some ⟨r, 0, none⟩) m m) none (some (.int .i64 (n : Int))) none) v = .ok (.slice (some ⟨r, 0, none⟩) n m) v := by
  have h1 : (n : Int) ≤ (m : Int) := by omega
  simp [go_sem, Try.underlying57, h1]

theorem made_zeroC (n : Nat) : (madeCells (Value.agg #[.int .i64 0, .bool false, .bool false, .int .i64 0, .int .i64 0, .int .i64 0, .int .i64 0, .int .i64 0]).cells (n * 8)).toList = cv (List.replicate n Cd.I0) := by
  have hl : (cv (List.replicate n Cd.I0)).length = n * 8 := by rw [cv_length, List.length_replicate]
  apply List.ext_getElem?
  intro i
  by_cases hi : i < n * 8
  · have h1 := cv_get (List.replicate n Cd.I0) (i / 8) (i % 8) (by rw [List.length_replicate]; omega) (Nat.mod_lt _ (by omega))
    rw [show i / 8 * 8 + i % 8 = i by omega] at h1
    rw [h1]
    have h8 : i % 8 < 8 := Nat.mod_lt _ (by omega)
    have hmc : (madeCells (Value.agg #[.int .i64 0, .bool false, .bool false, .int .i64 0, .int .i64 0, .int .i64 0, .int .i64 0, .int .i64 0]).cells (n * 8)).toList[i]? = (#[Value.int .i64 0, .bool false, .bool false, .int .i64 0, .int .i64 0, .int .i64 0, .int .i64 0, .int .i64 0] : Array Value)[i % 8]? := by
      simp [madeCells, Value.cells, hi, h8]
    rw [hmc]
    simp [insC, Cd.I0]
  · rw [List.getElem?_eq_none (by simp [madeCells]; omega), List.getElem?_eq_none (by rw [hl]; omega)]
theorem own_blk64 {w : World} {base g n : Nat} {l : List Cd.Ins} (h : w.ownsRow base 64 8 (.slice (some ⟨g, 0, none⟩) n n) n (cv l)) : Blk w g 64 (cv l).toArray := by
  rcases h.2 with ⟨h1, h0⟩ | ⟨g', cap, cur, hv, _, hh, h4, h5, h6, h7⟩
  · injection h1 with h1; cases h1
  · injection hv with e1 e2 e3
    injection e1 with e1
    injection e1 with e1
    subst e1
    subst e3
    have : cur = (cv l).toArray := by
      rw [← h7, List.take_of_length_le (by rw [Array.length_toList, h6]; exact Nat.le_refl _)]
    rw [← this]
    exact hh

theorem run_copy_row8 (w : World) (dT sT ty elem : TypeId) (g dLen dCap : Nat) (a : Addr) (sLen sCap m : Nat) (cur : Array Value) (t : TypeId) (cs : List Value)
    (hu : Try.prog.underlying dT = some (.slice elem)) (hs : (Try.prog.info? elem).map (·.size) = some 8)
    (hg : w.heap[g]? = some (.cells cur t (0, 0))) (hm : Nat.min sLen dLen = m) (hn : cs.length = m * 8)
    (hsrc : ∀ j v, cs[j]? = some v → w.cell? (a.add j) = some v) (hfit : cs.length ≤ cur.size) (h1 : ∀ v ∈ cs, v.oneCell' = true) :
    (Builtin.copy_ #[dT, sT] ty #[.slice (some ⟨g, 0, none⟩) dLen dCap, .slice (some a) sLen sCap]).run Try.prog w =
      .ok (goInt m) (w.setRow g (cs ++ cur.toList.drop cs.length).toArray) := by
  have hl := run_loadCells_list (P := Try.prog) w a cs hsrc
  have hst := run_storeCells_at Try.prog g 0 t cs 0 cur w hg (by simpa using hfit) h1
  rw [hn] at hl
  cases hq : Try.prog.info? elem with
  | none => simp [hq] at hs
  | some i =>
    have hi : i.size = 8 := by simpa [hq] using hs
    simp [Builtin.copy_, run_underlying hu, Builtin.lenOf, Builtin.firstCells, sizeOf, typeInfo, hq, hi, hm, hl, hst]

theorem run_copy_none8 (w : World) (dT sT ty elem : TypeId) (d a : Option Addr) (dLen dCap sLen sCap : Nat) (hu : Try.prog.underlying dT = some (.slice elem)) (hs : (Try.prog.info? elem).map (·.size) = some 8) (hn : Nat.min sLen dLen = 0) :
    (Builtin.copy_ #[dT, sT] ty #[.slice d dLen dCap, .slice a sLen sCap]).run Try.prog w = .ok (goInt 0) w := by
  have h1 : ∀ p : Addr, (loadCells p 0).run Try.prog w = .ok #[] w := fun p => by simpa using run_loadCells_list (P := Try.prog) w p [] (by simp)
  cases hq : Try.prog.info? elem with
  | none => simp [hq] at hs
  | some i =>
    have hi : i.size = 8 := by simpa [hq] using hs
    cases d <;> cases a <;> simp [Builtin.copy_, run_underlying hu, Builtin.lenOf, Builtin.firstCells, sizeOf, typeInfo, hq, hi, hn, h1, storeCells]

/-- copy into the room -/
theorem wl_copyC {ops : Array Oper} {rest : List Oper} {dst : Option Tmp} {ty : TypeId} {ps : String} {af : Array Edge} {a : Act} {w : World} {Q : Exit → Act → World → Prop} (d s : Operand)
    (r dLen dCap : Nat) (A : Option Addr) (n c : Nat) (hd : a.eval d = .slice (some ⟨r, 0, none⟩) dLen dCap) (hs : a.eval s = .slice A n c)
    (rs l : List Cd.Ins) (hg : Blk w r 64 (cv rs).toArray) (hR : Rd w 8 A n (cv l)) (hl : l.length = n) (hn : n ≤ dLen) (hr : dLen = rs.length)
    (h : ∀ w', Blk w' r 64 (cv (l ++ rs.drop n)).toArray → Kp (fun b => b = r) w w' → wpList Try.prog ops Q rest (a.put dst (.int .i64 (n : Int))) w') :
    wpList Try.prog ops Q (⟨dst, .call { callee := .builtin .copy, args := #[d, s], argTypes := #[57, 57] }, ty, ps, af, none⟩ :: rest) a w := by
  have hcl : (cv l).length = n * 8 := by rw [cv_length, hl]
  refine wpList_plain rfl fun K hK => ?_
  have hmin : Nat.min n dLen = n := Nat.min_eq_left hn
  by_cases h0 : n = 0
  · have hrun := run_copy_none8 w 57 57 ty 64 (some ⟨r, 0, none⟩) A dLen dCap n c Try.underlying57 (by kernel_rfl) (by rw [hmin, h0])
    obtain rfl : l = [] := List.eq_nil_of_length_eq_zero (by omega)
    unfold Oper.wp
    simp [execOp, resolve, invoke, builtin, hd, hs, hrun, Result.andThen]
    subst h0
    exact hK _ _ (h w (by simpa [cv] using hg) (Kp.refl w))
  · obtain ⟨ad, rfl, hsrc⟩ := hR.2 (by omega)
    have hrun := run_copy_row8 w 57 57 ty 64 r dLen dCap ad n c n (cv rs).toArray 64 (cv l) Try.underlying57 (by kernel_rfl) hg hmin hcl hsrc (by rw [List.size_toArray, cv_length, cv_length]; omega) (cv_oneC l)
    have e : (cv l ++ (cv rs).toArray.toList.drop (cv l).length) = cv (l ++ rs.drop n) := by
      rw [cv_append, hcl]
      show cv l ++ (cv rs).drop (n * 8) = _
      rw [cv_drop]
    rw [e] at hrun
    unfold Oper.wp
    simp [execOp, resolve, invoke, builtin, hd, hs, hrun, Result.andThen]
    exact hK _ _ (h _ (setRow_heap w r _ _ 64 _ hg) (Kp.row (S := fun b => b = r) (Kp.refl w) (.inl rfl) _))

end Go.Proofs.Ytfcbedkidjclhaa
