/-
  The walk of CodeJoins: it answers true.
  Conditions: the bytes can be read, no more than may be handed in.
-/
import Derived.Test.YtfcbedkidjclhaaWalkB
import Derived.Deep.DeepAppendWide
namespace Go.Proofs.Ytfcbedkidjclhaa
open Go.RowKit
set_option maxRecDepth 100000
set_option linter.unusedSimpArgs false
set_option linter.unusedVariables false

/-- an append of very many -/
theorem run_app_wide {P : Program} (w : World) (base : Nat) (t ty e : TypeId) (i : TypeInfo) (z : Value) (sz bytes : Nat) (ht : P.underlying t = some (.slice e)) (hi : P.info? e = some i) (hz : i.zero = some z)
    (hsize : i.size = sz) (hby : i.bytes = bytes) (hzs : z.cells.size = sz) (hsz : 0 < sz)
    (v : Value) (n : Nat) (xs : List Value) (hown : w.ownsRow base e sz v n xs)
    (A : Option Addr) (m c : Nat) (news : List Value) (hr : Rd w sz A m news) (h1 : ∀ u ∈ news, u.oneCell' = true)
    (hbytes : ((n + m) + (n + m) / 4 + 192) * bytes ≤ 281474976710656) (hnm : n + m ≤ 281474976710656) (hbase : base ≤ w.heap.size) :
    ∃ v' w', (Builtin.append_ #[t, t] ty #[v, .slice A m c]).run P w = .ok v' w' ∧ w'.ownsRow base e sz v' (n + m) (xs ++ news) ∧ w.grownBy w' v.ownBlock := by
  have h63 : n + m ≤ maxLen := by unfold maxLen; omega
  rcases A with _ | ad
  · have hm : m = 0 := by
      rcases Nat.eq_zero_or_pos m with h0 | h0
      · exact h0
      · obtain ⟨ad, h, _⟩ := hr.2 h0
        cases h
    subst hm
    have hn : news = [] := List.eq_nil_of_length_eq_zero (by simpa using hr.1)
    subst hn
    exact ⟨v, w, run_app_nil w base t ty e i sz ht hi v n xs hown c, by simpa using hown, World.grownBy.refl w _⟩
  · obtain ⟨v', w', hrun, h2, h3, _⟩ := run_append_own_wide (P := P) w base t ty e i z sz bytes ht hi hz hsize hby hzs hsz v n xs hown ad m c news hr.1 (fun j u hu => hr.cells j u hu) h1 h63 hbytes hbase
    exact ⟨v', w', hrun, h2, h3⟩

theorem wl_append {P : Program} {w : World} {ops : Array Oper} {rest : List Oper} {dst : Option Tmp} {ty : TypeId} {ps : String} {af : Array Edge} {a : Act} {Q : Exit → Act → World → Prop} (s x : Operand) (t : TypeId)
    (base : Nat) (e : TypeId) (i : TypeInfo) (z : Value) (sz bytes : Nat) (ht : P.underlying t = some (.slice e)) (hi : P.info? e = some i) (hz : i.zero = some z)
    (hsize : i.size = sz) (hby : i.bytes = bytes) (hzs : z.cells.size = sz) (hsz : 0 < sz)
    (v : Value) (n : Nat) (xs : List Value) (hs : a.eval s = v) (hown : w.ownsRow base e sz v n xs)
    (A : Option Addr) (m c : Nat) (news : List Value) (hx : a.eval x = .slice A m c) (hr : Rd w sz A m news) (h1 : ∀ u ∈ news, u.oneCell' = true)
    (hbytes : ((n + m) + (n + m) / 4 + 192) * bytes ≤ 281474976710656) (hnm : n + m ≤ 281474976710656) (hbase : base ≤ w.heap.size)
    (h : ∀ v' w', w'.ownsRow base e sz v' (n + m) (xs ++ news) → w.grownBy w' v.ownBlock → wpList P ops Q rest (a.put dst v') w') :
    wpList P ops Q (⟨dst, .call { callee := .builtin .append, args := #[s, x], argTypes := #[t, t] }, ty, ps, af, none⟩ :: rest) a w :=
  wpList_plain rfl fun _ hK => by
    obtain ⟨v', w', hrun, h2, h3⟩ := run_app_wide (P := P) w base t ty e i z sz bytes ht hi hz hsize hby hzs hsz v n xs hown A m c news hr h1 hbytes hnm hbase
    unfold Oper.wp execOp
    simp only [resolve, invoke, builtin, Sem.run_bind, Sem.run_pure, Result.andThen_ok, List.map_toArray, List.map_cons, List.map_nil, hs, hx, hrun]
    exact hK _ _ (h v' w' h2 h3)

/-- the same, under a guard that holds -/
theorem wl_append_g {P : Program} {w : World} {ops : Array Oper} {rest : List Oper} {dst : Option Tmp} {ty : TypeId} {ps : String} {af : Array Edge} {gd : Nat × Bool} {a : Act} {Q : Exit → Act → World → Prop} (s x : Operand) (t : TypeId)
    (hw : Region.wanted ⟨dst, .call { callee := .builtin .append, args := #[s, x], argTypes := #[t, t] }, ty, ps, af, some gd⟩ (yielded ops a.tmps) = true)
    (base : Nat) (e : TypeId) (i : TypeInfo) (z : Value) (sz bytes : Nat) (ht : P.underlying t = some (.slice e)) (hi : P.info? e = some i) (hz : i.zero = some z)
    (hsize : i.size = sz) (hby : i.bytes = bytes) (hzs : z.cells.size = sz) (hsz : 0 < sz)
    (v : Value) (n : Nat) (xs : List Value) (hs : a.eval s = v) (hown : w.ownsRow base e sz v n xs)
    (A : Option Addr) (m c : Nat) (news : List Value) (hx : a.eval x = .slice A m c) (hr : Rd w sz A m news) (h1 : ∀ u ∈ news, u.oneCell' = true)
    (hbytes : ((n + m) + (n + m) / 4 + 192) * bytes ≤ 281474976710656) (hnm : n + m ≤ 281474976710656) (hbase : base ≤ w.heap.size)
    (h : ∀ v' w', w'.ownsRow base e sz v' (n + m) (xs ++ news) → w.grownBy w' v.ownBlock → wpList P ops Q rest (a.put dst v') w') :
    wpList P ops Q (⟨dst, .call { callee := .builtin .append, args := #[s, x], argTypes := #[t, t] }, ty, ps, af, some gd⟩ :: rest) a w :=
  wpList_step fun K hK => by
    rw [if_pos hw]
    obtain ⟨v', w', hrun, h2, h3⟩ := run_app_wide (P := P) w base t ty e i z sz bytes ht hi hz hsize hby hzs hsz v n xs hown A m c news hr h1 hbytes hnm hbase
    unfold Oper.wp execOp
    simp only [resolve, invoke, builtin, Sem.run_bind, Sem.run_pure, Result.andThen_ok, List.map_toArray, List.map_cons, List.map_nil, hs, hx, hrun]
    exact hK _ _ (h v' w' h2 h3)
theorem cv_one (l : List Cd.Ins) : ∀ u ∈ cv l, u.oneCell' = true := by
  intro u hu
  obtain ⟨i, _, h⟩ := List.mem_flatMap.1 hu
  exact insC_one i u h

theorem own_empty (w : World) (e : TypeId) (sz : Nat) : (w.alloc (.cells #[] e)).ownsRow w.heap.size e sz (.slice (some ⟨w.heap.size, 0, none⟩) 0 0) 0 [] :=
  ⟨by simp, .inr ⟨w.heap.size, 0, #[], rfl, Nat.le_refl _, Blk.new _ _ _, Nat.le_refl _, Nat.zero_le _, by simp, by simp⟩⟩

theorem decode_len2 {bs : List UInt8} {l : List Cd.Ins} {p : Nat} {e : Int} (h : Cd.decode bs = (l, p, e)) : l.length ≤ 4096 := by have := @decode_length bs; rw [h] at this; exact this

set_option maxHeartbeats 4000000 in
theorem CodeJoins_any (A B : Option Addr) (N M c d : Nat) (aa bs : List UInt8) (w : World) (hR : Rd w 1 A N (bv aa)) (hS : Rd w 1 B M (bv bs)) (hc : N ≤ c) (hd' : M ≤ d) (hN : N ≤ 140737488355328) (hM : M ≤ 140737488355328) :
    Calls Try.prog 13 #[.slice A N c, .slice B M d] w fun e w' => e = .returned (.bool true) ∧ Ext w w' := by
  have hl : aa.length = N := by have := hR.1; rw [bv_length] at this; omega
  have hl2 : bs.length = M := by have := hS.1; rw [bv_length] at this; omega
  obtain ⟨l, p, e, hD⟩ : ∃ l p e, Cd.decode aa = (l, p, e) := ⟨_, _, _, rfl⟩
  obtain ⟨m, u, f, hE⟩ : ∃ m u f, Cd.decode bs = (m, u, f) := ⟨_, _, _, rfl⟩
  by_cases he : e = 0
  · subst he
    obtain ⟨hj1, hj2⟩ := Cd.joins_law hD hE
    have hw1 := Cd.wid_two l
    have hl4 := decode_len2 hD
    have hm4 := decode_len2 hE
    obtain ⟨k, q, g, hF⟩ : ∃ k q g, Cd.decode (aa ++ bs) = (k, q, g) := ⟨_, _, _, rfl⟩
    rw [hF, hl, hl2] at hj2
    rw [hl] at hj1
    have hN6 : N ≤ 65536 := by omega
    have hub : u ≤ 140737488355328 := by
      by_cases h : f = 0
      · subst h
        have := (Cd.decode_ok hE).1
        omega
      · have := (Cd.decode_bad hE h).2.1
        omega
    have HUB := hd hub
    clear hub
    have HD := hd hD
    have HE := hd hE
    have HF := hd hF
    have HJ := hd hj2
    have HK := hd (decode_len2 hF)
    have HL4 := hd hl4
    have HM4 := hd hm4
    have e10 : (8 * (Cd.wid l : Int) != (N : Int)) = false := by simp; omega
    have hw8 : (Cd.wid l : Int) ≤ 8192 := by omega
    have HU := hd (show (nv (Cd.units l))[l.length]? = some (.int .i64 (Cd.wid l : Int)) by have hU := Cd.units_last l; simp [nv, iv, hU])
    obtain ⟨i5, hi0, hz0, hz1, hz2⟩ := info_parts info5
    have HI : Hid (Try.prog.info? 5 = some i5 ∧ i5.zero = some (.int .u8 0) ∧ i5.size = 1 ∧ i5.bytes = 1) := hd ⟨hi0, hz0, hz1, hz2⟩
    clear hD hE hF hj1 hj2 hw1 hl4 hm4 hi0 hz0 hz1 hz2 hl hl2
    go_enter Try.func13, Try.ntmps13
    go_upto_region 7 with (first | (go_at_call 40; (with_reducible refine (known_any _).mono ?_); rintro e v1 ⟨rfl, hX1⟩) | (go_at_call 42; (with_reducible refine (CDecode_any A N c aa _ (hR.ext hX1) hc (by omega)).mono ?_); rw [HD.out]; rintro e v2 ⟨B2, n2, d2, rfl, rfl, own2, hX2⟩) | (go_at_call 42; (with_reducible refine (CDecode_any B M d bs _ (hS.ext (hX1.trans hX2)) hd' (by omega)).mono ?_); rw [HE.out]; rintro e v3 ⟨B3, n3, d3, rfl, rfl, own3, hX3⟩))
    have X3 := (hX1.trans hX2).trans hX3
    have rl3 := (Rd.of_own own2).ext hX3
    have rm3 := Rd.of_own own3
    clear own2 own3 hX1 hX2 hX3
    go_upto_region 8 with (first | ((with_reducible refine wl_append (P := Try.prog) _ _ 22 v3.heap.size 5 i5 (.int .u8 0) 1 1 Try.underlying22 HI.out.1 HI.out.2.1 HI.out.2.2.1 HI.out.2.2.2 ?_ ?_ (.slice (some ⟨v3.heap.size, 0, none⟩) 0 0) 0 [] ?_ (own_empty v3 5 1) A N c (bv aa) ?_ ((hR.ext X3).alloc _) (bv_one _) ?_ ?_ ?_ ?_); rfl; omega; rfl; rfl; omega; omega; (simp); (intro v' w4 own4 hg4; rw [Nat.zero_add, List.nil_append] at own4; have X34 := (Ext.new v3 _).grown_own (own_empty v3 5 1) hg4 (Nat.le_refl _))) | ((with_reducible refine wl_append (P := Try.prog) _ _ 22 v3.heap.size 5 i5 (.int .u8 0) 1 1 Try.underlying22 HI.out.1 HI.out.2.1 HI.out.2.2.1 HI.out.2.2.2 ?_ ?_ v' N (bv aa) ?_ own4 B M d (bv bs) ?_ (hS.ext (X3.trans X34)) (bv_one _) ?_ ?_ ?_ ?_); rfl; omega; rfl; rfl; omega; omega; exact X34.size; (intro v'' w5 own5 hg5; have X35 := X34.grown_own own4 hg5 (Nat.le_refl _); obtain ⟨B5, d5, rfl, -⟩ := own_form own5)))
    have X5 := X3.trans X35
    have hcap := own_cap own5
    have rb5 : Rd w5 1 B5 (N + M) (bv (aa ++ bs)) := by rw [bv_append]; exact Rd.of_own own5
    have rl5 := rl3.ext X35
    have rm5 := rm3.ext X35
    clear own5 rl3 rm3 X3 X35
    go_upto_region 10 with (first | (go_at_call 42; (with_reducible refine (CDecode_any B5 (N + M) d5 (aa ++ bs) _ rb5 hcap (by omega)).mono ?_); rw [HF.out]; rintro e v6 ⟨B6, n6, d6, rfl, rfl, own6, hX6⟩) | (go_at_call 51; (with_reducible refine (Units_any B2 l.length d2 l _ (rl5.ext hX6) (by have := HL4.out; omega)).mono ?_); rintro e v7 ⟨B7, d7, rfl, own7, hX7⟩))
    obtain ⟨b7, o7, rfl, hc7⟩ := (Rd.of_own own7).form (by omega) (by omega)
    have cu := hc7 _ _ HU.out
    have X7 := (X5.trans hX6).trans hX7
    have rl7 := rl5.ext (hX6.trans hX7)
    have rm7 := rm5.ext (hX6.trans hX7)
    have rk7 := (Rd.of_own own6).ext hX7
    have hub : u ≤ 140737488355328 := HUB.out
    clear hc7 own6 own7 hX6 hX7 rl5 rm5 rb5 X5 HU
    rcases HJ.out with ⟨q', hq, hbig⟩ | ⟨f0, f25, hq⟩ | ⟨f0, hq⟩
    · injection hq with a1 a2
      injection a2 with a2 a3
      subst a1 a2 a3
      have hl4 : l.length ≤ 4096 := HL4.out
      have e11 : (32768 : Int) < (N : Int) + (M : Int) := by omega
      clear HJ HF HE HD HK HL4 HM4 HI HUB hbig rk7 rl7 rm7 hcap hub
      go_wp2
      go_ret
      exact ⟨ret_bool (by simp), X7⟩
    · injection hq with a1 a2
      injection a2 with a2 a3
      subst a1 a2 a3
      have eb : (g != 0) = true := by simpa using f0
      have e25 : (g == 25) = false := by simpa using f25
      have hl4 : l.length ≤ 4096 := HL4.out
      have hub2 : (u : Int) ≤ 140737488355328 := by omega
      clear HJ HF HE HD HK HL4 HM4 HI HUB f0 f25 rk7 rl7 rm7 hcap hub
      go_wp2
      go_ret
      exact ⟨ret_bool (by simp), X7⟩
    · injection hq with a1 a2
      injection a2 with a2 a3
      subst a1 a2 a3 f0
      obtain ⟨i6, hi0, hz0, hz1, hz2⟩ := info_parts info64
      have HI6 : Hid (Try.prog.info? 64 = some i6 ∧ i6.zero = some (.agg #[.int .i64 0, .bool false, .bool false, .int .i64 0, .int .i64 0, .int .i64 0, .int .i64 0, .int .i64 0]) ∧ i6.size = 8 ∧ i6.bytes = 56) := hd ⟨hi0, hz0, hz1, hz2⟩
      have h8 : l.length + m.length ≤ 8192 := by have := HL4.out; have := HM4.out; omega
      clear hi0 hz0 hz1 hz2
      rw [List.length_append] at rk7
      go_upto_region 16 with (fail)
      go_wp2_with (first | ((with_reducible refine wl_append_g (P := Try.prog) _ _ 57 ?_ v7.heap.size 64 i6 (.agg #[.int .i64 0, .bool false, .bool false, .int .i64 0, .int .i64 0, .int .i64 0, .int .i64 0, .int .i64 0]) 8 56 Try.underlying57 HI6.out.1 HI6.out.2.1 HI6.out.2.2.1 HI6.out.2.2.2 ?_ ?_ (.slice (some ⟨v7.heap.size, 0, none⟩) 0 0) 0 [] ?_ (own_empty v7 64 8) B2 l.length d2 (cv l) ?_ (rl7.alloc _) (cv_one _) ?_ ?_ ?_ ?_); rfl; rfl; omega; rfl; rfl; omega; omega; (simp); (intro v' w8 own8 hg8; rw [Nat.zero_add, List.nil_append] at own8; have X78 := (Ext.new v7 _).grown_own (own_empty v7 64 8) hg8 (Nat.le_refl _))) | ((with_reducible refine wl_append_g (P := Try.prog) _ _ 57 ?_ v7.heap.size 64 i6 (.agg #[.int .i64 0, .bool false, .bool false, .int .i64 0, .int .i64 0, .int .i64 0, .int .i64 0, .int .i64 0]) 8 56 Try.underlying57 HI6.out.1 HI6.out.2.1 HI6.out.2.2.1 HI6.out.2.2.2 ?_ ?_ v' l.length (cv l) ?_ own8 B3 m.length d3 (cv m) ?_ (rm7.ext X78) (cv_one _) ?_ ?_ ?_ ?_); rfl; rfl; omega; rfl; rfl; omega; omega; exact X78.size; (intro v'' w9 own9 hg9; have X79 := X78.grown_own own8 hg9 (Nat.le_refl _); obtain ⟨B9, d9, rfl, -⟩ := own_form own9; rw [← cv_append] at own9)) | (go_at_call 44; (with_reducible refine (same_any _ _ (l.length + m.length) (l.length + m.length) _ _ (l ++ m) (l ++ m) _ (rk7.ext X79) (Rd.of_own own9) (by omega) (by omega)).mono ?_); rintro e' v10 ⟨r, hr, rfl, hX10⟩; obtain rfl : r = true := hr.mpr rfl))
      go_ret
      exact ⟨ret_bool (by simp), (X7.trans X79).trans hX10⟩
  · obtain ⟨rfl, -⟩ := Cd.decode_bad hD he
    have HD := hd hD
    have eb : (e != 0) = true := by simpa using he
    clear hD he hE hl hl2
    go_enter Try.func13, Try.ntmps13
    go_wp2_with (first | (go_at_call 40; (with_reducible refine (known_any _).mono ?_); rintro e v1 ⟨rfl, hX1⟩) | (go_at_call 42; (with_reducible refine (CDecode_any A N c aa _ (hR.ext hX1) hc (by omega)).mono ?_); rw [HD.out]; rintro e v2 ⟨B2, n2, d2, rfl, rfl, own2, hX2⟩))
    go_ret
    exact ⟨rfl, hX1.trans hX2⟩

end Go.Proofs.Ytfcbedkidjclhaa
