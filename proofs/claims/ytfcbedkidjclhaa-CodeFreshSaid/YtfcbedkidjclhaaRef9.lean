/-
  The contract of the document's Decode: the list, or the first fault and its unit.
  Conditions: the bytes can be read, no more than may be handed in.
-/
import Derived.Test.YtfcbedkidjclhaaRef8
import Derived.Test.YtfcbedkidjclhaaCode16
namespace Go.Proofs.Ytfcbedkidjclhaa
open Go.RowKit
set_option maxRecDepth 100000
set_option linter.unusedSimpArgs false
set_option linter.unusedVariables false

/-- the list so far, the call's own -/
structure Col (w W : World) (base : Nat) (v : Value) (n : Nat) (l : List Cd.Ins) : Prop where
  own : W.ownsRow base 64 8 v n (cv l)
  app : Ext w W
  le : base ≤ W.heap.size
  ge : w.heap.size ≤ base
theorem Col.step {w W W' : World} {base : Nat} {v v' : Value} {n n' : Nat} {l l' : List Cd.Ins} (h : Col w W base v n l) (ho : W'.ownsRow base 64 8 v' n' (cv l')) (ha : App W W' v v') : Col w W' base v' n' l' :=
  ⟨ho, ha.ext_own h.app h.own h.ge, Nat.le_trans h.le ha.size, h.ge⟩
theorem Col.ext_ {w W W' : World} {base : Nat} {v : Value} {n : Nat} {l : List Cd.Ins} (h : Col w W base v n l) (k : Ext W W') : Col w W' base v n l :=
  ⟨k.own h.own, h.app.trans k, Nat.le_trans h.le k.size, h.ge⟩
theorem Col.start (w : World) : Col w w w.heap.size (.slice none 0 0) 0 [] := ⟨World.ownsRow_nil .., Ext.refl _, Nat.le_refl _, Nat.le_refl _⟩

theorem wl_app64 {ops : Array Oper} {rest : List Oper} {dst : Option Tmp} {ty : TypeId} {ps : String} {af : Array Edge} {a : Act} {w W : World} {Q : Exit → Act → World → Prop} (x y : Operand) (base n : Nat) (v : Value) (xs : List Cd.Ins)
    {op sz d s f m : Int} {nr rg : Bool} (hO : Col w W base v n xs) (hn : n ≤ 5000) (hx : a.eval x = v) (hy : a.eval y = .slice (some ⟨W.heap.size, 0, none⟩) 1 1)
    (h : ∀ v' W', Col w W' base v' (n + 1) (xs ++ [⟨op, nr, rg, sz, d, s, f, m⟩]) → App W W' v v' → wpList Try.prog ops Q rest (a.put dst v') W') :
    wpList Try.prog ops Q (⟨dst, .call { callee := .builtin .append, args := #[x, y], argTypes := #[57, 57] }, ty, ps, af, none⟩ :: rest) a
      (W.alloc (.cells #[.int .i64 op, .bool nr, .bool rg, .int .i64 sz, .int .i64 d, .int .i64 s, .int .i64 f, .int .i64 m] 64)) := by
  obtain ⟨i0, hi0, hz0, hz1, hz2⟩ := info_parts info64
  have hRow := Rd.eight W ⟨op, nr, rg, sz, d, s, f, m⟩
  have hOne := insC_one ⟨op, nr, rg, sz, d, s, f, m⟩
  have hS := cv_snoc xs ⟨op, nr, rg, sz, d, s, f, m⟩
  refine wpList_app _ rfl x y 57 rfl base 64 i0 _ 8 56 Try.underlying57 hi0 hz0 hz1 hz2 rfl (by omega) v n (cv xs) hx (hO.own.alloc _) (some ⟨W.heap.size, 0, none⟩) 1 1 _ hy hRow (by simpa using hOne) (by omega) (by omega) (by have := hO.le; simp; omega) ?_
  intro v' W' ho hg ha
  rw [← hS] at ho
  refine (fun (z : _ ∧ _) => h v' W' z.1 z.2) ?_
  have hA := (App.of_ext (Ext.new W _) v).trans (App.of_law hg ha)
  exact ⟨hO.step ho hA, hA⟩

theorem slice_from (b o N c k : Nat) (hk : k < N) (hc : N ≤ c) (v : World) :
    Sem.run Try.prog (Instr.slice 22 (.slice (some ⟨b, o, none⟩) N c) (some (.int .i64 (k : Int))) none none) v = .ok (.slice (some ⟨b, o + k, none⟩) (N - k) (c - k)) v := by
  have h1 : (k : Int) ≤ (N : Int) := by omega
  have h2 : (N : Int) ≤ (c : Int) := by omega
  have h3 : ¬ c = k := by omega
  simp [go_sem, Try.underlying22, h1, h2, h3]

theorem one_post_err {er : Int} {w w' : World} {e : Ending} (h : OnePost (.error er) w e w') : e = .returned (.tuple #[.agg #[.int .i64 0, .bool false, .bool false, .int .i64 0, .int .i64 0, .int .i64 0, .int .i64 0, .int .i64 0], .int .i64 0, .int .i64 er]) ∧ Ext w w' := by
  rcases h with ⟨er', he, h1, h2⟩ | ⟨x, k, he, _⟩
  · obtain rfl := Except.error.inj he
    exact ⟨h1, h2⟩
  · cases he
theorem one_post_ok {op s d r f i : Int} {n g : Bool} {k : Nat} {w w' : World} {e : Ending} (h : OnePost (.ok (⟨op, n, g, s, d, r, f, i⟩, k)) w e w') : e = .returned (.tuple #[.agg #[.int .i64 op, .bool n, .bool g, .int .i64 s, .int .i64 d, .int .i64 r, .int .i64 f, .int .i64 i], .int .i64 k, .int .i64 0]) ∧ Ext w w' := by
  rcases h with ⟨er', he, _⟩ | ⟨x, k', he, h1, h2⟩
  · cases he
  · obtain ⟨rfl, rfl⟩ := Prod.mk.inj (Except.ok.inj he)
    exact ⟨h1, h2⟩

set_option maxHeartbeats 4000000 in
theorem RDecode_any (A : Option Addr) (N c : Nat) (bs : List UInt8) (w : World) (hR : Rd w 1 A N (bv bs)) (hc : N ≤ c) (hN : N ≤ 281474976710656) :
    Calls Try.prog 43 #[.slice A N c] w (CDecPost (Cd.decode bs) w) := by
  have hl : bs.length = N := by have := hR.1; rw [bv_length] at this; omega
  rw [decode_res]
  obtain ⟨X, hX⟩ : ∃ X, Cd.readFrom bs bs.length [] 0 = X := ⟨_, rfl⟩
  rw [hX]
  have HX := hd hX
  clear hX
  have HL := hd hl
  clear hl
  go_enter Try.func43, Try.ntmps43
  go_upto_region 2 with (go_at_call 48; (with_reducible refine (refRows_any _).mono ?_); rintro e W ⟨vr, rfl, hT⟩)
  obtain ⟨Ar, cr, rfl, -⟩ := own_form hT.own
  have hE := hT.app
  have hrr := Rd.of_own hT.own
  clear hT
  go_wp2
  go_loopw [6, 7] (fun v i wr => ∃ (p n : Nat) (l : List Cd.Ins) (f : Nat), i = .int .i64 p ∧ Col W wr W.heap.size v n l ∧ n = l.length ∧ 8 * p ≤ N ∧ n ≤ 4096 ∧ Hid (bs.length ≤ p + f ∧ Cd.readFrom bs f l p = X)) (fun _ i _ => N - (intOf i).toNat)
  case atStart => exact ⟨0, 0, [], bs.length, rfl, Col.start W, rfl, by omega, by omega, hd ⟨by omega, HX.out⟩⟩
  case round =>
    obtain ⟨p, n, l, f, rfl, hO, hnl, hp, hn, HF⟩ := hrel
    obtain rfl := hnl
    obtain ⟨B, d, rfl, -⟩ := own_form hO.own
    by_cases hlt : 8 * p < N
    · have e1 : 8 * (p : Int) < N := by omega
      obtain ⟨f', hf'⟩ : ∃ f', f = f' + 1 := ⟨f - 1, by have := HF.out.1; have := HL.out; omega⟩
      by_cases hm : l.length = 4096
      · have e2 : ((l.length : Int) == 4096) = true := by simp; omega
        have hXe : X = .error (p, 25) := by
          rw [← HF.out.2, hf', Cd.readFrom, if_pos (by rw [HL.out]; omega), if_pos (by omega)]
        have HXE := hd hXe
        clear hXe hm hf'
        go_wp2
        refine bodyPost_ret (v := .tuple #[.slice none 0 0, .int .i64 p, .int .i64 25]) (by simp [results, Try.results43, go_sem]) rfl ?_
        rw [HXE.out]
        exact ⟨none, 0, 0, rfl, rfl, World.ownsRow_nil _ _ _ _, hE.trans hO.app⟩
      · have e2 : ((l.length : Int) == 4096) = false := by simp; omega
        obtain ⟨b, o, hA, hcell⟩ := hR.form (by omega) (by omega)
        subst hA
        have hbw := World.block_lt_of_cell? w _ (hcell 0 _ (List.getElem?_eq_getElem (by rw [bv_length, HL.out]; omega)))
        simp only at hbw
        have hEw := hE.trans hO.app
        have hsl := slice_from b o N c (8 * p) hlt hc
        have hcut : ∀ W2, Ext wr W2 → Rd W2 1 (some ⟨b, o + 8 * p, none⟩) (N - 8 * p) (bv (bs.drop (8 * p))) := fun W2 h2 => by
          have := (hR.ext (hEw.trans h2)).mid (i := 8 * p) (k := N - 8 * p) (by omega)
          rwa [List.take_of_length_le (by rw [List.length_drop, HL.out]; omega)] at this
        have K86 : ∀ W2, Ext wr W2 → Calls Try.prog 86 #[.slice Ar 139 cr, .slice (some ⟨b, o + 8 * p, none⟩) (N - 8 * p) (c - 8 * p)] W2 (OnePost (Cd.next (bs.drop (8 * p))) W2) := fun W2 h2 => by
          rw [← Rf.one_eq]
          refine one_any Ar cr _ _ _ _ W2 (hrr.ext (hO.app.trans h2)) (hcut W2 h2) (by omega) (by omega) ?_
          intro ad e
          injection e with e
          subst e
          have := (hEw.trans h2).size
          exact .inl (by simp only; omega)
        clear hcut hcell
        rcases hZ : Cd.next (bs.drop (8 * p)) with er | ⟨x, k⟩
        · rw [hZ] at K86
          have HK := hd K86
          have hXe : X = .error (p, er) := by
            rw [← HF.out.2, hf', Cd.readFrom, if_pos (by rw [HL.out]; omega), if_neg (by omega), hZ]
          have HXE := hd hXe
          have hne := Cd.next_error hZ
          have ene : (er != 0) = true := by simp; omega
          clear K86 hZ hf' hXe hne HF
          go_upto_region 9 with (go_at_call 86; (with_reducible refine (HK.out _ (Ext.refl _)).mono ?_); intro e v6 hP; obtain ⟨rfl, hX6⟩ := one_post_err hP; clear hP)
          go_wp2
          refine bodyPost_ret (v := .tuple #[.slice none 0 0, .int .i64 p, .int .i64 er]) (by simp [results, Try.results43, go_sem]) rfl ?_
          rw [HXE.out]
          exact ⟨none, 0, 0, rfl, rfl, World.ownsRow_nil _ _ _ _, (hEw.trans hX6).alloc _⟩
        · rw [hZ] at K86
          have HK := hd K86
          have hnl := Cd.next_law hZ
          have hF2 := HF.out.2
          rw [hf', Cd.readFrom, if_pos (by rw [HL.out]; omega), if_neg (by omega), hZ] at hF2
          have hkp := hnl.2.2.2.1
          have hkw := Cd.width_pos x
          rw [← hnl.2.2.1] at hkw
          rw [List.length_drop, HL.out] at hkp
          have HF2 := hd (⟨by have := HF.out.1; omega, hF2⟩ : bs.length ≤ (p + k) + f' ∧ Cd.readFrom bs f' (l ++ [x]) (p + k) = X)
          clear K86 hF2 hnl HF hf' hZ
          obtain ⟨xop, xn, xr, xs, xd, xx, xo, xi⟩ := x
          go_upto_region 8 with (go_at_call 86; (with_reducible refine (HK.out _ (Ext.refl _)).mono ?_); intro e v6 hP; obtain ⟨rfl, hX6⟩ := one_post_ok hP; clear hP)
          have hO6 := hO.ext_ (hX6.alloc (.cells #[.int .i64 xop, .bool xn, .bool xr, .int .i64 xs, .int .i64 xd, .int .i64 xx, .int .i64 xo, .int .i64 xi] 64))
          have hB6 := Blk.new v6 64 #[.int .i64 xop, .bool xn, .bool xr, .int .i64 xs, .int .i64 xd, .int .i64 xx, .int .i64 xo, .int .i64 xi]
          obtain ⟨g6, hg6⟩ : ∃ g6, v6.heap.size = g6 := ⟨_, rfl⟩
          rw [hg6] at hB6 ⊢
          generalize v6.alloc (.cells #[.int .i64 xop, .bool xn, .bool xr, .int .i64 xs, .int .i64 xd, .int .i64 xx, .int .i64 xo, .int .i64 xi] 64) = v7 at hO6 hB6 ⊢
          obtain ⟨p0, p1, p2, p3, p4, p5, p6, p7⟩ := hB6.c8
          go_wp2_with ((with_reducible refine wl_app64 _ _ W.heap.size _ _ _ hO6 ?_ ?_ ?_ ?_); omega; exact rfl; exact rfl; clear hO6; intro v8 W8 hO8 hA8; clear hA8)
          go_roundw
          case rel => exact ⟨p + k, l.length + 1, l ++ [⟨xop, xn, xr, xs, xd, xx, xo, xi⟩], f', by go_num, hO8, by simp, by omega, by omega, HF2⟩
          case measure => simp [intOf]; omega
    · have hXe : X = .ok l := by
        rw [← HF.out.2, Cd.readFrom_end (by rw [HL.out]; omega)]
      have HXE := hd hXe
      have e1 : ¬ 8 * (p : Int) < N := by omega
      clear hXe
      go_wp2
      refine bodyPost_ret (v := .tuple #[.slice B l.length d, .int .i64 0, .int .i64 0]) (by simp [results, Try.results43, go_sem]) rfl ?_
      rw [HXE.out]
      exact ⟨B, l.length, d, rfl, rfl, own_base hO.own hE.size, hE.trans hO.app⟩

end Go.Proofs.Ytfcbedkidjclhaa
