/-
  The contract of package code's Decode: the list, or the first fault and its unit.
  Conditions: the bytes can be read, no more than may be handed in.
-/
import Derived.Test.YtfcbedkidjclhaaCode14
import Derived.Test.YtfcbedkidjclhaaCode15
import Derived.Test.YtfcbedkidjclhaaCode6
import Derived.Test.YtfcbedkidjclhaaCodeL4
namespace Go.Proofs.Ytfcbedkidjclhaa
open Go.RowKit
set_option maxRecDepth 100000
set_option linter.unusedSimpArgs false
set_option linter.unusedVariables false

/-- what Decode answers -/
def CDecPost (r : List Cd.Ins × Nat × Int) (w : World) (e : Ending) (w' : World) : Prop :=
  ∃ B n d, n = r.1.length ∧ e = .returned (.tuple #[.slice B n d, .int .i64 (r.2.1 : Nat), .int .i64 r.2.2]) ∧ w'.ownsRow w.heap.size 64 8 (.slice B n d) n (cv r.1) ∧ Ext w w'
/-- the boxes of Decode, between two rounds -/
structure DS (w W : World) (s1 s2 s3 : Nat) (A : Option Addr) (N c p : Nat) (B : Option Addr) (n d : Nat) (l : List Cd.Ins) : Prop where
  ext : Ext w W
  b0 : Blk W w.heap.size 57 #[.slice B n d]
  b1 : Blk W s1 3 #[.int .i64 0]
  b2 : Blk W s2 36 #[.int .i64 0]
  b3 : Blk W s3 126 #[.slice A N c, .int .i64 (p : Nat)]
  own : W.ownsRow (s3 + 1) 64 8 (.slice B n d) n (cv l)
  len : n = l.length
def atOf (g : Nat) (w : World) : Nat := match w.cell? ⟨g, 1, none⟩ with | some v => (intOf v).toNat | none => 0
def decRes (X : Except (Nat × Int) (List Cd.Ins)) : List Cd.Ins × Nat × Int := match X with | .error (p, e) => ([], p, e) | .ok l => (l, 0, 0)
theorem decode_res (bs : List UInt8) : Cd.decode bs = decRes (Cd.readFrom bs bs.length [] 0) := by
  unfold Cd.decode decRes
  cases Cd.readFrom bs bs.length [] 0 <;> rfl

theorem info64 : (Try.prog.info? 64).map (fun i => (i.zero, i.size, i.bytes)) = some (some (.agg #[.int .i64 0, .bool false, .bool false, .int .i64 0, .int .i64 0, .int .i64 0, .int .i64 0, .int .i64 0]), 8, 56) := by kernel_rfl
theorem insC_one (i : Cd.Ins) : ∀ u ∈ (insC i).toList, u.oneCell' = true := by
  intro u hu
  simp [insC] at hu
  rcases hu with rfl | rfl | rfl | rfl | rfl | rfl | rfl | rfl <;> rfl

theorem cv_snoc (l : List Cd.Ins) (x : Cd.Ins) : cv (l ++ [x]) = cv l ++ (insC x).toList := by simp [cv]
theorem own_slice {w : World} {base n : Nat} {e : TypeId} {v : Value} {xs : List Value} (h : w.ownsRow base e 8 v n xs) : ∃ B d, v = .slice B n d := by
  rcases h.2 with ⟨h1, h0⟩ | ⟨g, cap, cur, hv, _⟩
  · exact ⟨none, 0, by rw [h1, h0]⟩
  · exact ⟨_, _, hv⟩
theorem Rd.eight (w : World) (i : Cd.Ins) : Rd (w.alloc (.cells (insC i) 64)) 8 (some ⟨w.heap.size, 0, none⟩) 1 (insC i).toList := by
  refine ⟨rfl, fun _ => ⟨_, rfl, fun j u hu => ?_⟩⟩
  rw [show (⟨w.heap.size, 0, none⟩ : Addr).add j = ⟨w.heap.size, j, none⟩ by unfold Addr.add; split <;> simp_all, (Blk.new w 64 (insC i)).cell j]
  simpa using hu

set_option maxHeartbeats 4000000 in
theorem CDecode_any (A : Option Addr) (N c : Nat) (bs : List UInt8) (w : World) (hR : Rd w 1 A N (bv bs)) (hc : N ≤ c) (hN : N ≤ 281474976710656) :
    Calls Try.prog 42 #[.slice A N c] w (CDecPost (Cd.decode bs) w) := by
  have hl : bs.length = N := by have := hR.1; rw [bv_length] at this; omega
  have hmf : ∀ (fn : Fn) (first cap : Array Value) (w : World), (Instr.makeFunc fn first cap).run Try.prog w = .ok (.func fn first cap) w := fun _ _ _ _ => rfl
  rw [decode_res]
  obtain ⟨X, hX⟩ : ∃ X, Cd.readFrom bs bs.length [] 0 = X := ⟨_, rfl⟩
  rw [hX]
  have HX := hd hX
  clear hX
  have HL := hd hl
  clear hl
  go_enter_defers Try.func42, Try.ntmps42
  go_wp2
  refine wp_world (fun W => DS w W (w.heap.size + 1) (w.heap.size + 1 + 1) (w.heap.size + 1 + 1 + 1) A N c 0 none 0 0 []) ⟨(((Ext.new _ _).alloc _).alloc _).alloc _, (((Blk.new _ _ _).alloc _).alloc _).alloc _, by simpa using (((Blk.new (w.alloc _) 3 #[.int .i64 0]).alloc _).alloc _), by simpa using ((Blk.new ((w.alloc _).alloc _) 36 #[.int .i64 0]).alloc _), by simpa using (Blk.new (((w.alloc _).alloc _).alloc _) 126 #[.slice A N c, .int .i64 0]), World.ownsRow_nil _ _ _ _, rfl⟩ ?_
  generalize hs1 : w.heap.size + 1 = s1
  generalize hs2 : s1 + 1 = s2
  generalize hs3 : s2 + 1 = s3
  intro W0 hD0
  go_loopw [] (fun wr => ∃ (p : Nat) (B : Option Addr) (n d : Nat) (l : List Cd.Ins) (f : Nat), DS w wr s1 s2 s3 A N c p B n d l ∧ 8 * p ≤ N ∧ n ≤ 4096 ∧ Hid (bs.length ≤ p + f ∧ Cd.readFrom bs f l p = X)) (fun wr => N - atOf s3 wr)
  case atStart => exact ⟨0, none, 0, 0, [], bs.length, hD0, by omega, by omega, hd ⟨by omega, HX.out⟩⟩
  case round =>
    obtain ⟨p, B, n, d, l, f, hD, hp, hn, HF⟩ := hrel
    obtain rfl := hD.len
    obtain ⟨r0, r1⟩ := hD.b3.c2
    have c0 := hD.b0.c1
    by_cases hlt : 8 * p < N
    · have e1 : 8 * (p : Int) < N := by omega
      obtain ⟨f', hf'⟩ : ∃ f', f = f' + 1 := ⟨f - 1, by have := HF.out.1; have := HL.out; omega⟩
      by_cases hm : l.length = 4096
      · have e2 : ((l.length : Int) == 4096) = true := by simp; omega
        have hXe : X = .error (p, 25) := by
          rw [← HF.out.2, hf', Cd.readFrom, if_pos (by rw [HL.out]; omega), if_pos (by omega)]
        have HXE := hd hXe
        clear hXe hm hf'
        go_wp2_with (go_at_call 84; (with_reducible refine (giveUp_any s3 _ p 25 _ hD.b3).mono ?_); rintro e v ⟨rfl, rfl⟩)
        refine leaves_cons (f := 83) (args := #[.pointer (some ⟨w.heap.size, 0, none⟩), .pointer (some ⟨s1, 0, none⟩), .pointer (some ⟨s2, 0, none⟩)]) (by simp) (by simp [go_sem]) ?_
        refine (catch_stop w.heap.size s1 s2 _ 0 0 p 25 _ hD.b0 hD.b1 hD.b2 (by omega) (by omega) w.heap.size (Nat.le_refl _)).mono ?_
        rintro e u' w'' ⟨rfl, rfl, hX9, hL9, hQ9, hE9⟩
        have k0 := hL9.c1
        have k1 := hQ9.c1
        have k2 := hE9.c1
        simp [Leaves, settle, results, Try.results42, go_sem, k0, k1, k2]
        rw [HXE.out]
        exact ⟨none, 0, 0, rfl, rfl, World.ownsRow_nil _ _ _ _, hX9 w (Nat.le_refl _) hD.ext⟩
      · have e2 : ((l.length : Int) == 4096) = false := by simp; omega
        have hRr := hR.ext hD.ext
        have hNx := next_any s3 A N c p bs wr.drew hD.b3.drew hRr.drew hc hN hp
        rcases hX2 : Cd.next (bs.drop (8 * p)) with er | ⟨x, k⟩
        · have hXe : X = .error (p, er) := by
            rw [← HF.out.2, hf', Cd.readFrom, if_pos (by rw [HL.out]; omega), if_neg (by omega), hX2]
          have HXE := hd hXe
          rw [hX2] at hNx
          have HN := hd hNx
          clear hXe hf' hX2 hNx
          have PAN : ∀ (tm : Array Value) (v : World), tm.getD 2 undef = .pointer (some ⟨w.heap.size, 0, none⟩) → tm.getD 3 undef = .pointer (some ⟨s1, 0, none⟩) → tm.getD 4 undef = .pointer (some ⟨s2, 0, none⟩) → Gr s3 wr.drew v →
              bodyPostD Try.prog Try.f42 (CDecPost (decRes X) w) (Exit.panic [{ v := .iface 128 (.agg #[.int .i64 p, .int .i64 er]), recovered := false }])
                { tmps := tm, defers := [{ target := .fn (Fn.func 83) #[.pointer (some ⟨w.heap.size, 0, none⟩), .pointer (some ⟨s1, 0, none⟩), .pointer (some ⟨s2, 0, none⟩)], args := #[] }] } v := by
            intro tm v t2 t3 t4 hG
            refine leaves_cons (f := 83) (args := #[.pointer (some ⟨w.heap.size, 0, none⟩), .pointer (some ⟨s1, 0, none⟩), .pointer (some ⟨s2, 0, none⟩)]) (by simp) (by simp [go_sem]) ?_
            refine (catch_stop w.heap.size s1 s2 _ 0 0 p er _ (hG.blk hD.b0.drew (by omega)) (hG.blk hD.b1.drew (by omega)) (hG.blk hD.b2.drew (by omega)) (by omega) (by omega) w.heap.size (Nat.le_refl _)).mono ?_
            rintro e u' w'' ⟨rfl, rfl, hX9, hL9, hQ9, hE9⟩
            have k0 := hL9.c1
            have k1 := hQ9.c1
            have k2 := hE9.c1
            have t2' : tm[2]?.getD undef = .pointer (some ⟨w.heap.size, 0, none⟩) := by simpa using t2
            have t3' : tm[3]?.getD undef = .pointer (some ⟨s1, 0, none⟩) := by simpa using t3
            have t4' : tm[4]?.getD undef = .pointer (some ⟨s2, 0, none⟩) := by simpa using t4
            simp [Leaves, settle, results, Try.results42, go_sem, k0, k1, k2, t2', t3', t4']
            rw [HXE.out]
            exact ⟨none, 0, 0, rfl, rfl, World.ownsRow_nil _ _ _ _, hX9 w (Nat.le_refl _) (hG.ext hD.ext.drew (by omega))⟩
          have HPAN := hd PAN
          clear PAN
          go_upto_region 6 with (fail)
          refine wp_region_any (by kernel_rfl) ?_
          refine wpAny_ready (rs := [0, 1]) (by kernel_rfl) (by simp) (AllReady.cons rfl (fun K hK => ?_) (AllReady.cons rfl (fun K hK => ?_) AllReady.nil))
          · go_simp
            refine hK _ _ ?_
            clear hK K
            refine wpAny_ready (rs := [1]) (by kernel_rfl) (by simp) (AllReady.cons rfl (fun K hK => ?_) AllReady.nil)
            go_simp
            refine hK _ _ ?_
            clear hK K
            refine wpAny_ready (rs := [2]) (by kernel_rfl) (by simp) (AllReady.cons rfl (fun K hK => ?_) AllReady.nil)
            go_simp
            refine HN.out.mono ?_
            rintro e v ⟨rfl, hG⟩
            exact HPAN.out _ _ rfl rfl rfl hG
          · go_simp
            refine hK _ _ ?_
            clear hK K
            refine wpAny_ready (rs := [0, 2]) (by kernel_rfl) (by simp) (AllReady.cons rfl (fun K hK => ?_) (AllReady.cons rfl (fun K hK => ?_) AllReady.nil))
            · go_simp
              refine hK _ _ ?_
              clear hK K
              refine wpAny_ready (rs := [2]) (by kernel_rfl) (by simp) (AllReady.cons rfl (fun K hK => ?_) AllReady.nil)
              go_simp
              refine HN.out.mono ?_
              rintro e v ⟨rfl, hG⟩
              exact HPAN.out _ _ rfl rfl rfl hG
            · go_simp
              refine HN.out.mono ?_
              rintro e v ⟨rfl, hG⟩
              exact HPAN.out _ _ rfl rfl rfl hG
        · have hnl := Cd.next_law hX2
          have hF2 := HF.out.2
          rw [hf', Cd.readFrom, if_pos (by rw [HL.out]; omega), if_neg (by omega), hX2] at hF2
          have hkp := hnl.2.2.2.1
          have hkw := Cd.width_pos x
          rw [← hnl.2.2.1] at hkw
          rw [List.length_drop, HL.out] at hkp
          have HF2 := hd (⟨by have := HF.out.1; omega, hF2⟩ : bs.length ≤ (p + k) + f' ∧ Cd.readFrom bs f' (l ++ [x]) (p + k) = X)
          rw [hX2] at hNx
          clear hF2 hnl hX2 HF hf'
          obtain ⟨xop, xn, xr, xs, xd, xx, xo, xi⟩ := x
          have HN := hd hNx
          clear hNx
          obtain ⟨i0, hi0, hz0, hz1, hz2⟩ := info_parts info64
          have HI : Hid (Try.prog.info? 64 = some i0 ∧ i0.zero = some (.agg #[.int .i64 0, .bool false, .bool false, .int .i64 0, .int .i64 0, .int .i64 0, .int .i64 0, .int .i64 0]) ∧ i0.size = 8 ∧ i0.bytes = 56) := hd ⟨hi0, hz0, hz1, hz2⟩
          clear hi0 hz0 hz1 hz2
          go_upto_region 6 with (fail)
          refine wp_region_any (by kernel_rfl) ?_
          refine wpAny_ready (rs := [0, 1]) (by kernel_rfl) (by simp) (AllReady.cons rfl (fun K hK => ?_) (AllReady.cons rfl (fun K hK => ?_) AllReady.nil))
          · go_simp
            refine hK _ _ ?_
            clear hK K
            refine wpAny_ready (rs := [1]) (by kernel_rfl) (by simp) (AllReady.cons rfl (fun K hK => ?_) AllReady.nil)
            go_simp
            refine hK _ _ ?_
            clear hK K
            refine wpAny_ready (rs := [2]) (by kernel_rfl) (by simp) (AllReady.cons rfl (fun K hK => ?_) AllReady.nil)
            go_simp
            refine HN.out.mono ?_
            rintro e v ⟨rfl, hBv, hG⟩
            have b0v := hG.blk hD.b0.drew (by omega)
            have c0v := b0v.c1
            have hG0 : Ext w v := hG.ext hD.ext.drew (by omega)
            have o0 := hG.own (((Ext.refl wr).drew).own hD.own) (own_blk_ne hD.own hD.b3 (by decide))
            have b1v := hG.blk hD.b1.drew (by omega)
            have b2v := hG.blk hD.b2.drew (by omega)
            have hvs : s3 + 1 ≤ v.heap.size := by have := hBv.lt; omega
            refine hK _ _ ?_
            clear hK K
            refine wpAny_ready (rs := [3]) (by kernel_rfl) (by simp) (AllReady.cons rfl (fun K hK => ?_) AllReady.nil)
            simp only [insC]
            go_simp
            have c0a := (b0v.alloc (.cells #[.int .i64 xop, .bool xn, .bool xr, .int .i64 xs, .int .i64 xd, .int .i64 xx, .int .i64 xo, .int .i64 xi] 64)).c1
            refine hK _ _ ?_
            clear hK K
            refine wpAny_ready (rs := [4]) (by kernel_rfl) (by simp) (AllReady.cons rfl (fun K hK => ?_) AllReady.nil)
            refine step_app _ (by rfl) (.tmp 23) (.tmp 26) 57 (by rfl) (s3 + 1) 64 i0 _ 8 56 Try.underlying57 HI.out.1 HI.out.2.1 HI.out.2.2.1 HI.out.2.2.2 (by rfl) (by omega) (.slice B l.length d) l.length (cv l) (by rfl) ((Ext.new v _).own o0) (some ⟨v.heap.size, 0, none⟩) 1 1 (insC ⟨xop, xn, xr, xs, xd, xx, xo, xi⟩).toList (by rfl) (Rd.eight _ _) (insC_one _) (by omega) (by omega) (by simp; omega) ?_
            intro v5 w5 own5 hg5 hat5
            have hA5 := App.of_law hg5 hat5
            have b0w := hA5.blk (b0v.alloc _) (own_blk_ne o0 b0v (by decide))
            have b1w := hA5.blk (b1v.alloc _) (own_blk_ne o0 b1v (by decide))
            have b2w := hA5.blk (b2v.alloc _) (own_blk_ne o0 b2v (by decide))
            have b3w := hA5.blk (hBv.alloc _) (own_blk_ne o0 hBv (by decide))
            have x5 := hA5.ext_own (hG0.alloc _) ((Ext.new v _).own o0) (by omega)
            obtain ⟨B5, d5, rfl⟩ := own_slice own5
            have c0w := b0w.c1
            have f0w := b0w.free 0
            clear c0v c0a c0 r0 r1
            refine hK _ _ ?_
            clear hK K
            refine wpAny_ready (rs := [5]) (by kernel_rfl) (by simp) (AllReady.cons rfl (fun K hK => ?_) AllReady.nil)
            go_simp
            refine hK _ _ ?_
            clear hK K
            refine wpAny_done (by kernel_rfl) ?_ _
            have HDS : DS w (w5.setCell ⟨w.heap.size, 0, none⟩ (.slice B5 (l.length + 1) d5)) s1 s2 s3 A N c (p + k) B5 (l.length + 1) d5 (l ++ [⟨xop, xn, xr, xs, xd, xx, xo, xi⟩]) :=
              ⟨x5.set (p := ⟨w.heap.size, 0, none⟩) (by simp only; omega) _, b0w.set_ 0 _, b1w.far (p := ⟨w.heap.size, 0, none⟩) (by simp only; omega) _, b2w.far (p := ⟨w.heap.size, 0, none⟩) (by simp only; omega) _, b3w.far (p := ⟨w.heap.size, 0, none⟩) (by simp only; omega) _,
                by have h := own_set own5 (p := ⟨w.heap.size, 0, none⟩) (own_blk_ne own5 b0w (by decide)) (.slice B5 (l.length + 1) d5); rw [cv_snoc]; exact h, by simp⟩
            clear hBv hG b0v hG0 o0 b1v b2v hvs own5 hg5 hat5 hA5 b0w b1w b2w b3w x5 c0w f0w
            go_wp2
            go_roundw
            case rel => exact ⟨p + k, B5, l.length + 1, d5, _, f', HDS, by omega, by omega, HF2⟩
            case measure =>
              have z1 := HDS.b3.c2.2
              have z0 := hD.b3.c2.2
              simp only [atOf, z0, z1, intOf]
              omega
          · go_simp
            refine hK _ _ ?_
            clear hK K
            refine wpAny_ready (rs := [0, 2]) (by kernel_rfl) (by simp) (AllReady.cons rfl (fun K hK => ?_) (AllReady.cons rfl (fun K hK => ?_) AllReady.nil))
            · go_simp
              refine hK _ _ ?_
              clear hK K
              refine wpAny_ready (rs := [2]) (by kernel_rfl) (by simp) (AllReady.cons rfl (fun K hK => ?_) AllReady.nil)
              go_simp
              refine HN.out.mono ?_
              rintro e v ⟨rfl, hBv, hG⟩
              have b0v := hG.blk hD.b0.drew (by omega)
              have c0v := b0v.c1
              have hG0 : Ext w v := hG.ext hD.ext.drew (by omega)
              have o0 := hG.own (((Ext.refl wr).drew).own hD.own) (own_blk_ne hD.own hD.b3 (by decide))
              have b1v := hG.blk hD.b1.drew (by omega)
              have b2v := hG.blk hD.b2.drew (by omega)
              have hvs : s3 + 1 ≤ v.heap.size := by have := hBv.lt; omega
              refine hK _ _ ?_
              clear hK K
              refine wpAny_ready (rs := [3]) (by kernel_rfl) (by simp) (AllReady.cons rfl (fun K hK => ?_) AllReady.nil)
              simp only [insC]
              go_simp
              have c0a := (b0v.alloc (.cells #[.int .i64 xop, .bool xn, .bool xr, .int .i64 xs, .int .i64 xd, .int .i64 xx, .int .i64 xo, .int .i64 xi] 64)).c1
              refine hK _ _ ?_
              clear hK K
              refine wpAny_ready (rs := [4]) (by kernel_rfl) (by simp) (AllReady.cons rfl (fun K hK => ?_) AllReady.nil)
              refine step_app _ (by rfl) (.tmp 23) (.tmp 26) 57 (by rfl) (s3 + 1) 64 i0 _ 8 56 Try.underlying57 HI.out.1 HI.out.2.1 HI.out.2.2.1 HI.out.2.2.2 (by rfl) (by omega) (.slice B l.length d) l.length (cv l) (by rfl) ((Ext.new v _).own o0) (some ⟨v.heap.size, 0, none⟩) 1 1 (insC ⟨xop, xn, xr, xs, xd, xx, xo, xi⟩).toList (by rfl) (Rd.eight _ _) (insC_one _) (by omega) (by omega) (by simp; omega) ?_
              intro v5 w5 own5 hg5 hat5
              have hA5 := App.of_law hg5 hat5
              have b0w := hA5.blk (b0v.alloc _) (own_blk_ne o0 b0v (by decide))
              have b1w := hA5.blk (b1v.alloc _) (own_blk_ne o0 b1v (by decide))
              have b2w := hA5.blk (b2v.alloc _) (own_blk_ne o0 b2v (by decide))
              have b3w := hA5.blk (hBv.alloc _) (own_blk_ne o0 hBv (by decide))
              have x5 := hA5.ext_own (hG0.alloc _) ((Ext.new v _).own o0) (by omega)
              obtain ⟨B5, d5, rfl⟩ := own_slice own5
              have c0w := b0w.c1
              have f0w := b0w.free 0
              clear c0v c0a c0 r0 r1
              refine hK _ _ ?_
              clear hK K
              refine wpAny_ready (rs := [5]) (by kernel_rfl) (by simp) (AllReady.cons rfl (fun K hK => ?_) AllReady.nil)
              go_simp
              refine hK _ _ ?_
              clear hK K
              refine wpAny_done (by kernel_rfl) ?_ _
              have HDS : DS w (w5.setCell ⟨w.heap.size, 0, none⟩ (.slice B5 (l.length + 1) d5)) s1 s2 s3 A N c (p + k) B5 (l.length + 1) d5 (l ++ [⟨xop, xn, xr, xs, xd, xx, xo, xi⟩]) :=
                ⟨x5.set (p := ⟨w.heap.size, 0, none⟩) (by simp only; omega) _, b0w.set_ 0 _, b1w.far (p := ⟨w.heap.size, 0, none⟩) (by simp only; omega) _, b2w.far (p := ⟨w.heap.size, 0, none⟩) (by simp only; omega) _, b3w.far (p := ⟨w.heap.size, 0, none⟩) (by simp only; omega) _,
                  by have h := own_set own5 (p := ⟨w.heap.size, 0, none⟩) (own_blk_ne own5 b0w (by decide)) (.slice B5 (l.length + 1) d5); rw [cv_snoc]; exact h, by simp⟩
              clear hBv hG b0v hG0 o0 b1v b2v hvs own5 hg5 hat5 hA5 b0w b1w b2w b3w x5 c0w f0w
              go_wp2
              go_roundw
              case rel => exact ⟨p + k, B5, l.length + 1, d5, _, f', HDS, by omega, by omega, HF2⟩
              case measure =>
                have z1 := HDS.b3.c2.2
                have z0 := hD.b3.c2.2
                simp only [atOf, z0, z1, intOf]
                omega
            · go_simp
              refine HN.out.mono ?_
              rintro e v ⟨rfl, hBv, hG⟩
              have b0v := hG.blk hD.b0.drew (by omega)
              have c0v := b0v.c1
              have hG0 : Ext w v := hG.ext hD.ext.drew (by omega)
              have o0 := hG.own (((Ext.refl wr).drew).own hD.own) (own_blk_ne hD.own hD.b3 (by decide))
              have b1v := hG.blk hD.b1.drew (by omega)
              have b2v := hG.blk hD.b2.drew (by omega)
              have hvs : s3 + 1 ≤ v.heap.size := by have := hBv.lt; omega
              refine hK _ _ ?_
              clear hK K
              refine wpAny_ready (rs := [0, 3]) (by kernel_rfl) (by simp) (AllReady.cons rfl (fun K hK => ?_) (AllReady.cons rfl (fun K hK => ?_) AllReady.nil))
              · go_simp
                refine hK _ _ ?_
                clear hK K
                refine wpAny_ready (rs := [3]) (by kernel_rfl) (by simp) (AllReady.cons rfl (fun K hK => ?_) AllReady.nil)
                simp only [insC]
                go_simp
                have c0a := (b0v.alloc (.cells #[.int .i64 xop, .bool xn, .bool xr, .int .i64 xs, .int .i64 xd, .int .i64 xx, .int .i64 xo, .int .i64 xi] 64)).c1
                refine hK _ _ ?_
                clear hK K
                refine wpAny_ready (rs := [4]) (by kernel_rfl) (by simp) (AllReady.cons rfl (fun K hK => ?_) AllReady.nil)
                refine step_app _ (by rfl) (.tmp 23) (.tmp 26) 57 (by rfl) (s3 + 1) 64 i0 _ 8 56 Try.underlying57 HI.out.1 HI.out.2.1 HI.out.2.2.1 HI.out.2.2.2 (by rfl) (by omega) (.slice B l.length d) l.length (cv l) (by rfl) ((Ext.new v _).own o0) (some ⟨v.heap.size, 0, none⟩) 1 1 (insC ⟨xop, xn, xr, xs, xd, xx, xo, xi⟩).toList (by rfl) (Rd.eight _ _) (insC_one _) (by omega) (by omega) (by simp; omega) ?_
                intro v5 w5 own5 hg5 hat5
                have hA5 := App.of_law hg5 hat5
                have b0w := hA5.blk (b0v.alloc _) (own_blk_ne o0 b0v (by decide))
                have b1w := hA5.blk (b1v.alloc _) (own_blk_ne o0 b1v (by decide))
                have b2w := hA5.blk (b2v.alloc _) (own_blk_ne o0 b2v (by decide))
                have b3w := hA5.blk (hBv.alloc _) (own_blk_ne o0 hBv (by decide))
                have x5 := hA5.ext_own (hG0.alloc _) ((Ext.new v _).own o0) (by omega)
                obtain ⟨B5, d5, rfl⟩ := own_slice own5
                have c0w := b0w.c1
                have f0w := b0w.free 0
                clear c0v c0a c0 r0 r1
                refine hK _ _ ?_
                clear hK K
                refine wpAny_ready (rs := [5]) (by kernel_rfl) (by simp) (AllReady.cons rfl (fun K hK => ?_) AllReady.nil)
                go_simp
                refine hK _ _ ?_
                clear hK K
                refine wpAny_done (by kernel_rfl) ?_ _
                have HDS : DS w (w5.setCell ⟨w.heap.size, 0, none⟩ (.slice B5 (l.length + 1) d5)) s1 s2 s3 A N c (p + k) B5 (l.length + 1) d5 (l ++ [⟨xop, xn, xr, xs, xd, xx, xo, xi⟩]) :=
                  ⟨x5.set (p := ⟨w.heap.size, 0, none⟩) (by simp only; omega) _, b0w.set_ 0 _, b1w.far (p := ⟨w.heap.size, 0, none⟩) (by simp only; omega) _, b2w.far (p := ⟨w.heap.size, 0, none⟩) (by simp only; omega) _, b3w.far (p := ⟨w.heap.size, 0, none⟩) (by simp only; omega) _,
                    by have h := own_set own5 (p := ⟨w.heap.size, 0, none⟩) (own_blk_ne own5 b0w (by decide)) (.slice B5 (l.length + 1) d5); rw [cv_snoc]; exact h, by simp⟩
                clear hBv hG b0v hG0 o0 b1v b2v hvs own5 hg5 hat5 hA5 b0w b1w b2w b3w x5 c0w f0w
                go_wp2
                go_roundw
                case rel => exact ⟨p + k, B5, l.length + 1, d5, _, f', HDS, by omega, by omega, HF2⟩
                case measure =>
                  have z1 := HDS.b3.c2.2
                  have z0 := hD.b3.c2.2
                  simp only [atOf, z0, z1, intOf]
                  omega
              · simp only [insC]
                go_simp
                have c0a := (b0v.alloc (.cells #[.int .i64 xop, .bool xn, .bool xr, .int .i64 xs, .int .i64 xd, .int .i64 xx, .int .i64 xo, .int .i64 xi] 64)).c1
                refine hK _ _ ?_
                clear hK K
                refine wpAny_ready (rs := [0]) (by kernel_rfl) (by simp) (AllReady.cons rfl (fun K hK => ?_) AllReady.nil)
                go_simp
                refine hK _ _ ?_
                clear hK K
                refine wpAny_ready (rs := [4]) (by kernel_rfl) (by simp) (AllReady.cons rfl (fun K hK => ?_) AllReady.nil)
                refine step_app _ (by rfl) (.tmp 23) (.tmp 26) 57 (by rfl) (s3 + 1) 64 i0 _ 8 56 Try.underlying57 HI.out.1 HI.out.2.1 HI.out.2.2.1 HI.out.2.2.2 (by rfl) (by omega) (.slice B l.length d) l.length (cv l) (by rfl) ((Ext.new v _).own o0) (some ⟨v.heap.size, 0, none⟩) 1 1 (insC ⟨xop, xn, xr, xs, xd, xx, xo, xi⟩).toList (by rfl) (Rd.eight _ _) (insC_one _) (by omega) (by omega) (by simp; omega) ?_
                intro v5 w5 own5 hg5 hat5
                have hA5 := App.of_law hg5 hat5
                have b0w := hA5.blk (b0v.alloc _) (own_blk_ne o0 b0v (by decide))
                have b1w := hA5.blk (b1v.alloc _) (own_blk_ne o0 b1v (by decide))
                have b2w := hA5.blk (b2v.alloc _) (own_blk_ne o0 b2v (by decide))
                have b3w := hA5.blk (hBv.alloc _) (own_blk_ne o0 hBv (by decide))
                have x5 := hA5.ext_own (hG0.alloc _) ((Ext.new v _).own o0) (by omega)
                obtain ⟨B5, d5, rfl⟩ := own_slice own5
                have c0w := b0w.c1
                have f0w := b0w.free 0
                clear c0v c0a c0 r0 r1
                refine hK _ _ ?_
                clear hK K
                refine wpAny_ready (rs := [5]) (by kernel_rfl) (by simp) (AllReady.cons rfl (fun K hK => ?_) AllReady.nil)
                go_simp
                refine hK _ _ ?_
                clear hK K
                refine wpAny_done (by kernel_rfl) ?_ _
                have HDS : DS w (w5.setCell ⟨w.heap.size, 0, none⟩ (.slice B5 (l.length + 1) d5)) s1 s2 s3 A N c (p + k) B5 (l.length + 1) d5 (l ++ [⟨xop, xn, xr, xs, xd, xx, xo, xi⟩]) :=
                  ⟨x5.set (p := ⟨w.heap.size, 0, none⟩) (by simp only; omega) _, b0w.set_ 0 _, b1w.far (p := ⟨w.heap.size, 0, none⟩) (by simp only; omega) _, b2w.far (p := ⟨w.heap.size, 0, none⟩) (by simp only; omega) _, b3w.far (p := ⟨w.heap.size, 0, none⟩) (by simp only; omega) _,
                    by have h := own_set own5 (p := ⟨w.heap.size, 0, none⟩) (own_blk_ne own5 b0w (by decide)) (.slice B5 (l.length + 1) d5); rw [cv_snoc]; exact h, by simp⟩
                clear hBv hG b0v hG0 o0 b1v b2v hvs own5 hg5 hat5 hA5 b0w b1w b2w b3w x5 c0w f0w
                go_wp2
                go_roundw
                case rel => exact ⟨p + k, B5, l.length + 1, d5, _, f', HDS, by omega, by omega, HF2⟩
                case measure =>
                  have z1 := HDS.b3.c2.2
                  have z0 := hD.b3.c2.2
                  simp only [atOf, z0, z1, intOf]
                  omega
    · have hXe : X = .ok l := by
        rw [← HF.out.2, Cd.readFrom_end (by rw [HL.out]; omega)]
      have HXE := hd hXe
      have f0 := hD.b0.free 0
      have f1 := hD.b1.free 0
      have f2 := hD.b2.free 0
      have c1 := hD.b1.c1
      have c2 := hD.b2.c1
      have e1 : ¬ 8 * (p : Int) < N := by omega
      clear hXe
      go_wp2
      refine leaves_cons (f := 83) (args := #[.pointer (some ⟨w.heap.size, 0, none⟩), .pointer (some ⟨s1, 0, none⟩), .pointer (some ⟨s2, 0, none⟩)]) (by simp) (by simp [go_sem]) ?_
      refine (catch_idle _ _ _ _).mono ?_
      rintro e u' w'' ⟨rfl, rfl, rfl⟩
      have B0 : Blk (((wr.setCell ⟨w.heap.size, 0, none⟩ (.slice B l.length d)).setCell ⟨s1, 0, none⟩ (.int .i64 0)).setCell ⟨s2, 0, none⟩ (.int .i64 0)) w.heap.size 57 #[.slice B l.length d] := ((hD.b0.set_ 0 _).far (p := ⟨s1, 0, none⟩) (by simp only; omega) _).far (p := ⟨s2, 0, none⟩) (by simp only; omega) _
      have B1 : Blk (((wr.setCell ⟨w.heap.size, 0, none⟩ (.slice B l.length d)).setCell ⟨s1, 0, none⟩ (.int .i64 0)).setCell ⟨s2, 0, none⟩ (.int .i64 0)) s1 3 #[.int .i64 0] := ((hD.b1.far (p := ⟨w.heap.size, 0, none⟩) (by simp only; omega) _).set_ 0 _).far (p := ⟨s2, 0, none⟩) (by simp only; omega) _
      have B2 : Blk (((wr.setCell ⟨w.heap.size, 0, none⟩ (.slice B l.length d)).setCell ⟨s1, 0, none⟩ (.int .i64 0)).setCell ⟨s2, 0, none⟩ (.int .i64 0)) s2 36 #[.int .i64 0] := ((hD.b2.far (p := ⟨w.heap.size, 0, none⟩) (by simp only; omega) _).far (p := ⟨s1, 0, none⟩) (by simp only; omega) _).set_ 0 _
      have OW := own_base (base' := w.heap.size) (own_set (own_set (own_set hD.own (p := ⟨w.heap.size, 0, none⟩) (own_blk_ne hD.own hD.b0 (by decide)) (.slice B l.length d)) (p := ⟨s1, 0, none⟩) (own_blk_ne hD.own hD.b1 (by decide)) (.int .i64 0)) (p := ⟨s2, 0, none⟩) (own_blk_ne hD.own hD.b2 (by decide)) (.int .i64 0)) (by omega)
      have EX : Ext w (((wr.setCell ⟨w.heap.size, 0, none⟩ (.slice B l.length d)).setCell ⟨s1, 0, none⟩ (.int .i64 0)).setCell ⟨s2, 0, none⟩ (.int .i64 0)) := ((hD.ext.set (p := ⟨w.heap.size, 0, none⟩) (by simp only; omega) _).set (p := ⟨s1, 0, none⟩) (by simp only; omega) _).set (p := ⟨s2, 0, none⟩) (by simp only; omega) _
      generalize (((wr.setCell ⟨w.heap.size, 0, none⟩ (.slice B l.length d)).setCell ⟨s1, 0, none⟩ (.int .i64 0)).setCell ⟨s2, 0, none⟩ (.int .i64 0)) = WW at B0 B1 B2 OW EX ⊢
      have k0 := B0.c1
      have k1 := B1.c1
      have k2 := B2.c1
      simp [Leaves, settle, results, Try.results42, go_sem, k0, k1, k2]
      rw [HXE.out]
      exact ⟨B, l.length, d, rfl, rfl, OW, EX⟩

end Go.Proofs.Ytfcbedkidjclhaa
